/- Frames of the document: the walk. -/
import Derived.Test.YtgepcdohgiiaaaaF1
namespace Go.Proofs.Ytgepcdohgiiaaaa
open Go.RowKit Go.Shelf
open Go.Proofs.YtgepcdohgiiaaaaW.PrintWords (own_slice Kd nums step_append_cells print_make)
set_option linter.unusedSimpArgs false
set_option linter.unusedVariables false

/-- Records in memory. -/
def RecsC (w : World) (A : Option Addr) (R : List RecM) : Prop :=
  ∀ i, i < R.length → ∃ x, A = some x ∧ w.cell? (x.add (i * 8)) = some (.int .u8 (R.getD i r3).clock) ∧
    w.cell? ⟨(x.add (i * 8)).block, (x.add (i * 8)).off + 1, none⟩ = some (.int .u8 (R.getD i r3).pixel) ∧
    w.cell? ⟨(x.add (i * 8)).block, (x.add (i * 8)).off + 2, none⟩ = some (.bool (R.getD i r3).blank) ∧
    w.cell? ⟨(x.add (i * 8)).block, (x.add (i * 8)).off + 3, none⟩ = some (.bool (R.getD i r3).sync) ∧
    w.cell? ⟨(x.add (i * 8)).block, (x.add (i * 8)).off + 4, none⟩ = some (.int .u8 (R.getD i r3).audio) ∧
    w.cell? ⟨(x.add (i * 8)).block, (x.add (i * 8)).off + 5, none⟩ = some (.int .u16 (R.getD i r3).addr) ∧
    w.cell? ⟨(x.add (i * 8)).block, (x.add (i * 8)).off + 6, none⟩ = some (.bool (R.getD i r3).write) ∧
    w.cell? ⟨(x.add (i * 8)).block, (x.add (i * 8)).off + 7, none⟩ = some (.int .u8 (R.getD i r3).data) ∧
    0 ≤ (R.getD i r3).clock ∧ (R.getD i r3).clock ≤ 255
theorem RecsC.below {w w' : World} {A : Option Addr} {R : List RecM} {m : Nat} (h : RecsC w A R) (hm : w.heap.size ≤ m) (hb : Below m w w') : RecsC w' A R := fun i hi => by
  obtain ⟨x, e, h0, h1, h2, h3, h4, h5, h6, h7, h8⟩ := h i hi
  have hl := World.block_lt_of_cell? w _ h0
  have k : ∀ n, w'.cell? ⟨(x.add (i * 8)).block, n, none⟩ = w.cell? ⟨(x.add (i * 8)).block, n, none⟩ := fun n => hb.cell (p := ⟨(x.add (i * 8)).block, n, none⟩) (by simp; omega)
  exact ⟨x, e, (hb.cell (by omega)).trans h0, (k _).trans h1, (k _).trans h2, (k _).trans h3, (k _).trans h4, (k _).trans h5, (k _).trans h6, (k _).trans h7, h8⟩

def refStep (S : RefM) (i : Int) (r : RecM) : RefM :=
  if r.clock = 0 then
    if r.sync = true ∧ S.sync = false ∧ 0 < S.rows.length then ⟨S.outs ++ [S.rows], S.ats ++ [i], [List.replicate 160 0], r.sync, false⟩
    else if 320 ≤ S.rows.length then ⟨S.outs, S.ats, S.rows, r.sync, true⟩ else ⟨S.outs, S.ats, S.rows ++ [List.replicate 160 0], r.sync, false⟩
  else if 68 ≤ r.clock ∧ S.lost = false ∧ r.clock < 228 then ⟨S.outs, S.ats, setPx S.rows (r.clock - 68).toNat (S.rows.length - 1) r.pixel, S.sync, S.lost⟩ else S
def refAt (R : List RecM) : Nat → RefM
  | 0 => ⟨[], [], [], false, true⟩
  | k + 1 => refStep (refAt R k) k (R.getD k r3)
theorem refStep_le (S : RefM) (i : Int) (r : RecM) : (refStep S i r).outs.length ≤ S.outs.length + 1 ∧ (refStep S i r).ats.length ≤ S.ats.length + 1 ∧ (S.rows.length ≤ 320 → (refStep S i r).rows.length ≤ 320) ∧ ((S.lost = false → 0 < S.rows.length) → (refStep S i r).lost = false → 0 < (refStep S i r).rows.length) := by
  unfold refStep
  repeat' split
  all_goals simp [setPx]
  all_goals first | omega | (intro h; omega) | skip
theorem refAt_le (R : List RecM) (k : Nat) : (refAt R k).outs.length ≤ k ∧ (refAt R k).ats.length ≤ k ∧ (refAt R k).rows.length ≤ 320 ∧ ((refAt R k).lost = false → 0 < (refAt R k).rows.length) := by
  induction k with
  | zero => exact ⟨by simp [refAt], by simp [refAt], by simp [refAt], by simp [refAt]⟩
  | succ k ih =>
    obtain ⟨h1, h2, h3, h4⟩ := refStep_le (refAt R k) k (R.getD k r3)
    exact ⟨by show (refStep _ _ _).outs.length ≤ _; omega, by show (refStep _ _ _).ats.length ≤ _; omega, h3 ih.2.2.1, h4 ih.2.2.2⟩
theorem Try.info27 : (Try.prog.info? 27).map (fun i => (i.zero, i.size, i.bytes)) = some (some (.slice none 0 0), 1, 24) := by kernel_rfl
theorem Try.info3 : (Try.prog.info? 3).map (fun i => (i.zero, i.size, i.bytes)) = some (some (.int .i64 0), 1, 8) := by kernel_rfl
/-- A record's block, and its cells. -/
def RecB (w : World) (b : Nat) (r : RecM) : Prop := w.heap[b]? = some (.cells r.cells 40 (0, 0))
theorem RecB.cells {w : World} {b : Nat} {r : RecM} (h : RecB w b r) : w.cell? ⟨b, 0, none⟩ = some (.int .u8 r.clock) ∧ w.cell? ⟨b, 1, none⟩ = some (.int .u8 r.pixel) ∧ w.cell? ⟨b, 3, none⟩ = some (.bool r.sync) :=
  ⟨(cell_row h 0).1, (cell_row h 1).1, (cell_row h 3).1⟩
theorem RecB.grown {w w' : World} {b : Nat} {r : RecM} (h : RecB w b r) {base e n : Nat} {v : Value} {xs : List Value} (ho : w.ownsRow base e 1 v n xs) (he : (40 : Nat) ≠ e) (gr : w.grownBy w' v.ownBlock) : RecB w' b r :=
  (gr.block b (lt_of_block h) (fun k => own_ne_block ho h he k.symm)).trans h

def RefI (R : List RecM) (w wr : World) (y : Nat) (vo va vr : Value) : Prop := ∃ m vs bs, IsRef wr w.heap.size m vs bs (refAt R y) vo va vr ∧ Below w.heap.size w wr

set_option maxHeartbeats 8000000 in
set_option maxRecDepth 100000 in
theorem frames_in (w : World) (A : Option Addr) (R : List RecM) (c : Nat) (hR : RecsC w A R) (hl : R.length ≤ 8400) :
    Calls Try.prog 14 #[.slice A R.length c] w fun e w' => ∃ vo va vr, e = .returned (.tuple #[vo, va, vr]) ∧ RefI R w w' R.length vo va vr := by
  have hu40 := Try.underlying40
  have hmk : ∀ W : World, (Instr.makeSlice 45 (.int .i64 160) (.int .i64 160)).run Try.prog W = .ok (.slice (some ⟨W.heap.size, 0, none⟩) 160 160) (W.alloc (.cells zrow 5)) :=
    print_make (P := Try.prog) 45 5 .u8 1 Try.underlying45 Try.info5 (by omega) 160 (by omega)
  have HR := Lib.hid hR
  clear hR
  go_enter Try.func14, Try.ntmps14
  go_wp2_with fail
  go_loopw [5, 6, 7, 8, 9, 10] (fun vo va vr vs vl i wr => ∃ y : Nat, y ≤ R.length ∧ i = .int .i64 y ∧ vs = .bool (refAt R y).sync ∧ vl = .bool (refAt R y).lost ∧ Hid (RefI R w wr y vo va vr))
    (fun _ _ _ _ _ i _ => R.length - (intOf i).toNat)
  case atStart => exact ⟨0, by omega, rfl, rfl, rfl, Lib.hid ⟨w.heap.size, [], [], ⟨Nat.le_refl _, Nat.le_refl _, World.ownsRow_nil _ _ _ _, fun i hi => absurd hi (by simp [refAt]), World.ownsRow_nil _ _ _ _, World.ownsRow_nil _ _ _ _, ⟨rfl, by simp, by simp, by simp [refAt]⟩⟩, Below.refl _ _⟩⟩
  case round =>
    obtain ⟨y, hy, rfl, rfl, rfl, ⟨m, vs, bs, HI, HB⟩⟩ := hrel
    by_cases hly : y < R.length
    · have hly' : (y : Int) < R.length := by omega
      obtain ⟨x, hx, q0, q1, q2, q3, q4, q5, q6, q7, hc0, hc1⟩ := (HR.out.below (Nat.le_refl _) HB) y hly
      subst hx
      obtain ⟨Ao, co, rfl⟩ := own_slice HI.out
      obtain ⟨Aa, ca, rfl⟩ := own_slice HI.at_
      obtain ⟨Ar, cr, rfl⟩ := own_slice HI.rows_
      have hle := refAt_le R y
      have hst : refAt R (y + 1) = refStep (refAt R y) y (R.getD y r3) := rfl
      generalize R.getD y r3 = r at *
      generalize refAt R y = S at *
      obtain ⟨clock, pixel, blank, sy, audio, addr, wrt, data⟩ := r
      simp only at q0 q1 q2 q3 q4 q5 q6 q7 hc0 hc1
      have HST := Lib.hid hst
      have HIR := Lib.hid HI
      have HBR := Lib.hid HB
      have HLE := Lib.hid hle
      clear hst HI HB hle
      have hyw : IntKind.i64.wrap ((y : Int) + 1) = (y : Int) + 1 := by rw [IntKind.wrap_i64]; omega
      have hk1 : CellsKept wr (wr.alloc (.cells #[.int .u8 clock, .int .u8 pixel, .bool blank, .bool sy, .int .u8 audio, .int .u16 addr, .bool wrt, .int .u8 data] 40)) := CellsKept.of_below ((Below.refl _ _).alloc (Nat.le_refl _) _)
      have HK1 := Lib.hid hk1
      clear hk1
      by_cases h0 : clock = 0
      · subst h0
        have hwF : ∀ W : World, CellsKept W W.drew := fun W _ _ _ _ h => h
        by_cases ht : sy = true ∧ S.sync = false ∧ 0 < S.rows.length
        · have hst' : refAt R (y + 1) = ⟨S.outs ++ [S.rows], S.ats ++ [(y : Int)], [List.replicate 160 0], true, false⟩ := by rw [HST.out]; unfold refStep; rw [if_pos rfl, if_pos ht]; simp [ht.1]
          have HST' := Lib.hid hst'
          clear hst'
          obtain ⟨rfl, t2, t3⟩ := ht
          obtain ⟨so, sa, sr, ss, sl⟩ := S
          simp only at t2 t3
          subst t2
          have t4 : decide (0 < sr.length) = true := by simpa using t3
          obtain ⟨W1, hW1⟩ : ∃ W1, W1 = wr.alloc (.cells #[.int .u8 0, .int .u8 pixel, .bool blank, .bool true, .int .u8 audio, .int .u16 addr, .bool wrt, .int .u8 data] 40) := ⟨_, rfl⟩
          have hI1 := HIR.out.kept HK1.out (by simp)
          have hB1 := HBR.out.alloc HBR.out.size (.cells #[.int .u8 0, .int .u8 pixel, .bool blank, .bool true, .int .u8 audio, .int .u16 addr, .bool wrt, .int .u8 data] 40)
          have hr1 : RecB W1 wr.heap.size ⟨0, pixel, blank, true, audio, addr, wrt, data⟩ := by rw [hW1]; exact alloc_new wr _
          rw [← hW1] at hI1 hB1
          have HI1 := Lib.hid hI1
          have HB1 := Lib.hid hB1
          have HR1 := Lib.hid hr1
          have HW1 := Lib.hid hW1
          clear hI1 hB1 hr1 hW1
          go_wp2_with (with_reducible refine append_one (w0 := w) (W := wr.alloc (.cells #[.int .u8 0, .int .u8 pixel, .bool blank, .bool true, .int .u8 audio, .int .u16 addr, .bool wrt, .int .u8 data] 40)) w.heap.size rfl (.tmp 36) (.tmp 38) 25 27 (.slice none 0 0) 1 24 rfl Try.underlying25 Try.info27 rfl (by decide) (by decide) (.slice Ao so.length co) so.length vs [.slice Ar sr.length cr] ?a1 ?a2 rfl ?a3 ?a4 ?a5 ?a6 ?a7 ?a8)
          case a3 => rfl
          case a4 => rw [← HW1.out]; exact HI1.out.out
          case a5 => rw [← HW1.out]; exact HB1.out
          case a6 => have := HBR.out.size; omega
          case a7 => have := HLE.out.1; omega
          case a8 =>
            rw [← HW1.out]
            intro v1 w2 HO2 HB2 gr2 hat2
            have hI2 := HI1.out.told HB1.out.size gr2 HO2
            have hr2 := HR1.out.grown HI1.out.out (by decide) gr2
            obtain ⟨A1, c1, rfl⟩ := own_slice HO2
            have HI2 := Lib.hid hI2
            have HR2 := Lib.hid hr2
            have HBB2 := Lib.hid HB2
            clear hI2 hr2 HB2 HO2 gr2 hat2
            go_wp2_with (with_reducible refine append_one (w0 := w) (W := w2) w.heap.size rfl (.tmp 40) (.tmp 42) 26 3 (.int .i64 0) 1 8 rfl Try.underlying26 Try.info3 rfl (by decide) (by decide) (.slice Aa sa.length ca) sa.length (nums .i64 sa) [.int .i64 y] ?b1 ?b2 rfl ?b3 ?b4 ?b5 ?b6 ?b7 ?b8)
            case b3 => rfl
            case b4 => exact HI2.out.at_
            case b5 => exact HBB2.out
            case b6 => exact HBB2.out.size
            case b7 => have := HLE.out.2.1; omega
            case b8 =>
              intro v2 w3 HO3 HB3 gr3 hat3
              have hI3 := HI2.out.at gr3 HO3
              have hr3 := HR2.out.grown HI2.out.at_ (by decide) gr3
              obtain ⟨A2, c2, rfl⟩ := own_slice HO3
              have HI3 := Lib.hid hI3
              have HR3 := Lib.hid hr3
              have HBB3 := Lib.hid HB3
              clear hI3 hr3 HB3 HO3 gr3 hat3
              obtain ⟨r0, -, r3'⟩ := HR3.out.cells
              simp only at r0 r3'
              obtain ⟨W4, hW4⟩ : ∃ W4, W4 = w3.alloc (.cells zrow 5) := ⟨_, rfl⟩
              have HW4 := Lib.hid hW4
              clear hW4
              go_wp2_with (with_reducible refine append_one (w0 := w3) (W := w3.alloc (.cells zrow 5)) w2.heap.size rfl (.tmp 51) (.tmp 53) 27 45 (.slice none 0 0) 1 24 rfl Try.underlying27 Try.info45 rfl (by decide) (by decide) (.slice none 0 0) 0 [] [.slice (some ⟨w3.heap.size, 0, none⟩) 160 160] ?d1 ?d2 rfl ?d3 ?d4 ?d5 ?d6 ?d7 ?d8)
              case d3 => rfl
              case d4 => exact World.ownsRow_nil _ _ _ _
              case d5 => exact (Below.refl _ _).alloc HI3.out.size _
              case d6 => have := HI3.out.size; omega
              case d8 =>
                intro v3 w5 HO5 HB5 gr5 hat5
                have hI5 := IsRef.snoc (g := w3.heap.size) (r := List.replicate 160 0) (HI3.out.kept (w' := w3.alloc (.cells zrow 5)) (CellsKept.of_below ((Below.refl _ _).alloc (Nat.le_refl _) _)) (by simp)) (by rw [← zrow_nums]; exact alloc_new w3 _) (by simp) HI3.out.size (by simp) gr5 HO5
                have hr5 : RecB w5 wr.heap.size ⟨0, pixel, blank, true, audio, addr, wrt, data⟩ := (gr5.block _ (by simp; have := lt_of_block HR3.out; omega) (by simp [Value.ownBlock])).trans ((Below.heap_alloc _ _ _ (lt_of_block HR3.out)).trans HR3.out)
                obtain ⟨A3, c3, rfl⟩ := own_slice HO5
                obtain ⟨r0, -, r3'⟩ := hr5.cells
                simp only at r0 r3'
                have HI5 := Lib.hid hI5
                have HBB5 := Lib.hid HB5
                clear hI5 hr5 HB5 HO5 gr5 hat5
                go_wp2_with fail
                go_roundw
                case rel =>
                  refine ⟨y + 1, by omega, by first | rfl | go_num | simp, by rw [HST'.out], by rw [HST'.out], Lib.hid ⟨w2.heap.size, vs ++ [.slice Ar sr.length cr], [] ++ [w3.heap.size], ?_, HBB3.out.trans (HBB5.out.mono HBB2.out.size)⟩⟩
                  rw [HST'.out]
                  exact HI5.out.flags true false
                case measure => simp [intOf]; omega
        · have hst0 : refAt R (y + 1) = if 320 ≤ S.rows.length then ⟨S.outs, S.ats, S.rows, sy, true⟩ else ⟨S.outs, S.ats, S.rows ++ [List.replicate 160 0], sy, false⟩ := by rw [HST.out]; unfold refStep; rw [if_pos rfl, if_neg ht]
          have hno : sy = false ∨ (sy = true ∧ S.sync = true) ∨ (sy = true ∧ S.sync = false ∧ decide (0 < S.rows.length) = false) := by
            cases hsy : sy with
            | false => exact .inl rfl
            | true =>
              cases hss : S.sync with
              | true => exact .inr (.inl ⟨rfl, rfl⟩)
              | false => exact .inr (.inr ⟨rfl, rfl, by
                  exact decide_eq_false (fun h => ht ⟨hsy, hss, h⟩)⟩)
          clear ht
          obtain ⟨so, sa, sr, ss, sl⟩ := S
          simp only at hno hst0
          by_cases h320 : 320 ≤ sr.length
          · rw [if_pos h320] at hst0
            have HST' := Lib.hid hst0
            clear hst0
            have h32 : decide ((320 : Int) ≤ sr.length) = true := decide_eq_true (by omega)
            clear h320
            rcases hno with rfl | ⟨rfl, rfl⟩ | ⟨rfl, rfl, hn2⟩
            all_goals
              go_wp2_with fail
              go_roundw
              case rel => exact ⟨y + 1, by omega, by first | rfl | go_num | simp, by rw [HST'.out], by rw [HST'.out], Lib.hid ⟨m, vs, bs, by rw [HST'.out]; exact (HIR.out.kept HK1.out (by simp)).flags _ _, HBR.out.alloc HBR.out.size _⟩⟩
              case measure => simp [intOf]; omega
          · rw [if_neg h320] at hst0
            have HST' := Lib.hid hst0
            clear hst0
            have h32 : decide ((320 : Int) ≤ sr.length) = false := decide_eq_false (by omega)
            have h319 : sr.length ≤ 319 := by omega
            clear h320
            have hy84 : y ≤ 8400 := by omega
            rcases hno with rfl | ⟨rfl, rfl⟩ | ⟨rfl, rfl, hn2⟩
            · have HG := Lib.hid (HIR.out.kept (w' := (wr.alloc (.cells #[.int .u8 0, .int .u8 pixel, .bool blank, .bool false, .int .u8 audio, .int .u16 addr, .bool wrt, .int .u8 data] 40)).alloc (.cells zrow 5)) (CellsKept.of_below (((Below.refl _ _).alloc (Nat.le_refl _) _).alloc (by simp) _)) (by simp; omega))
              have HGB := Lib.hid (((Below.refl m wr).alloc HIR.out.size (.cells #[.int .u8 0, .int .u8 pixel, .bool blank, .bool false, .int .u8 audio, .int .u16 addr, .bool wrt, .int .u8 data] 40)).alloc (by have := HIR.out.size; simp; omega) (.cells zrow 5))
              have hrr : RecB (wr.alloc (.cells #[.int .u8 0, .int .u8 pixel, .bool blank, .bool false, .int .u8 audio, .int .u16 addr, .bool wrt, .int .u8 data] 40)) wr.heap.size ⟨0, pixel, blank, false, audio, addr, wrt, data⟩ := alloc_new wr _
              have HRR := Lib.hid (show RecB ((wr.alloc (.cells #[.int .u8 0, .int .u8 pixel, .bool blank, .bool false, .int .u8 audio, .int .u16 addr, .bool wrt, .int .u8 data] 40)).alloc (.cells zrow 5)) wr.heap.size ⟨0, pixel, blank, false, audio, addr, wrt, data⟩ from (Below.heap_alloc _ _ _ (by simp)).trans hrr)
              clear hrr
              go_wp2_with (at_builtin; refine append_one (w0 := wr) (W := _) m rfl (.tmp 51) (.tmp 53) 27 45 (.slice none 0 0) 1 24 rfl Try.underlying27 Try.info45 rfl (by decide) (by decide) (.slice Ar sr.length cr) sr.length (bs.map (rowV 160)) [.slice (some ⟨wr.heap.size + 1, 0, none⟩) 160 160] (by simp [Act.eval, Act.put]) (by simp [Act.eval, Act.put]) rfl (fun u hu => by simp at hu; subst hu; rfl) HG.out.rows_ HGB.out (by have := HIR.out.size; simp; omega) (by omega) ?_)
              intro v1 w2 HO2 HB2 gr2 hat2
              have hI2 := IsRef.snoc (g := wr.heap.size + 1) (r := List.replicate 160 0) HG.out (by rw [← zrow_nums]; simpa using alloc_new (wr.alloc (.cells #[.int .u8 0, .int .u8 pixel, .bool blank, .bool false, .int .u8 audio, .int .u16 addr, .bool wrt, .int .u8 data] 40)) (.cells zrow 5)) (by simp) (by have := HIR.out.size; omega) (fun hm => by have := (HIR.out.row.mem _ hm).1; omega) gr2 HO2
              have hr2 := HRR.out.grown HG.out.rows_ (by decide) gr2
              obtain ⟨r0, -, r3'⟩ := hr2.cells
              simp only at r0 r3'
              obtain ⟨A1, c1, rfl⟩ := own_slice HO2
              have HI2 := Lib.hid hI2
              have HBB2 := Lib.hid HB2
              clear hI2 hr2 HB2 HO2 gr2 hat2
              go_wp2_with fail
              go_roundw
              case rel =>
                refine ⟨y + 1, by omega, by first | rfl | go_num | simp, by rw [HST'.out], by rw [HST'.out], Lib.hid ⟨m, vs, bs ++ [wr.heap.size + 1], ?_, HBR.out.trans (HBB2.out.mono HIR.out.base)⟩⟩
                rw [HST'.out]
                exact HI2.out.flags false false
              case measure => simp [intOf]; omega
            · have HG := Lib.hid (HIR.out.kept (w' := (wr.alloc (.cells #[.int .u8 0, .int .u8 pixel, .bool blank, .bool true, .int .u8 audio, .int .u16 addr, .bool wrt, .int .u8 data] 40)).alloc (.cells zrow 5)) (CellsKept.of_below (((Below.refl _ _).alloc (Nat.le_refl _) _).alloc (by simp) _)) (by simp; omega))
              have HGB := Lib.hid (((Below.refl m wr).alloc HIR.out.size (.cells #[.int .u8 0, .int .u8 pixel, .bool blank, .bool true, .int .u8 audio, .int .u16 addr, .bool wrt, .int .u8 data] 40)).alloc (by have := HIR.out.size; simp; omega) (.cells zrow 5))
              have hrr : RecB (wr.alloc (.cells #[.int .u8 0, .int .u8 pixel, .bool blank, .bool true, .int .u8 audio, .int .u16 addr, .bool wrt, .int .u8 data] 40)) wr.heap.size ⟨0, pixel, blank, true, audio, addr, wrt, data⟩ := alloc_new wr _
              have HRR := Lib.hid (show RecB ((wr.alloc (.cells #[.int .u8 0, .int .u8 pixel, .bool blank, .bool true, .int .u8 audio, .int .u16 addr, .bool wrt, .int .u8 data] 40)).alloc (.cells zrow 5)) wr.heap.size ⟨0, pixel, blank, true, audio, addr, wrt, data⟩ from (Below.heap_alloc _ _ _ (by simp)).trans hrr)
              clear hrr
              go_wp2_with (at_builtin; refine append_one (w0 := wr) (W := _) m rfl (.tmp 51) (.tmp 53) 27 45 (.slice none 0 0) 1 24 rfl Try.underlying27 Try.info45 rfl (by decide) (by decide) (.slice Ar sr.length cr) sr.length (bs.map (rowV 160)) [.slice (some ⟨wr.heap.size + 1, 0, none⟩) 160 160] (by simp [Act.eval, Act.put]) (by simp [Act.eval, Act.put]) rfl (fun u hu => by simp at hu; subst hu; rfl) HG.out.rows_ HGB.out (by have := HIR.out.size; simp; omega) (by omega) ?_)
              intro v1 w2 HO2 HB2 gr2 hat2
              have hI2 := IsRef.snoc (g := wr.heap.size + 1) (r := List.replicate 160 0) HG.out (by rw [← zrow_nums]; simpa using alloc_new (wr.alloc (.cells #[.int .u8 0, .int .u8 pixel, .bool blank, .bool true, .int .u8 audio, .int .u16 addr, .bool wrt, .int .u8 data] 40)) (.cells zrow 5)) (by simp) (by have := HIR.out.size; omega) (fun hm => by have := (HIR.out.row.mem _ hm).1; omega) gr2 HO2
              have hr2 := HRR.out.grown HG.out.rows_ (by decide) gr2
              obtain ⟨r0, -, r3'⟩ := hr2.cells
              simp only at r0 r3'
              obtain ⟨A1, c1, rfl⟩ := own_slice HO2
              have HI2 := Lib.hid hI2
              have HBB2 := Lib.hid HB2
              clear hI2 hr2 HB2 HO2 gr2 hat2
              go_wp2_with fail
              go_roundw
              case rel =>
                refine ⟨y + 1, by omega, by first | rfl | go_num | simp, by rw [HST'.out], by rw [HST'.out], Lib.hid ⟨m, vs, bs ++ [wr.heap.size + 1], ?_, HBR.out.trans (HBB2.out.mono HIR.out.base)⟩⟩
                rw [HST'.out]
                exact HI2.out.flags true false
              case measure => simp [intOf]; omega
            · have HG := Lib.hid (HIR.out.kept (w' := (wr.alloc (.cells #[.int .u8 0, .int .u8 pixel, .bool blank, .bool true, .int .u8 audio, .int .u16 addr, .bool wrt, .int .u8 data] 40)).alloc (.cells zrow 5)) (CellsKept.of_below (((Below.refl _ _).alloc (Nat.le_refl _) _).alloc (by simp) _)) (by simp; omega))
              have HGB := Lib.hid (((Below.refl m wr).alloc HIR.out.size (.cells #[.int .u8 0, .int .u8 pixel, .bool blank, .bool true, .int .u8 audio, .int .u16 addr, .bool wrt, .int .u8 data] 40)).alloc (by have := HIR.out.size; simp; omega) (.cells zrow 5))
              have hrr : RecB (wr.alloc (.cells #[.int .u8 0, .int .u8 pixel, .bool blank, .bool true, .int .u8 audio, .int .u16 addr, .bool wrt, .int .u8 data] 40)) wr.heap.size ⟨0, pixel, blank, true, audio, addr, wrt, data⟩ := alloc_new wr _
              have HRR := Lib.hid (show RecB ((wr.alloc (.cells #[.int .u8 0, .int .u8 pixel, .bool blank, .bool true, .int .u8 audio, .int .u16 addr, .bool wrt, .int .u8 data] 40)).alloc (.cells zrow 5)) wr.heap.size ⟨0, pixel, blank, true, audio, addr, wrt, data⟩ from (Below.heap_alloc _ _ _ (by simp)).trans hrr)
              clear hrr
              go_wp2_with (at_builtin; refine append_one (w0 := wr) (W := _) m rfl (.tmp 51) (.tmp 53) 27 45 (.slice none 0 0) 1 24 rfl Try.underlying27 Try.info45 rfl (by decide) (by decide) (.slice Ar sr.length cr) sr.length (bs.map (rowV 160)) [.slice (some ⟨wr.heap.size + 1, 0, none⟩) 160 160] (by simp [Act.eval, Act.put]) (by simp [Act.eval, Act.put]) rfl (fun u hu => by simp at hu; subst hu; rfl) HG.out.rows_ HGB.out (by have := HIR.out.size; simp; omega) (by omega) ?_)
              intro v1 w2 HO2 HB2 gr2 hat2
              have hI2 := IsRef.snoc (g := wr.heap.size + 1) (r := List.replicate 160 0) HG.out (by rw [← zrow_nums]; simpa using alloc_new (wr.alloc (.cells #[.int .u8 0, .int .u8 pixel, .bool blank, .bool true, .int .u8 audio, .int .u16 addr, .bool wrt, .int .u8 data] 40)) (.cells zrow 5)) (by simp) (by have := HIR.out.size; omega) (fun hm => by have := (HIR.out.row.mem _ hm).1; omega) gr2 HO2
              have hr2 := HRR.out.grown HG.out.rows_ (by decide) gr2
              obtain ⟨r0, -, r3'⟩ := hr2.cells
              simp only at r0 r3'
              obtain ⟨A1, c1, rfl⟩ := own_slice HO2
              have HI2 := Lib.hid hI2
              have HBB2 := Lib.hid HB2
              clear hI2 hr2 HB2 HO2 gr2 hat2
              go_wp2_with fail
              go_roundw
              case rel =>
                refine ⟨y + 1, by omega, by first | rfl | go_num | simp, by rw [HST'.out], by rw [HST'.out], Lib.hid ⟨m, vs, bs ++ [wr.heap.size + 1], ?_, HBR.out.trans (HBB2.out.mono HIR.out.base)⟩⟩
                rw [HST'.out]
                exact HI2.out.flags true false
              case measure => simp [intOf]; omega
      · have hb0 : (clock == 0) = false := by rw [beq_eq_false_iff_ne]; exact h0
        by_cases hp : 68 ≤ clock ∧ S.lost = false ∧ clock < 228
        · obtain ⟨k, hk⟩ : ∃ k, S.rows.length = k + 1 := ⟨S.rows.length - 1, by have := HLE.out.2.2.2 hp.2.1; omega⟩
          have hst' : refAt R (y + 1) = ⟨S.outs, S.ats, setPx S.rows (clock - 68).toNat k pixel, S.sync, S.lost⟩ := by rw [HST.out]; unfold refStep; rw [if_neg h0, if_pos hp, show S.rows.length - 1 = k from by omega]
          have HST' := Lib.hid hst'
          clear hst' h0
          obtain ⟨p1, p2, p3⟩ := hp
          have hk3 : k ≤ 320 := by have := HLE.out.2.2.1; omega
          have hcw : IntKind.i64.wrap clock = clock := by rw [IntKind.wrap_i64]; omega
          have hcw2 : IntKind.i64.wrap (clock - 68) = clock - 68 := by rw [IntKind.wrap_i64]; omega
          have hn1 : decide (68 ≤ clock) = true := by simpa using p1
          have hn2 : decide (clock - 68 < 160) = true := by simp; omega
          obtain ⟨X, hX⟩ : ∃ X, X = (clock - 68).toNat := ⟨_, rfl⟩
          have hXl : X < 160 := by omega
          obtain ⟨so, sa, sr, ss, sl⟩ := S
          simp only at p2 hk
          subst p2
          have HRO := HIR.out.rows_
          simp only at HRO
          obtain ⟨rb, cr', e1, hrb1, hrb2⟩ := HRO.form (by omega)
          cases e1
          have hrc := HRO.cells (g := rb) rfl k (rowV 160 (bs.getD k 0)) (by
            have hbl : k < bs.length := by have := HIR.out.row.len; simp only at this; omega
            simp [List.getD_eq_getElem?_getD, hbl])
          rw [Addr.add_lit, Nat.zero_add] at hrc
          obtain ⟨hpx, hpf⟩ := HIR.out.row.cellAt (y := k) (x := X) (by simp only; omega) hXl
          have hpl := World.block_lt_of_cell? _ _ hpx
          obtain ⟨pb, hpb⟩ : ∃ pb, pb = bs.getD k 0 := ⟨_, rfl⟩
          rw [← hpb] at hrc hpx hpf hpl
          have HPB := Lib.hid hpb
          have HXX := Lib.hid hX
          clear hpb
          simp only [hk]
          have hcx : (clock - 68).toNat = X := hX.symm
          have hkw : IntKind.i64.wrap (k : Int) = (k : Int) := by rw [IntKind.wrap_i64]; omega
          clear hX
          have HRO' := Lib.hid HRO
          clear HRO
          go_wp2_with fail
          obtain ⟨W, hW⟩ : ∃ W, W = wr.alloc (.cells #[.int .u8 clock, .int .u8 pixel, .bool blank, .bool sy, .int .u8 audio, .int .u16 addr, .bool wrt, .int .u8 data] 40) := ⟨_, rfl⟩
          have hbel : Below wr.heap.size wr W := by rw [hW]; exact (Below.refl _ _).alloc (Nat.le_refl _) _
          have hrB : RecB W wr.heap.size ⟨clock, pixel, blank, sy, audio, addr, wrt, data⟩ := by rw [hW]; exact alloc_new wr _
          have hIW := HIR.out.kept HK1.out (by simp)
          rw [← hW] at hIW ⊢
          obtain ⟨r0, r1, r3'⟩ := hrB.cells
          simp only at r0 r1
          have hpxW := (hbel.cell (p := ⟨pb, X, none⟩) hpl).trans hpx
          have hpfW := (hbel.frozen (p := ⟨pb, X, none⟩) hpl).trans hpf
          have hrcW := (hbel.cell (p := ⟨rb, k, none⟩) hrb2).trans hrc
          clear hW hpx hpf hrc q0 q1 q2 q3 q4 q5 q6 q7 r3'
          have HIW := Lib.hid hIW
          have HBL := Lib.hid hbel
          have HRB := Lib.hid hrB
          clear hIW hbel hrB hb0 hn1 hn2 hyw
          simp only [rowV] at hrcW
          have h160 : clock - 68 < 160 := by omega
          have h160' : 0 ≤ clock - 68 := by omega
          have hkl : (k : Int) < (k : Int) + 1 := by omega
          go_still_tail 13, (by kernel_rfl)
          change wpList _ _ _ _ _ W.drew
          go_wp2_with fail
          have hyw : IntKind.i64.wrap ((y : Int) + 1) = (y : Int) + 1 := by rw [IntKind.wrap_i64]; omega
          go_wp2_with fail
          go_roundw
          case rel =>
            have hI := HIW.out
            rw [hk] at hI
            obtain ⟨hmb, hI2⟩ := hI.px X k pixel (by simp only; omega)
            rw [← HPB.out] at hI2 hmb
            refine ⟨y + 1, by omega, by first | rfl | go_num | simp, by rw [HST'.out], by rw [HST'.out], Lib.hid ⟨m, vs, bs, ?_, ?_⟩⟩
            · rw [HST'.out, ← HXX.out]
              exact hI2.kept (fun _ _ _ _ h => h) (Nat.le_refl _)
            · exact ((HBR.out.trans (HBL.out.mono HBR.out.size)).setCell (p := ⟨pb, X, none⟩) (Nat.le_trans hI.base hmb) _).drew
          case measure => simp [intOf]; omega
        · have hst' : refAt R (y + 1) = S := by rw [HST.out]; unfold refStep; rw [if_neg h0, if_neg hp]
          have HST' := Lib.hid hst'
          clear hst' h0
          have hno : decide (68 ≤ clock) = false ∨ (decide (68 ≤ clock) = true ∧ S.lost = true) ∨ (decide (68 ≤ clock) = true ∧ S.lost = false ∧ decide (clock - 68 < 160) = false) := by
            by_cases a : 68 ≤ clock
            · cases hls : S.lost with
              | true => exact .inr (.inl ⟨by simpa using a, rfl⟩)
              | false => exact .inr (.inr ⟨by simpa using a, rfl, by
                  have : ¬ clock < 228 := fun h => hp ⟨a, hls, h⟩
                  simp; omega⟩)
            · exact .inl (by simpa using a)
          clear hp
          have hcw : IntKind.i64.wrap clock = clock := by rw [IntKind.wrap_i64]; omega
          have hcw2 : IntKind.i64.wrap (clock - 68) = clock - 68 := by rw [IntKind.wrap_i64]; omega
          obtain ⟨so, sa, sr, ss, sl⟩ := S
          simp only at hno
          rcases hno with hn1 | ⟨hn1, rfl⟩ | ⟨hn1, rfl, hn2⟩
          all_goals
            go_wp2_with fail
            go_roundw
            case rel => exact ⟨y + 1, by omega, by first | rfl | go_num | simp, by rw [HST'.out], by rw [HST'.out], Lib.hid ⟨m, vs, bs, by rw [HST'.out]; exact HIR.out.kept HK1.out (by simp), HBR.out.alloc HBR.out.size _⟩⟩
            case measure => simp [intOf]; omega
    · have hge : ¬ ((y : Int) < R.length) := by omega
      obtain rfl : y = R.length := by omega
      go_wp2_with fail
      go_ret3
      exact ⟨_, _, _, rfl, m, vs, bs, HI, HB⟩
end Go.Proofs.Ytgepcdohgiiaaaa
