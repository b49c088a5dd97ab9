/- records of spans. -/
import Derived.Test.YtgepcdohgiiaaaaM2
namespace Go.Proofs.Ytgepcdohgiiaaaa
open Go.RowKit Go.Shelf
open Go.Proofs.YtgepcdohgiiaaaaW.PrintWords (own_slice Kd nums step_append_cells)
set_option linter.unusedSimpArgs false
set_option linter.unusedVariables false

section
variable {P : Program} {ops : Array Oper} {rest : List Oper} {o : Oper} {a : Act} {Q : Exit → Act → World → Prop}
/-- append of one element, in a region that draws no order. -/
theorem append_one {w0 W : World} (base : Nat) (hg : o.guard = none) (s x : Operand) (t e : TypeId) (z : Value) (size bytes : Nat)
    (ho : o.op = .call { callee := .builtin .append, args := #[s, x], argTypes := #[t, t] })
    (ht : P.underlying t = some (.slice e)) (hinfo : (P.info? e).map (fun i => (i.zero, i.size, i.bytes)) = some (some z, size, bytes)) (hz : z.cells.size = size) (hs0 : 0 < size) (hb0 : 0 < bytes)
    (v : Value) (n : Nat) (xs ys : List Value) (hs : a.eval s = v) (hx : a.eval x = .slice (some ⟨W.heap.size, 0, none⟩) 1 1) (hys : ys.length = size) (h1 : ∀ u ∈ ys, u.oneCell' = true)
    (HO : W.ownsRow base e size v n xs) (HB : Below base w0 W) (hbase : base ≤ W.heap.size) (hl : (n + 1) * bytes ≤ 140737488355328)
    (h : ∀ v1 w1, w1.ownsRow base e size v1 (n + 1) (xs ++ ys) → Below base w0 w1 → W.grownBy w1 v.ownBlock → (v1.ownBlock = v.ownBlock ∨ ∃ b, v1.ownBlock = some b ∧ W.heap.size ≤ b) → wpList P ops Q rest (a.put o.dst v1) w1) :
    wpList P ops Q (o :: rest) a (W.alloc (.cells ys.toArray e)) := by
  refine wpList_plain hg fun K hK => ?_
  have hw : Region.wanted o (yielded ops a.tmps) = true := by simp only [Region.wanted, hg]
  have := step_append_cells (K := K) (Q := Q) base hw s x t e z size bytes ho ht hinfo hz hs0 hb0 v n xs ys hs hx hys h1 HO HB hbase hl fun v1 w1 q1 q2 q3 q4 => hK _ _ (h v1 w1 q1 q2 q3 q4)
  rw [if_pos hw] at this
  exact this
end

/-- A span. -/
structure SpanM where
  clock : Int
  pixel : Int
  sync : Bool
  count : Int
def SpanM.cells (s : SpanM) : List Value := [.int .u8 s.clock, .int .u8 s.pixel, .bool s.sync, .int .u16 s.count]
def SpanM.ok (s : SpanM) : Prop := (0 ≤ s.clock ∧ s.clock ≤ 255) ∧ (0 ≤ s.pixel ∧ s.pixel ≤ 255) ∧ (0 ≤ s.count ∧ s.count ≤ 65535)
def nextC (c : Int) : Int := if c + 1 = 228 then 0 else (c + 1) % 256
def spanR (s : SpanM) (c : Int) : RecM := ⟨c, s.pixel, false, s.sync, 0, 0, false, 0⟩
def clockAt (s : SpanM) : Nat → Int
  | 0 => s.clock
  | k + 1 => nextC (clockAt s k)
def spanRs (s : SpanM) : Nat → List RecM
  | 0 => []
  | k + 1 => spanRs s k ++ [spanR s (clockAt s k)]
def recordsM (l : List SpanM) : List RecM := l.flatMap fun s => spanRs s (s.count % 700).toNat
def recCells (R : List RecM) : List Value := R.flatMap fun r => r.cells.toList
theorem recCells_snoc (R : List RecM) (r : RecM) : recCells (R ++ [r]) = recCells R ++ r.cells.toList := by simp [recCells]
theorem recCells_len (R : List RecM) : (recCells R).length = R.length * 8 := by
  induction R with
  | nil => rfl
  | cons r R ih =>
    have : recCells (r :: R) = r.cells.toList ++ recCells R := rfl
    rw [this, List.length_append, ih, List.length_cons]
    have : r.cells.toList.length = 8 := rfl
    omega
theorem spanRs_len (s : SpanM) (k : Nat) : (spanRs s k).length = k := by
  induction k with
  | zero => rfl
  | succ k ih => simp [spanRs, ih]
theorem clockAt_ok (s : SpanM) (h : 0 ≤ s.clock ∧ s.clock ≤ 255) (k : Nat) : 0 ≤ clockAt s k ∧ clockAt s k ≤ 255 := by
  induction k with
  | zero => exact h
  | succ k ih =>
    show 0 ≤ nextC (clockAt s k) ∧ nextC (clockAt s k) ≤ 255
    unfold nextC; split <;> omega
theorem recordsM_snoc (l : List SpanM) (s : SpanM) : recordsM (l ++ [s]) = recordsM l ++ spanRs s (s.count % 700).toNat := by simp [recordsM]
theorem Try.info40 : (Try.prog.info? 40).map (fun i => (i.zero, i.size, i.bytes)) = some (some (.agg #[(.int .u8 0), (.int .u8 0), (.bool false), (.bool false), (.int .u8 0), (.int .u16 0), (.bool false), (.int .u8 0)]), 8, 10) := by kernel_rfl
theorem take_snoc {α : Type} (l : List α) (y : Nat) (h : y < l.length) : l.take (y + 1) = l.take y ++ [l[y]] := (List.take_append_getElem h).symm
theorem recordsM_len (l : List SpanM) : (recordsM l).length ≤ 700 * l.length := by
  induction l with
  | nil => simp [recordsM]
  | cons s l ih =>
    have : recordsM (s :: l) = spanRs s (s.count % 700).toNat ++ recordsM l := rfl
    rw [this, List.length_append, spanRs_len, List.length_cons]; omega

def SpansC (w : World) (A : Option Addr) (l : List SpanM) : Prop :=
  ∀ i, (h : i < l.length) → ∃ x, A = some x ∧ w.cell? (x.add (i * 4)) = some (.int .u8 l[i].clock) ∧ w.cell? (x.add (i * 4 + 1)) = some (.int .u8 l[i].pixel) ∧ w.cell? (x.add (i * 4 + 2)) = some (.bool l[i].sync) ∧ w.cell? (x.add (i * 4 + 3)) = some (.int .u16 l[i].count) ∧ l[i].ok

theorem add_field (x : Addr) (m k : Nat) (hk : 0 < k) : x.add (m + k) = ⟨(x.add m).block, (x.add m).off + k, none⟩ := by
  unfold Addr.add
  rw [if_neg (by omega)]
  split
  · rename_i h; subst h; simp
  · simp [Nat.add_assoc]
theorem clock_wrap (n : Int) (h : 0 ≤ n ∧ n ≤ 255) : wrap64 n = n := by unfold wrap64; omega

set_option maxHeartbeats 4000000 in
set_option maxRecDepth 100000 in
theorem records_in (w : World) (A : Option Addr) (l : List SpanM) (c : Nat) (hl : SpansC w A l) (h12 : l.length ≤ 12) :
    Calls Try.prog 13 #[.slice A l.length c] w fun e w' => ∃ v, e = .returned v ∧ w'.ownsRow w.heap.size 40 8 v (recordsM l).length (recCells (recordsM l)) ∧ Below w.heap.size w w' := by
  have hu40 := Try.underlying40
  have HL := Lib.hid hl
  clear hl
  go_enter Try.func13, Try.ntmps13
  go_wp2_with fail
  go_loopw [3, 4] (fun v i wr => ∃ y : Nat, y ≤ l.length ∧ i = .int .i64 y ∧ Hid (wr.ownsRow w.heap.size 40 8 v (recordsM (l.take y)).length (recCells (recordsM (l.take y)))) ∧ Hid (Below w.heap.size w wr))
    (fun v i _ => l.length - (intOf i).toNat)
  case atStart => exact ⟨0, by omega, rfl, Lib.hid (World.ownsRow_nil _ _ _ _), Lib.hid (Below.refl _ _)⟩
  case round =>
    obtain ⟨y, hy, rfl, ho, hb⟩ := hrel
    obtain ⟨A0, c0, rfl⟩ := own_slice ho.out
    by_cases hly : y < l.length
    · have hly' : (y : Int) < l.length := by omega
      obtain ⟨x, hx, q0, q1, q2, q3, hok⟩ := HL.out y hly
      subst hx
      obtain ⟨s, hs⟩ : ∃ s, s = l[y] := ⟨_, rfl⟩
      rw [← hs] at q0 q1 q2 q3 hok
      have HS := Lib.hid hs
      clear hs
      rw [add_field x _ _ (by omega)] at q1 q2 q3
      have hwc := clock_wrap _ hok.1
      have p0 := (hb.out.cell (World.block_lt_of_cell? w _ q0)).trans q0
      go_wp2_with fail
      obtain ⟨M, hM⟩ : ∃ M : Nat, M = (s.count % 700).toNat := ⟨_, rfl⟩
      have hMi : s.count % 700 = (M : Int) := by have := hok.2.2; omega
      have hM7 : M < 700 := by omega
      have hcw : (wrap64 s.count).tmod 700 = (M : Int) := by
        rw [show wrap64 s.count = s.count from by have := hok.2.2; unfold wrap64; omega, Int.tmod_eq_emod_of_nonneg hok.2.2.1]; exact hMi
      have HM := Lib.hid hM
      clear hM
      obtain ⟨R0, hR0⟩ : ∃ R0, R0 = recordsM (l.take y) := ⟨_, rfl⟩
      rw [← hR0] at ho ⊢
      rw [hwc]
      have hR0l : R0.length ≤ 8400 := by rw [hR0]; have := recordsM_len (l.take y); rw [List.length_take] at this; omega
      have HR0 := Lib.hid hR0
      clear hR0
      go_loopw [3, 5, 6] (fun v c i wr => ∃ k : Nat, k ≤ M ∧ i = .int .i64 k ∧ c = .int .i64 (clockAt s k) ∧ Hid (wr.ownsRow w.heap.size 40 8 v (R0 ++ spanRs s k).length (recCells (R0 ++ spanRs s k))) ∧ Hid (Below w.heap.size w wr))
        (fun v c i _ => M - (intOf i).toNat)
      case atStart => exact ⟨0, by omega, rfl, rfl, Lib.hid (by rw [show R0 ++ spanRs s 0 = R0 from by simp [spanRs]]; exact ho.out), hb⟩
      case round =>
        clear ho hb p0
        obtain ⟨k, hk, rfl, rfl, ho, hb⟩ := hrel
        obtain ⟨A1, c1, rfl⟩ := own_slice ho.out
        have p1 := (hb.out.cell (World.block_lt_of_cell? w _ q1)).trans q1
        have p2 := (hb.out.cell (World.block_lt_of_cell? w _ q2)).trans q2
        have p3 := (hb.out.cell (World.block_lt_of_cell? w _ q3)).trans q3
        by_cases hlk : k < M
        · have hlk' : (k : Int) < (wrap64 s.count).tmod 700 := by omega
          have hlen : (R0 ++ spanRs s k).length ≤ 9200 := by rw [List.length_append, spanRs_len]; omega
          have hcl := clockAt_ok s hok.1 k
          obtain ⟨cl, hcle⟩ : ∃ cl, cl = clockAt s k := ⟨_, rfl⟩
          rw [← hcle] at hcl ⊢
          have HCL := Lib.hid hcle
          clear hcle
          obtain ⟨R, hR⟩ : ∃ R, R = R0 ++ spanRs s k := ⟨_, rfl⟩
          rw [← hR] at ho hlen ⊢
          have HR := Lib.hid hR
          clear hR
          have HO1 := Lib.hid (show wr.drew.ownsRow w.heap.size 40 8 (.slice A1 R.length c1) R.length (recCells R) from ho.out)
          have HB1 := Lib.hid hb.out.drew
          have hcu : IntKind.u8.wrap cl = cl := by show cl % 256 = cl; omega
          have hyw : IntKind.i64.wrap ((k : Int) + 1) = (k : Int) + 1 := by rw [IntKind.wrap_i64]; omega
          go_wp2_with fail
          go_region_law (refine step_append_cells (w0 := w) w.heap.size rfl (.tmp 30) (.tmp 44) 23 40 (.agg #[(.int .u8 0), (.int .u8 0), (.bool false), (.bool false), (.int .u8 0), (.int .u16 0), (.bool false), (.int .u8 0)]) 8 10 rfl Try.underlying23 Try.info40 rfl (by decide) (by decide) (.slice A1 R.length c1) R.length (recCells R) [.int .u8 cl, .int .u8 s.pixel, .bool false, .bool s.sync, .int .u8 0, .int .u16 0, .bool false, .int .u8 0] (by simp [Act.eval, Act.put]) (by simp [Act.eval, Act.put]) rfl (by simp [Value.oneCell']) HO1.out HB1.out HB1.out.size (by omega) ?_; intro v1 w2 HO2 HB2 hgr hat; obtain ⟨A2, c2, rfl⟩ := own_slice HO2)
          all_goals
            have hHO : w2.ownsRow w.heap.size 40 8 (.slice A2 (R.length + 1) c2) (R0 ++ spanRs s (k + 1)).length (recCells (R0 ++ spanRs s (k + 1))) := by
              have e : R0 ++ spanRs s (k + 1) = R ++ [spanR s cl] := by rw [HR.out, HCL.out]; simp [spanRs]
              rw [e, recCells_snoc, List.length_append]; exact HO2
            have HHO := Lib.hid hHO
            have hel : R.length + 1 = (R0 ++ spanRs s (k + 1)).length := by rw [HR.out]; simp [spanRs, Nat.add_assoc]
            have HEL := Lib.hid hel
            clear hHO HO2 hel
            have hcw1 : IntKind.i64.wrap (cl + 1) = cl + 1 := by rw [IntKind.wrap_i64]; omega
            by_cases hcq : cl + 1 = 228
            · have hn : clockAt s (k + 1) = 0 := by show nextC (clockAt s k) = 0; rw [← HCL.out]; unfold nextC; rw [if_pos hcq]
              have hcqb : (cl + 1 == 228) = true := by rw [beq_iff_eq]; exact hcq
              go_simp
              go_wp2_with fail
              go_roundw
              case rel => exact ⟨k + 1, by omega, by first | rfl | go_num | simp, by rw [hn], HHO, Lib.hid HB2⟩
              case measure => simp [intOf]; omega
            · have hn : clockAt s (k + 1) = (cl + 1) % 256 := by show nextC (clockAt s k) = _; rw [← HCL.out]; unfold nextC; rw [if_neg hcq]
              have hcqb : (cl + 1 == 228) = false := by rw [beq_eq_false_iff_ne]; exact hcq
              have hrem : (cl + 1).tmod 256 = (cl + 1) % 256 := Int.tmod_eq_emod_of_nonneg (by omega)
              go_simp
              go_wp2_with fail
              go_roundw
              case rel => exact ⟨k + 1, by omega, by first | rfl | go_num | simp, by rw [hn], HHO, Lib.hid HB2⟩
              case measure => simp [intOf]; omega
        · have hlk' : ¬ (k : Int) < (wrap64 s.count).tmod 700 := by omega
          obtain rfl : k = M := by omega
          have hyw : IntKind.i64.wrap ((y : Int) + 1) = (y : Int) + 1 := by rw [IntKind.wrap_i64]; omega
          have hrec : recordsM (l.take (y + 1)) = R0 ++ spanRs s k := by
            rw [take_snoc l y hly, recordsM_snoc, ← HS.out, ← HM.out, HR0.out]
          rw [← hrec] at ho ⊢
          have HO := ho
          clear ho hrec
          go_wp2_with fail
          go_roundw
          case rel => exact ⟨y + 1, by omega, by first | rfl | go_num | simp, HO, hb⟩
          case measure => simp [intOf]; omega
    · have hge : ¬ ((y : Int) < l.length) := by omega
      obtain rfl : y = l.length := by omega
      rw [List.take_length] at ho ⊢
      go_wp2_with fail
      go_ret
      exact ⟨_, rfl, ho.out, hb.out⟩
end Go.Proofs.Ytgepcdohgiiaaaa
