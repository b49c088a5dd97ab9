/- frame.Unpack: the walk. -/
import Derived.Test.YtgepcdohgiiaaaaU2
import Derived.Test.YtgepcdohgiiaaaaR1
import Derived.WalkSpells
namespace Go.Proofs.Ytgepcdohgiiaaaa
open Go.RowKit Go.Shelf
open Go.Proofs.YtgepcdohgiiaaaaW.PrintWords (own_slice Kd nums rd)
set_option linter.unusedSimpArgs false
set_option linter.unusedVariables false

theorem GivenRows.snoc2 {w : World} {vs : List Value} {G : List (List Int)} {r : List Int} (h : GivenRows w vs G G.length) {v : Value} (hv : w.ownsRow 0 5 1 v 160 (nums .u8 r)) : GivenRows w (vs ++ [v]) (G ++ [r]) (G ++ [r]).length := by
  have h1 : GivenRows w vs (G ++ [r]) G.length := ⟨h.1, fun i hi => by
    have := h.2 i hi
    have e : (G ++ [r]).getD i [] = G.getD i [] := by simp [List.getD_eq_getElem?_getD, List.getElem?_append_left hi]
    rw [e]; exact this⟩
  have e : (G ++ [r]).getD G.length [] = r := by simp [List.getD_eq_getElem?_getD]
  have := h1.snoc (v := v) (by rw [e]; exact hv)
  rw [List.length_append]; exact this
def Link (l : List Int) (cnt y : Nat) (rest : List Int) (acc : List (List Int)) : Prop := ∀ G, rowsM cnt (l.drop 2) G ↔ ∃ G', rowsM (cnt - y) rest G' ∧ G = acc ++ G'
def UnP (l : List Int) (w : World) (e : Ending) (w' : World) : Prop :=
  (∃ G v, unpackM l G ∧ e = .returned (.tuple #[.agg #[v], .int .i64 0]) ∧ FrameIs w' v G ∧ Below w.heap.size w w') ∨
  ((¬ ∃ G, unpackM l G) ∧ e = .returned (.tuple #[.agg #[.slice none 0 0], .int .i64 9]) ∧ Below w.heap.size w w')

structure UInv (w wr : World) (l : List Int) (cnt fb y : Nat) (vb : Value) (rest : List Int) (acc : List (List Int)) (vr : Value) (vs : List Value) (P : Nat → Prop) : Prop where
  res : wr.heap[w.heap.size]? = some (.cells #[.slice none 0 0] 33 (0, 0))
  fcell : wr.heap[fb]? = some (.cells #[vr] 33 (0, 0))
  own : wr.ownsRow w.heap.size 45 1 vr acc.length vs
  rows : GivenRows wr vs acc acc.length
  V : Kd.V (Kd.int .u8) 5 wr wr.heap.size P vb rest
  foot : ∀ k, P k → k < wr.heap.size ∧ some k ≠ vr.ownBlock ∧ k ≠ fb ∧ k ≠ w.heap.size
  bytes : Bytes rest
  len : rest.length ≤ 1000000
  link : Link l cnt y rest acc
  acclen : acc.length = y
  bel : Below w.heap.size w wr
  ne : fb ≠ w.heap.size ∧ w.heap.size ≤ fb
theorem Link.step {l : List Int} {cnt y : Nat} {rest : List Int} {acc : List (List Int)} (h : Link l cnt y rest acc) (hy : y < cnt) {o r : List Int} (hr : rowM rest o r) : Link l cnt (y + 1) r (acc ++ [o]) := fun G => by
  rw [h G, show cnt - y = (cnt - (y + 1)) + 1 from by omega]
  constructor
  · rintro ⟨G', ⟨o', r', G2, h1, h2, rfl⟩, rfl⟩
    obtain ⟨rfl, rfl⟩ := rowM_unique hr h1
    exact ⟨G2, h2, by simp⟩
  · rintro ⟨G', h1, rfl⟩
    exact ⟨o :: G', ⟨o, r, G', hr, h1, rfl⟩, by simp⟩
theorem Link.fail {l : List Int} {cnt y : Nat} {rest : List Int} {acc : List (List Int)} (h : Link l cnt y rest acc) (hc : cnt = cntM l) (hy : y < cnt) (hr : ¬ ∃ o r, rowM rest o r) : ¬ ∃ G, unpackM l G := by
  rintro ⟨G, _, _, h3⟩
  rw [← hc] at h3
  obtain ⟨G', h4, _⟩ := (h G).1 h3
  rw [show cnt - y = (cnt - (y + 1)) + 1 from by omega] at h4
  obtain ⟨o, r, _, h5, _⟩ := h4
  exact hr ⟨o, r, h5⟩
theorem UInv.step {w wr w4 w5 : World} {l : List Int} {cnt fb y : Nat} {vb v0 v1 v5 : Value} {rest o r : List Int} {acc : List (List Int)} {vr : Value} {vs : List Value} {P : Nat → Prop} (h : UInv w wr l cnt fb y vb rest acc vr vs P) (hy : y < cnt) (hrow : rowM rest o r)
    (hB4 : Below wr.heap.size wr w4) (ho4 : w4.ownsRow 0 5 1 v0 160 (nums .u8 o)) (hV4 : Kd.V (Kd.int .u8) 5 w4 wr.heap.size (fun k_ => (P k_ ∨ wr.heap.size ≤ k_) ∧ some k_ ≠ (v0 : Value).ownBlock) v1 r)
    (gr5 : w4.grownBy w5 vr.ownBlock) (HO5 : w5.ownsRow w.heap.size 45 1 v5 (acc.length + 1) (vs ++ [v0])) (HB5 : Below w.heap.size w w5) (hat5 : v5.ownBlock = vr.ownBlock ∨ ∃ b, v5.ownBlock = some b ∧ w4.heap.size ≤ b) :
    ∃ P', UInv w (w5.setCell ⟨fb, 0, none⟩ v5) l cnt fb (y + 1) v1 r (acc ++ [o]) v5 (vs ++ [v0]) P' := by
  have own4 := Go.Proofs.YtgepcdohgiiaaaaW.PrintWords.pw_own_below h.own hB4
  have res4 := (hB4.block _ (lt_of_block h.res)).trans h.res
  have fc4 := (hB4.block _ (lt_of_block h.fcell)).trans h.fcell
  have rows4 := h.rows.cellsKept (CellsKept.of_below hB4)
  have nres := own_ne_block own4 res4 (by omega)
  have nfc := own_ne_block own4 fc4 (by omega)
  have res5 := (gr5.block _ (lt_of_block res4) (fun e => nres e.symm)).trans res4
  have fc5 := (gr5.block _ (lt_of_block fc4) (fun e => nfc e.symm)).trans fc4
  have nf5 := own_ne_block HO5 fc5 (by omega)
  have ho5 := ho4.kept gr5 (own_type_ne' ho4 own4 (by decide))
  have rows5 : GivenRows w5 vs acc acc.length := ⟨rows4.1, fun i hi => (rows4.2 i hi).kept gr5 (own_type_ne' (rows4.2 i hi) own4 (by decide))⟩
  have rows5s := rows5.snoc2 ho5
  have hfr : fb < wr.heap.size := lt_of_block h.fcell
  have hrr : w.heap.size < wr.heap.size := lt_of_block h.res
  have hs4 := hB4.size
  have hs5 := gr5.size
  have hvr : ∀ k, vr.ownBlock = some k → k < wr.heap.size := fun k hk => Go.Proofs.YtgepcdohgiiaaaaW.PrintWords.own_lt h.own k hk
  have hvr2 : ∀ k, ((P k ∨ wr.heap.size ≤ k) ∧ some k ≠ (v0 : Value).ownBlock) ∧ k < w4.heap.size → some k ≠ vr.ownBlock := fun k hk e => by
    rcases hk.1.1 with h1 | h1
    · exact (h.foot k h1).2.1 e
    · have := hvr k e.symm; omega
  have hfb2 : ∀ k, ((P k ∨ wr.heap.size ≤ k) ∧ some k ≠ (v0 : Value).ownBlock) ∧ k < w4.heap.size → k ≠ fb ∧ k ≠ w.heap.size := fun k hk => by
    rcases hk.1.1 with h1 | h1
    · exact (h.foot k h1).2.2
    · omega
  refine ⟨fun k => ((P k ∨ wr.heap.size ≤ k) ∧ some k ≠ (v0 : Value).ownBlock) ∧ k < w4.heap.size, ?_⟩
  refine ⟨(Below.heap_setCell _ _ _ _ (fun e => h.ne.1 (by simpa using e.symm))).trans res5, one_setCell fc5, ?_, ?_, ?_, fun k hk => ⟨by simp; omega, ?_, (hfb2 k hk).1, (hfb2 k hk).2⟩, ?_, ?_, h.link.step hy hrow, by rw [List.length_append, h.acclen]; rfl, HB5.setCell h.ne.2 _, h.ne⟩
  · rw [List.length_append]; exact ownsRow_setCell_other HO5 nf5 _
  · exact ⟨rows5s.1, fun i hi => ownsRow_setCell_other (rows5s.2 i hi) (own_ne_block (rows5s.2 i hi) fc5 (by omega)) _⟩
  · exact Kd.V_far (p := ⟨fb, 0, none⟩) (Kd.V_grown (Kd.V_bound hV4) gr5 hvr2) (fun k hk => (hfb2 k hk).1) _
  · intro e
    rcases hat5 with h1 | ⟨b, h1, h2⟩
    · exact hvr2 k hk (by rw [e, h1])
    · rw [h1] at e; injection e with e; have := hk.2; omega
  · obtain ⟨_, _, _, _, _, e⟩ := hrow; rw [e]; exact bytes_drop h.bytes _
  · obtain ⟨_, _, _, _, _, e⟩ := hrow; rw [e, List.length_drop]; have := h.len; omega
theorem or16_nat (a b : Nat) (ha : a < 256) (hb : b < 256) : Go.bits .or .i64 (a : Int) ((b * 256 : Nat) : Int) = ((a + 256 * b : Nat) : Int) := by
  show IntKind.i64.wrap ((BitVec.ofInt 64 (a : Int) ||| BitVec.ofInt 64 ((b * 256 : Nat) : Int)).toNat : Int) = _
  rw [BitVec.toNat_or, ofInt_u64 a (by omega), ofInt_u64 (b * 256) (by omega)]
  have e : a ||| b * 256 = a + 256 * b := by
    rw [Nat.or_comm, Nat.mul_comm, show (256 : Nat) = 2 ^ 8 from rfl, ← Nat.two_pow_add_eq_or_of_lt (show a < 2 ^ 8 from ha)]
    omega
  rw [e, IntKind.wrap_i64]; omega
theorem or16 (a b : Int) (h : 0 ≤ a ∧ a ≤ 255) (h' : 0 ≤ b ∧ b ≤ 255) (n : Nat) (hn : n = (a + 256 * b).toNat) : Go.bits .or .i64 a (b * 256) = (n : Int) := by
  obtain ⟨x, rfl⟩ := Int.eq_ofNat_of_zero_le h.1
  obtain ⟨y, rfl⟩ := Int.eq_ofNat_of_zero_le h'.1
  have := or16_nat x y (by omega) (by omega)
  rw [show ((y * 256 : Nat) : Int) = (y : Int) * 256 from by omega] at this
  rw [this]; omega

set_option maxHeartbeats 4000000 in
set_option maxRecDepth 100000 in
theorem unpack_in (w : World) (A : Option Addr) (l : List Int) (c : Nat) (P : Nat → Prop) (hV : Kd.V (Kd.int .u8) 5 w w.heap.size P (.slice A l.length c) l) (hb : Bytes l) (hl : l.length ≤ 1000000) :
    Calls Try.prog 23 #[.slice A l.length c] w (UnP l w) := by
  have hu33 := Try.underlying33
  have hnil := fun (w : World) (A : Option Addr) (n c : Nat) => Lib.run_eql_slice_nil (P := Try.prog) w 45 5 A n c 0 0 Try.underlying45
  have HV := Lib.hid hV
  clear hV
  by_cases h2 : l.length < 2
  · have h2' : (l.length : Int) < 2 := by omega
    have hno : ¬ ∃ G, unpackM l G := fun ⟨G, h, _⟩ => (by omega)
    have HNO := Lib.hid hno
    clear hno
    go_enter Try.func23, Try.ntmps23
    go_wp2_with fail
    refine bodyPost_ret (v := .tuple #[.agg #[.slice none 0 0], .int .i64 9]) (by simp [results, Try.results23, go_sem]) rfl (.inr ⟨HNO.out, rfl, ?_⟩)
    exact ((Below.refl _ _).alloc (Nat.le_refl _) _)
  · have h2' : ¬ (l.length : Int) < 2 := by omega
    obtain ⟨ad, rfl⟩ : ∃ ad, A = some ad := by
      obtain ⟨ad, cs, e, _⟩ := Kd.C_get (Kd.V_reads' HV.out).2.2 (0 : Int) 0 (by omega) (by omega)
      exact ⟨ad, e⟩
    have hC := (Kd.V_reads' HV.out).2.2
    have q0 := Kd.foot_int hC 0 (by omega) (by omega)
    have q1 := Kd.foot_int hC 1 (by omega) (by omega)
    have hb0 := byte_at hb 0
    have hb1 := byte_at hb 1
    rw [show rd l 0 = l.getD 0 0 from rd_nat l 0, show ((0 : Int)).toNat = 0 from rfl, addr_zero] at q0
    rw [show rd l 1 = l.getD 1 0 from rd_nat l 1] at q1
    have q1' : w.cell? ⟨ad.block, ad.off + 1, none⟩ = some (.int .u8 (l.getD 1 0)) := q1
    have HCN := Lib.hid (show cntM l = (l.getD 0 0 + 256 * l.getD 1 0).toNat from rfl)
    generalize l.getD 0 0 = b0 at *
    generalize l.getD 1 0 = b1 at *
    clear q1 hC
    have hlt0 := World.block_lt_of_cell? w _ q0
    go_enter Try.func23, Try.ntmps23
    go_wp2_with fail
    obtain ⟨W, hW⟩ : ∃ W, W = w.alloc (.cells #[Value.slice none 0 0] 33) := ⟨_, rfl⟩
    have hbW : Below w.heap.size w W := by rw [hW]; exact (Below.refl _ _).alloc (Nat.le_refl _) _
    have p0 := (hbW.cell hlt0).trans q0
    have p1 := (hbW.cell (p := ⟨ad.block, ad.off + 1, none⟩) hlt0).trans q1'
    rw [← hW]
    have HW := Lib.hid hW
    clear hW q0 q1'
    go_quiet (fail)
    obtain ⟨cnt, hcnt⟩ : ∃ cnt, cnt = cntM l := ⟨_, rfl⟩
    have hor := or16 b0 b1 hb0 hb1 cnt (by rw [hcnt]; exact HCN.out)
    rw [hor]
    have HCT := Lib.hid hcnt
    have hct2 : cnt ≤ 65535 := by have := HCN.out; omega
    obtain ⟨W1, hW1⟩ : ∃ W1, W1 = W.drewN nq := ⟨_, rfl⟩
    rw [← hW1]
    have hbW1 : Below w.heap.size w W1 := by rw [hW1]; exact Go.Proofs.YtgepcdohgiiaaaaW.PrintWords.pw_below_drewN hbW nq
    have hc33 : W1.heap[w.heap.size]? = some (.cells #[Value.slice none 0 0] 33 (0, 0)) := by
      rw [hW1]
      have : W.heap[w.heap.size]? = some (.cells #[Value.slice none 0 0] 33 (0, 0)) := by rw [HW.out]; exact alloc_new w _
      exact this
    clear hor hcnt hb0 hb1 p0 p1 hW1 hbW
    by_cases h3 : 320 < cnt
    · have h3' : (320 : Int) < cnt := by omega
      have hno : ¬ ∃ G, unpackM l G := fun ⟨G, _, h, _⟩ => (by rw [← HCT.out] at h; omega)
      have HNO := Lib.hid hno
      clear hno
      have hr := cell_of_one hc33
      have hfz := free_of_one hc33
      have HC3 := Lib.hid hc33
      clear hc33
      go_wp2_with fail
      have hrc := cell_of_one (one_setCell (u := .slice none 0 0) HC3.out)
      refine bodyPost_ret (v := .tuple #[.agg #[.slice none 0 0], .int .i64 9]) (by simp [results, Try.results23, go_sem, hrc]) rfl (.inr ⟨HNO.out, rfl, ?_⟩)
      exact hbW1.setCell (by simp) _
    · have h3' : ¬ (320 : Int) < cnt := by omega
      have HC3 := Lib.hid hc33
      have HB1 := Lib.hid hbW1
      have hsz1 := lt_of_block hc33
      clear hc33 hbW1
      have hV1 := Kd.V_alloc (Kd.V_below (Kd.V_bound HV.out) HB1.out) (.cells #[Value.slice none 0 0] 33)
      have hI0 : ∀ vb, Kd.V (Kd.int .u8) 5 (W1.alloc (.cells #[Value.slice none 0 0] 33)) w.heap.size (fun k => P k ∧ k < w.heap.size) vb (l.drop 2) → UInv w (W1.alloc (.cells #[Value.slice none 0 0] 33)) l cnt W1.heap.size 0 vb (l.drop 2) [] (.slice none 0 0) [] (fun k => P k ∧ k < w.heap.size) := by
        intro vb hv
        refine ⟨(Below.heap_alloc _ _ _ hsz1).trans HC3.out, alloc_new W1 _, World.ownsRow_nil _ _ _ _, ⟨rfl, fun i hi => absurd hi (by simp)⟩, hv, fun k hk => ⟨by simp; omega, by simp [Value.ownBlock], by omega, by omega⟩, bytes_drop hb 2, by rw [List.length_drop]; omega, fun G => by simp, rfl, HB1.out.alloc HB1.out.size _, by omega, by omega⟩
      have HI0 := Lib.hid hI0
      have HV1 := Lib.hid hV1
      clear hI0 hV1
      go_wp2_with fail
      all_goals
        go_loopw [0, 27] (fun vb i wr => ∃ (y : Nat), y ≤ cnt ∧ i = .int .i64 y ∧ Hid (∃ rest acc vr vs P', UInv w wr l cnt W1.heap.size y vb rest acc vr vs P'))
          (fun _ i _ => cnt - (intOf i).toNat)
        case atStart =>
          refine ⟨0, by omega, rfl, Lib.hid ⟨_, _, _, _, _, HI0.out _ ?_⟩⟩
          obtain ⟨_, hlc, hF⟩ := Kd.V_at HV1.out
          have hcut := Kd.F_cut (m := 2) hF (by omega) hlc
          have el : l.length - 2 = (l.drop 2).length := by rw [List.length_drop]
          rw [el]
          first
          | (rw [if_pos h] at hcut
             exact Kd.V_mk (by rw [List.length_drop]; omega) hcut)
          | (rw [if_neg h] at hcut
             exact Kd.V_mk (by rw [List.length_drop]; omega) hcut)
        case round =>
          obtain ⟨y, hy, rfl, ⟨rest, acc, vr, vs, P', hu⟩⟩ := hrel
          obtain ⟨A0, c0, rfl⟩ := Kd.V_slice hu.V
          obtain ⟨Ar, cr, rfl⟩ := own_slice hu.own
          have HU := Lib.hid hu
          clear hu
          by_cases hyc : y < cnt
          · have hyc' : (y : Int) < cnt := by omega
            have hyw : IntKind.i64.wrap ((y : Int) + 1) = (y : Int) + 1 := by rw [IntKind.wrap_i64]; omega
            have HYW := Lib.hid hyw
            clear hyw
            have hfl := lt_of_block HU.out.fcell
            have hrl := lt_of_block HU.out.res
            have hfw : w.heap.size ≤ W1.heap.size := HU.out.ne.2
            go_wp2_with fail
            rcases row_f rest HU.out.bytes HU.out.len 1000 (Nat.le_refl _) with ⟨o, r, hrow, hf⟩ | ⟨hno, hf⟩
            · refine (PRd.frame_row.calls 1000 P' A0 c0 rest o r wr HU.out.V hf).mono ?_
              rintro e w4 ⟨v0, v1, rfl, hR, hV4, hB4, hN⟩
              have ho160 : o.length = 160 := hrow.2.2.2.2.1
              have ho4 : w4.ownsRow 0 5 1 v0 160 (nums .u8 o) := by
                have := own_weaken' (Kd.own_of_R hR) (Nat.zero_le _)
                rw [ho160] at this; exact this
              obtain ⟨A1, c1, rfl⟩ := Kd.V_slice hV4
              obtain ⟨g, cap, rfl, _, _⟩ := ho4.form (by decide)
              have HF := Lib.hid hf
              have HROW := Lib.hid hrow
              have HO4 := Lib.hid ho4
              have HV4 := Lib.hid hV4
              have HB4 := Lib.hid hB4
              have fc4 := (hB4.block _ hfl).trans HU.out.fcell
              have hc4 := cell_of_one fc4
              have hfr4 := free_of_one fc4
              have OWN4 := Lib.hid (Go.Proofs.YtgepcdohgiiaaaaW.PrintWords.pw_own_below HU.out.own hB4)
              have BEL4 := Lib.hid (HU.out.bel.trans (hB4.mono HU.out.bel.size))
              have hacc : acc.length ≤ 320 := by have := HU.out.acclen; omega
              have FC4 := Lib.hid fc4
              have hs4 := hB4.size
              clear hf hrow ho4 hV4 hB4 hN hR ho160 fc4
              go_wp2_with (at_builtin; refine append_one (w0 := w) (W := w4) w.heap.size rfl (.tmp 38) (.tmp 40) 27 45 (.slice none 0 0) 1 24 rfl Try.underlying27 Try.info45 rfl (by decide) (by decide) (.slice Ar acc.length cr) acc.length vs [.slice (some ⟨g, 0, none⟩) 160 cap] (by simp [Act.eval, Act.put]) (by simp [Act.eval, Act.put]) rfl (fun u hu => by simp at hu; subst hu; rfl) OWN4.out BEL4.out BEL4.out.size (by omega) ?_)
              intro v5 w5 HO5 HB5 gr5 hat5
              obtain ⟨A5, c5, rfl⟩ := own_slice HO5
              have HI5 := Lib.hid (HU.out.step hyc HROW.out HB4.out HO4.out HV4.out gr5 HO5 HB5 hat5)
              have fc5 := (gr5.block _ (lt_of_block FC4.out) (fun e => own_ne_block OWN4.out FC4.out (by omega) e.symm)).trans FC4.out
              have hc5 := cell_of_one fc5
              have hfr5 := free_of_one fc5
              clear HO5 HB5 gr5 hat5 fc5 hc4 hfr4
              have hyw := HYW.out
              go_wp2_with fail
              go_roundw
              case rel =>
                obtain ⟨P5, h5⟩ := HI5.out
                exact ⟨y + 1, by omega, by first | rfl | go_num | simp, Lib.hid ⟨_, _, _, _, _, h5⟩⟩
              case measure => simp [intOf]; omega
            · refine (PRd.frame_row.calls 1000 P' A0 c0 rest [] [] wr HU.out.V hf).mono ?_
              rintro e w4 ⟨v0, v1, rfl, hR, hV4, hB4, hN⟩
              obtain rfl : v0 = .slice none 0 0 := hN rfl
              obtain ⟨A1, c1, rfl⟩ := Kd.V_slice hV4
              have HNO := Lib.hid (HU.out.link.fail HCT.out hyc hno)
              have rs4 := (hB4.block _ hrl).trans HU.out.res
              have hc4 := cell_of_one rs4
              have hfr4 := free_of_one rs4
              have BEL4 := Lib.hid (HU.out.bel.trans (hB4.mono HU.out.bel.size))
              have RS4 := Lib.hid rs4
              clear hf hno hR hV4 hB4 hN rs4
              go_wp2_with fail
              have hrc := cell_of_one (one_setCell (u := .slice none 0 0) RS4.out)
              refine bodyPost_ret (v := .tuple #[.agg #[.slice none 0 0], .int .i64 9]) (by simp [results, Try.results23, go_sem, hrc]) rfl (.inr ⟨HNO.out, rfl, ?_⟩)
              exact BEL4.out.setCell (by simp) _
          · have hge : ¬ ((y : Int) < cnt) := by omega
            obtain rfl : y = cnt := by omega
            have hfl := lt_of_block HU.out.fcell
            have hrl := lt_of_block HU.out.res
            have rs4 := HU.out.res
            have fc4 := HU.out.fcell
            have hc4 := cell_of_one rs4
            have hfr4 := free_of_one rs4
            have hcf := cell_of_one fc4
            have RS4 := Lib.hid rs4
            have FC4 := Lib.hid fc4
            clear rs4 fc4
            have hlk := HU.out.link
            have hne := HU.out.ne
            by_cases hr0 : rest.length = 0
            · have hun : unpackM l acc := ⟨by omega, by rw [← HCT.out]; omega, by
                rw [← HCT.out]
                exact (hlk acc).2 ⟨[], by rw [Nat.sub_self]; exact ⟨hr0, rfl⟩, by simp⟩⟩
              have HUN := Lib.hid hun
              have hb0 : ((rest.length : Int) != 0) = false := by rw [bne_eq_false_iff_eq]; omega
              clear hun hlk hr0
              go_wp2_with fail
              have hrc := cell_of_one (one_setCell (u := .slice Ar acc.length cr) RS4.out)
              refine bodyPost_ret (v := .tuple #[.agg #[.slice Ar acc.length cr], .int .i64 0]) (by simp [results, Try.results23, go_sem, hrc]) rfl (.inl ⟨acc, _, HUN.out, rfl, ⟨vs, ?_, ?_⟩, ?_⟩)
              · exact own_weaken' (ownsRow_setCell_other HU.out.own (own_ne_block HU.out.own RS4.out (by omega)) _) (Nat.zero_le _)
              · exact ⟨HU.out.rows.1, fun i hi => ownsRow_setCell_other (HU.out.rows.2 i hi) (own_ne_block (HU.out.rows.2 i hi) RS4.out (by omega)) _⟩
              · exact HU.out.bel.setCell (by simp) _
            · have hno : ¬ ∃ G, unpackM l G := fun ⟨G, _, _, h⟩ => by
                rw [← HCT.out] at h
                obtain ⟨G', h1, _⟩ := (hlk G).1 h
                rw [Nat.sub_self] at h1
                exact hr0 h1.1
              have HNO := Lib.hid hno
              have hb0 : ((rest.length : Int) != 0) = true := by rw [bne_iff_ne]; omega
              clear hno hlk hr0
              go_wp2_with fail
              have hrc := cell_of_one (one_setCell (u := .slice none 0 0) RS4.out)
              refine bodyPost_ret (v := .tuple #[.agg #[.slice none 0 0], .int .i64 9]) (by simp [results, Try.results23, go_sem, hrc]) rfl (.inr ⟨HNO.out, rfl, ?_⟩)
              exact HU.out.bel.setCell (by simp) _
end Go.Proofs.Ytgepcdohgiiaaaa
