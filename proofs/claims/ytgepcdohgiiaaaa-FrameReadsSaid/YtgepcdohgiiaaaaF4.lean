/- FrameMakes: the walk. -/
import Derived.Test.YtgepcdohgiiaaaaF3
namespace Go.Proofs.Ytgepcdohgiiaaaa
open Go.RowKit Go.Shelf
open Go.Proofs.YtgepcdohgiiaaaaW.PrintWords (own_slice own_reads Kd nums)
set_option linter.unusedSimpArgs false
set_option linter.unusedVariables false

theorem bytes_rep (n : Nat) : Bytes (List.replicate n 0) := fun x hx => by rw [List.mem_replicate] at hx; omega
theorem bytes_set {row : List Int} (h : Bytes row) (x : Nat) (v : Int) (hv : 0 ≤ v ∧ v ≤ 255) : Bytes (row.set x v) := fun u hu => by
  rcases List.mem_or_eq_of_mem_set hu with h1 | h1
  · exact h u h1
  · rw [h1]; exact hv
theorem bytes_nil : Bytes [] := fun x hx => absurd hx (by simp)
theorem bytes_px {G : List (List Int)} (h : ∀ r ∈ G, Bytes r) (x y : Nat) (v : Int) (hv : 0 ≤ v ∧ v ≤ 255) : ∀ r ∈ setPx G x y v, Bytes r := fun u hu => by
  unfold setPx at hu
  rcases List.mem_or_eq_of_mem_set hu with h1 | h1
  · exact h u h1
  · rw [h1]
    refine bytes_set ?_ x v hv
    rw [List.getD_eq_getElem?_getD]
    cases hg : G[y]? with
    | none => exact bytes_nil
    | some r => exact h r (List.mem_of_getElem? hg)
def RecM.ok (r : RecM) : Prop := 0 ≤ r.clock ∧ r.clock ≤ 255 ∧ 0 ≤ r.pixel ∧ r.pixel ≤ 255
def RefB (S : RefM) : Prop := (∀ r ∈ S.rows, Bytes r) ∧ ∀ G ∈ S.outs, ∀ r ∈ G, Bytes r
theorem refB_step (S : RefM) (i : Int) (r : RecM) (hr : r.ok) (h : RefB S) : RefB (refStep S i r) := by
  obtain ⟨h1, h2⟩ := h
  unfold refStep
  split
  · split
    · refine ⟨fun u hu => by simp at hu; rw [hu]; exact bytes_rep 160, fun G hG => ?_⟩
      rcases List.mem_append.1 hG with hG | hG
      · exact h2 G hG
      · simp at hG; rw [hG]; exact h1
    · split
      · exact ⟨h1, h2⟩
      · refine ⟨fun u hu => ?_, h2⟩
        rcases List.mem_append.1 hu with hu | hu
        · exact h1 u hu
        · simp at hu; rw [hu]; exact bytes_rep 160
  · split
    · exact ⟨bytes_px h1 _ _ _ ⟨hr.2.2.1, hr.2.2.2⟩, h2⟩
    · exact ⟨h1, h2⟩
theorem r3_ok : r3.ok := ⟨by decide, by decide, by decide, by decide⟩
theorem getD_ok {R : List RecM} (h : ∀ r ∈ R, r.ok) (k : Nat) : (R.getD k r3).ok := by
  rw [List.getD_eq_getElem?_getD]
  cases hg : R[k]? with
  | none => exact r3_ok
  | some r => exact h r (List.mem_of_getElem? hg)
theorem refB_at {R : List RecM} (h : ∀ r ∈ R, r.ok) (k : Nat) : RefB (refAt R k) := by
  induction k with
  | zero => exact ⟨fun r hr => absurd hr (by simp [refAt]), fun r hr => absurd hr (by simp [refAt])⟩
  | succ k ih => exact refB_step _ _ _ (getD_ok h k) ih
theorem spanRs_ok (s : SpanM) (h : s.ok) (k : Nat) : ∀ r ∈ spanRs s k, r.ok := by
  induction k with
  | zero => intro r hr; exact absurd hr (by simp [spanRs])
  | succ k ih =>
    intro r hr
    rcases List.mem_append.1 hr with hr | hr
    · exact ih r hr
    · simp at hr; rw [hr]
      have := clockAt_ok s h.1 k
      exact ⟨this.1, this.2, h.2.1.1, h.2.1.2⟩
theorem recordsM_ok {l : List SpanM} (h : ∀ s ∈ l, s.ok) : ∀ r ∈ recordsM l, r.ok := by
  intro r hr
  obtain ⟨s, hs, hr⟩ := List.mem_flatMap.1 hr
  exact spanRs_ok s (h s hs) _ r hr
theorem recCells_get (R : List RecM) (i j : Nat) (hi : i < R.length) (hj : j < 8) : (recCells R)[i * 8 + j]? = (R.getD i r3).cells[j]? := by
  induction R generalizing i with
  | nil => simp at hi
  | cons r R ih =>
    have e : recCells (r :: R) = r.cells.toList ++ recCells R := rfl
    have hl : r.cells.toList.length = 8 := rfl
    rw [e]
    cases i with
    | zero =>
      rw [List.getElem?_append_left (by omega)]
      simp
    | succ i =>
      rw [List.getElem?_append_right (by omega), hl, show (i + 1) * 8 + j - 8 = i * 8 + j from by omega, ih i (by simpa using hi)]
      simp
/-- Records of a row of the call's own. -/
theorem RecsC.of_own {w : World} {base : Nat} {A : Option Addr} {c : Nat} {R : List RecM} (h : w.ownsRow base 40 8 (.slice A R.length c) R.length (recCells R)) (hR : ∀ r ∈ R, r.ok) : RecsC w A R := fun i hi => by
  obtain ⟨g, cap, e, _, _⟩ := h.form (by omega)
  cases e
  have k : ∀ j u, j < 8 → (R.getD i r3).cells[j]? = some u → w.cell? ⟨g, i * 8 + j, none⟩ = some u := fun j u hj hu => by
    have := h.cells (g := g) rfl (i * 8 + j) u (by rw [recCells_get R i j hi hj]; exact hu)
    rwa [Addr.add_lit, Nat.zero_add] at this
  refine ⟨_, rfl, ?_⟩
  rw [Addr.add_lit, Nat.zero_add]
  exact ⟨k 0 _ (by omega) rfl, k 1 _ (by omega) rfl, k 2 _ (by omega) rfl, k 3 _ (by omega) rfl, k 4 _ (by omega) rfl, k 5 _ (by omega) rfl, k 6 _ (by omega) rfl, k 7 _ (by omega) rfl, (getD_ok hR i).1, (getD_ok hR i).2.1⟩
/-- A picture's rows, given. -/
theorem FrameIs.mat {w : World} {v : Value} {G : List (List Int)} (h : FrameIs w v G) : ∃ A c, v = .slice A G.length c ∧ MatC w A G := by
  obtain ⟨vs, ho, hl, hr⟩ := h
  obtain ⟨A, c, rfl⟩ := own_slice ho
  refine ⟨A, c, rfl, fun i hi => ?_⟩
  obtain ⟨g, cap, e, _, _⟩ := ho.form (by omega)
  cases e
  have hri := hr i hi
  have hri0 := hri
  obtain ⟨A0, c0, e0, hrd⟩ := own_reads hri
  rw [e0] at hri0
  refine ⟨_, A0, c0, rfl, ?_, ?_, ?_, fun j hj => ?_⟩
  · refine ho.cells (g := g) rfl i _ ?_
    have hiv : i < vs.length := by rw [hl]; exact hi
    simp only [List.getD_eq_getElem?_getD, List.getElem?_eq_getElem hiv, Option.getD_some] at e0 hrd ⊢
    rw [e0, hrd.1]
  · rw [hrd.1]; exact own_le hri0
  · rcases hri0.2 with ⟨h1, h2⟩ | ⟨g', cap', cur, h1, _, _, h2, h3, _⟩
    · simp at h1
    · cases h1; exact h3
  · rw [hrd.1] at hj
    obtain ⟨ad, rfl, hc⟩ := hrd.2.2 (by omega)
    exact ⟨ad, rfl, hc j hj⟩
theorem FrameIs.keep {w w' : World} (hb : Below w.heap.size w w') {v : Value} {G : List (List Int)} (h : FrameIs w v G) : FrameIs w' v G := h.cellsKept (CellsKept.of_below hb)

theorem told_len (R : List RecM) (k : Nat) (G : List (List Int)) (h : toldAt R k = some G) : G.length ≤ 320 := by
  have hm := (alike_at R k).most
  unfold toldAt feedM at h
  split at h
  · unfold beginM at h
    split at h
    · simp only [Option.some.injEq] at h
      rw [← h, List.length_take]; omega
    · split at h <;> simp at h
  · simp at h

def QuietTrue (w : World) (e : Ending) (w' : World) : Prop := e = .returned (.bool true) ∧ ∃ n, w' = w.drewN n
set_option maxHeartbeats 4000000 in
set_option maxRecDepth 100000 in
/-- Same, of pictures that are alike. -/
theorem same_yes (w : World) (A B : Option Addr) (F : List (List Int)) (c d : Nat) (hF : MatC w A F) (hG : MatC w B F) (h1 : F.length ≤ 1000000) :
    Calls Try.prog 17 #[.slice A F.length c, .slice B F.length d] w (QuietTrue w) := by
  have hlb : ((F.length : Int) != F.length) = false := by rw [bne_eq_false_iff_eq]
  have HFW := Lib.hid hF
  have HGW := Lib.hid hG
  clear hF hG
  go_enter Try.func17, Try.ntmps17
  go_wp2_with fail
  go_loopw [5] (fun i wr => ∃ y : Nat, y ≤ F.length ∧ i = .int .i64 y ∧ ∃ n, wr = w.drewN n)
    (fun i _ => F.length - (intOf i).toNat)
  case atStart => exact ⟨0, by omega, rfl, 0, rfl⟩
  case round =>
    obtain ⟨y, hy, rfl, nd, hnd⟩ := hrel
    have HND := Lib.hid hnd
    by_cases hly : y < F.length
    · have hly' : (y : Int) < F.length := by omega
      obtain ⟨fx, fB, fC, hfx, hfc, hfl, hfm, hfr⟩ := HFW.out y hly
      obtain ⟨gx, gB, gC, hgx, hgc, hgl, hgm, hgr⟩ := HGW.out y hly
      have hfc' : wr.cell? (fx.add y) = some (.slice fB (F.getD y []).length fC) := by rw [hnd]; exact hfc
      have hgc' : wr.cell? (gx.add y) = some (.slice gB (F.getD y []).length gC) := by rw [hnd]; exact hgc
      have hfr' : RowC wr.drew fB (F.getD y []) := by rw [hnd]; exact hfr
      have hgr' : RowC wr.drew gB (F.getD y []) := by rw [hnd]; exact hgr
      subst hfx
      subst hgx
      have e0 : maxLen = 9223372036854775807 := rfl
      have hcf := Kd.C_string (P := Try.prog) (w := wr.drew) (src := 45) (dst := 9) (e := 5) (c := fC) Try.underlying45 Try.underlying5 Try.underlying9 (hfr'.C (by omega))
      have hcg := Kd.C_string (P := Try.prog) (w := wr.drew) (src := 45) (dst := 9) (e := 5) (c := gC) Try.underlying45 Try.underlying5 Try.underlying9 (hgr'.C (by omega))
      clear hfc hgc hfr hgr hfr' hgr' hnd
      generalize F.getD y [] = row at *
      have hyw : IntKind.i64.wrap ((y : Int) + 1) = (y : Int) + 1 := by rw [IntKind.wrap_i64]; omega
      go_wp2_with fail
      refine wp_region_still_lit (by kernel_rfl) (by kernel_rfl) ?_
      repeat still_step
      refine wpStill_nil ?_
      go_wp2_with fail
      go_roundw
      case rel => exact ⟨y + 1, by omega, by first | rfl | go_num | simp, nd + 1, by rw [HND.out]; rfl⟩
      case measure => simp [intOf]; omega
    · have hge : ¬ ((y : Int) < F.length) := by omega
      clear hnd
      go_wp2_with fail
      go_ret
      exact ⟨rfl, _, HND.out⟩

set_option maxHeartbeats 8000000 in
set_option maxRecDepth 100000 in
theorem frameMakes_in (w : World) (A : Option Addr) (l : List SpanM) (c : Nat) (hl : SpansC w A l) (h12 : l.length ≤ 12) :
    Calls Try.prog 3 #[.slice A l.length c] w fun e w' => e = .returned (.bool true) ∧ Below w.heap.size w w' := by
  have hu40 := Try.underlying40
  have hu33 := Try.underlying33
  have hfld : ∀ (A : Option Addr) (n c : Nat) (w : World), (Instr.field 33 (.agg #[.slice A n c]) 0).run Try.prog w = .ok (.slice A n c) w := fun _ _ _ _ => by kernel_rfl
  have h12' : ¬ (12 : Int) < l.length := by omega
  have hok : ∀ s ∈ l, s.ok := fun s hs => by
    obtain ⟨i, hi, rfl⟩ := List.getElem_of_mem hs
    obtain ⟨x, _, _, _, _, _, h⟩ := hl i hi
    exact h
  have HOK := Lib.hid (recordsM_ok hok)
  have hRl : (recordsM l).length ≤ 8400 := by have := recordsM_len l; omega
  have HL := Lib.hid hl
  clear hok hl
  go_enter Try.func3, Try.ntmps3
  go_wp2_with fail
  refine (records_in w A l c HL.out h12).mono ?_
  rintro e w1 ⟨v, rfl, hv, hb1⟩
  generalize recordsM l = R at *
  obtain ⟨A1, c1, rfl⟩ := own_slice hv
  have HRC := Lib.hid (RecsC.of_own hv HOK.out)
  clear hv
  have HB1 := Lib.hid hb1
  clear hb1
  go_wp2_with fail
  refine (frames_in w1 A1 R c1 HRC.out hRl).mono ?_
  rintro e w2 ⟨vo, va, vr, rfl, ⟨m, vs, bs, HI0, HB20⟩⟩
  obtain ⟨Ao, co, rfl⟩ := own_slice HI0.out
  obtain ⟨Aa, ca, rfl⟩ := own_slice HI0.at_
  obtain ⟨Ar, cr, rfl⟩ := own_slice HI0.rows_
  have HI := Lib.hid HI0
  have HB2 := Lib.hid HB20
  clear HI0 HB20
  go_wp2_with fail
  refine (new_in w2).mono ?_
  rintro e w3 ⟨mb, rfl, hm, hb3⟩
  have HM := Lib.hid hm
  have HB3 := Lib.hid hb3
  clear hm hb3
  go_wp2_with fail
  have hat8 := (refAt_le R R.length).2.1
  have hoa := outs_ats R R.length
  obtain ⟨na, hna⟩ : ∃ na, na = (refAt R R.length).ats.length := ⟨_, rfl⟩
  rw [← hna] at hat8 hoa
  rw [hoa]
  rw [← hna]
  have HNA := Lib.hid hna
  have HOA := Lib.hid hoa
  clear hna hoa
  go_loopw [8, 9] (fun n i wr => ∃ y : Nat, y ≤ R.length ∧ i = .int .i64 y ∧ n = .int .i64 (refAt R y).outs.length ∧ Hid (IsMaker wr w2.heap.size mb (makeAt R y)) ∧ Hid (Below w2.heap.size w2 wr))
    (fun _ i _ => R.length - (intOf i).toNat)
  case atStart => exact ⟨0, by omega, rfl, rfl, HM, HB3⟩
  case round =>
    obtain ⟨y, hy, rfl, rfl, hm, hb⟩ := hrel
    by_cases hly : y < R.length
    · have hly' : (y : Int) < R.length := by omega
      obtain ⟨x, hx, q0, q1, q2, q3, q4, q5, q6, q7, hc0, hc1⟩ := ((HRC.out.below (Nat.le_refl _) HB2.out).below (Nat.le_refl _) hb.out) y hly
      subst hx
      have hnot := not_told R y R.length hly
      have hist := is_told R y R.length hly
      have hk84 := (refAt_le R y).1
      have hmk : makeAt R (y + 1) = (feedM (makeAt R y) (R.getD y r3)).1 := rfl
      have htl : toldAt R y = (feedM (makeAt R y) (R.getD y r3)).2 := rfl
      generalize R.getD y r3 = r at *
      generalize hk : (refAt R y).outs.length = k at *
      have HNOT := Lib.hid hnot
      have HIST := Lib.hid hist
      have HMK := Lib.hid hmk
      have HTL := Lib.hid htl
      clear hnot hist hmk htl hk
      obtain ⟨clock, pixel, blank, sy, audio, addr, wrt, data⟩ := r
      simp only at q0 q1 q2 q3 q4 q5 q6 q7 hc0 hc1
      have hyw : IntKind.i64.wrap ((y : Int) + 1) = (y : Int) + 1 := by rw [IntKind.wrap_i64]; omega
      have HYW := Lib.hid hyw
      clear hyw
      go_wp2_with fail
      refine (feed_in wr w2.heap.size mb (makeAt R y) ⟨clock, pixel, blank, sy, audio, addr, wrt, data⟩ hm.out hb.out.size hc0 hc1).mono ?_
      rw [← HMK.out, ← HTL.out]
      rintro e w4 ⟨v, rfl, hf, hm4, hb4⟩
      clear q0 q1 q2 q3 q4 q5 q6 q7
      cases htd : toldAt R y with
      | none =>
        have hnt := HNOT.out htd
        rw [htd] at hf
        simp only [Option.getD_none, Option.isSome_none] at hf ⊢
        obtain ⟨Af, cf, rfl, -⟩ := hf.mat
        clear hf
        have HMN := Lib.hid (hm4.cellsKept (w' := w4.alloc (.cells #[Value.slice Af 0 cf] 33)) (CellsKept.of_below ((Below.refl _ _).alloc (Nat.le_refl _) _)))
        have HBN := Lib.hid ((hb.out.trans hb4).alloc (hb.out.trans hb4).size (.cells #[Value.slice Af 0 cf] 33))
        have hN1 := Lib.hid hnt.1
        have hcellf : (w4.alloc (.cells #[Value.slice Af 0 cf] 33)).cell? ⟨w4.heap.size, 0, none⟩ = some (.slice Af 0 cf) := cell_of_one (alloc_new w4 _)
        rw [← HNA.out] at hnt
        have hlt : decide (k < na) = false ∨ (decide (k < na) = true ∧ ∃ ad, Aa = some ad ∧ (w4.alloc (.cells #[Value.slice Af 0 cf] 33)).cell? (ad.add k) = some (.int .i64 ((refAt R R.length).ats.getD k 0)) ∧ ((refAt R R.length).ats.getD k 0 == (y : Int)) = false ∧ ¬ na ≤ k) := by
          by_cases h : k < na
          · refine .inr ⟨by simp; omega, ?_⟩
            obtain ⟨A', c', e, hrd⟩ := own_reads HI.out.at_
            cases e
            obtain ⟨ad, e, hc⟩ := hrd.2.2 (by rw [← HNA.out]; omega)
            have hck := hc k (by rw [← HNA.out]; exact h)
            exact ⟨ad, e, (HBN.out.cell (World.block_lt_of_cell? w2 _ hck)).trans hck, by rw [beq_eq_false_iff_ne]; exact hnt.2 h, by omega⟩
          · exact .inl (by simp; omega)
        clear hnt hm4 hb4
        generalize (refAt R R.length).ats.getD k 0 = ak at *
        have hkn : k ≤ 8400 := by omega
        have hk0 : (0 : Int) ≤ k := by omega
        rcases hlt with hl1 | ⟨hl1, ad, rfl, hl2, hl3, hl4⟩
        all_goals
          go_wp2_with fail
          obtain ⟨W, hW⟩ : ∃ W, W = w4.alloc (.cells #[Value.slice Af 0 cf] 33) := ⟨_, rfl⟩
          rw [← hW] at hcellf ⊢
          have HMW : IsMaker W w2.heap.size mb (makeAt R (y + 1)) := by rw [hW]; exact HMN.out
          have HBW : Below w2.heap.size w2 W := by rw [hW]; exact HBN.out
          have HMW' := Lib.hid HMW
          have HBW' := Lib.hid HBW
          try rw [← hW] at hl2
          clear hW HMW HBW
          go_quiet (fail)
          have hyw := HYW.out
          go_wp2_with fail
          go_roundw
          case rel => exact ⟨y + 1, by omega, by first | rfl | go_num | simp, by rw [hN1.out], Lib.hid (IsMaker.cellsKept (w := W) (w' := W.drewN nq) (fun _ _ _ _ h => h) HMW'.out), Lib.hid (Go.Proofs.YtgepcdohgiiaaaaW.PrintWords.pw_below_drewN HBW'.out _)⟩
          case measure => simp [intOf]; omega
      | some G =>
        obtain ⟨g1, g2, g3, g4⟩ := HIST.out G htd
        rw [htd] at hf
        simp only [Option.getD_some, Option.isSome_some] at hf ⊢
        have hGl := told_len R y G htd
        obtain ⟨Af, cf, rfl, hmf⟩ := hf.mat
        have HMN := Lib.hid (hm4.cellsKept (w' := w4.alloc (.cells #[Value.slice Af G.length cf] 33)) (CellsKept.of_below ((Below.refl _ _).alloc (Nat.le_refl _) _)))
        have HBN := Lib.hid ((hb.out.trans hb4).alloc (hb.out.trans hb4).size (.cells #[Value.slice Af G.length cf] 33))
        have HMF := Lib.hid (hmf.below (w' := w4.alloc (.cells #[Value.slice Af G.length cf] 33)) ((Below.refl _ _).alloc (Nat.le_refl _) _))
        have hcellf : (w4.alloc (.cells #[Value.slice Af G.length cf] 33)).cell? ⟨w4.heap.size, 0, none⟩ = some (.slice Af G.length cf) := cell_of_one (alloc_new w4 _)
        have hfw := (HI.out.frames k (by rw [outs_ats]; exact g2)).is
        rw [g4] at hfw
        obtain ⟨Aw, cw, ew, hmw⟩ := hfw.mat
        have HMW0 := Lib.hid (hmw.below HBN.out)
        obtain ⟨A', c', e, hrd⟩ := own_reads HI.out.at_
        cases e
        obtain ⟨ad, e, hc⟩ := hrd.2.2 (by rw [← HNA.out]; rw [← HNA.out] at g2; omega)
        have hck := hc k g2
        rw [g3] at hck
        have hck' := (HBN.out.cell (World.block_lt_of_cell? w2 _ hck)).trans hck
        obtain ⟨gw, capw, e2, _, _⟩ := HI.out.out.form (by rw [outs_ats]; omega)
        have hvk := HI.out.out.cells (g := gw) (by rw [e2]; rfl) k (.slice Aw G.length cw) (by
          have hvl : vs.length = (refAt R R.length).outs.length := by have := HI.out.out.1; omega
          have hkv : k < vs.length := by rw [hvl, outs_ats]; exact g2
          rw [List.getD_eq_getElem?_getD, List.getElem?_eq_getElem hkv] at ew
          rw [List.getElem?_eq_getElem hkv]; exact congrArg some ew)
        have hvk' := (HBN.out.cell (World.block_lt_of_cell? w2 _ hvk)).trans hvk
        rw [Addr.add_lit, Nat.zero_add] at hvk'
        injection e2 with e3 e4 e5
        subst e3
        clear e4 e5
        subst e
        have hkn : k ≤ 8400 := by omega
        have hk0 : (0 : Int) ≤ k := by omega
        have hl1 : decide (k < na) = true := by rw [decide_eq_true_eq, HNA.out]; exact g2
        have hl4 : ¬ na ≤ k := by have := HNA.out; omega
        have hkw : IntKind.i64.wrap ((k : Int) + 1) = (k : Int) + 1 := by rw [IntKind.wrap_i64]; omega
        have HG1 := Lib.hid g1
        clear hf hmf hfw hmw ew hc hck hvk hrd g1 g2 g3 g4 hm4 hb4
        go_wp2_with fail
        obtain ⟨W, hW⟩ : ∃ W, W = w4.alloc (.cells #[Value.slice Af G.length cf] 33) := ⟨_, rfl⟩
        rw [← hW] at hcellf hck' hvk' ⊢
        have HMW : IsMaker W w2.heap.size mb (makeAt R (y + 1)) := by rw [hW]; exact HMN.out
        have HBW : Below w2.heap.size w2 W := by rw [hW]; exact HBN.out
        have hm1 : MatC W Af G := by rw [hW]; exact HMF.out
        have hm2 : MatC W Aw G := by rw [hW]; exact HMW0.out
        have HMW' := Lib.hid HMW
        have HBW' := Lib.hid HBW
        have HM1 := Lib.hid hm1
        have HM2 := Lib.hid hm2
        clear hW HMW HBW hm1 hm2
        go_quiet ((go_at_call 17; exact Calls.quiet_of (same_yes _ _ _ G _ _ HM1.out HM2.out (by omega))))
        have hyw := HYW.out
        go_wp2_with fail
        go_roundw
        case rel => exact ⟨y + 1, by omega, by first | rfl | go_num | simp, by rw [HG1.out]; first | rfl | go_num | simp, Lib.hid (IsMaker.cellsKept (w := W) (w' := W.drewN nq) (fun _ _ _ _ h => h) HMW'.out), Lib.hid (Go.Proofs.YtgepcdohgiiaaaaW.PrintWords.pw_below_drewN HBW'.out _)⟩
        case measure => simp [intOf]; omega
    · have hge : ¬ ((y : Int) < R.length) := by omega
      obtain rfl : y = R.length := by omega
      rw [HOA.out]
      have hnn : ((na : Int) == na) = true := by simp
      have hmr : MatC w2 Ar (refAt R R.length).rows := by
        obtain ⟨A', c', e, hm⟩ := (FrameIs.of_rows HI.out.rows_ HI.out.row).mat
        cases e
        exact hm
      have hrl := (refAt_le R R.length).2.2.1
      have HMR := Lib.hid hmr
      clear hmr
      go_wp2_with fail
      refine (rows_all wr w2.heap.size mb _ hm.out).mono ?_
      rw [rows_at]
      rintro e w5 ⟨v, rfl, hf5, hb5⟩
      obtain ⟨A5, c5, rfl, hm5⟩ := hf5.mat
      have hB5 := hb.out.trans (hb5.mono hb.out.size)
      have HM5 := Lib.hid hm5
      have HMR5 := Lib.hid (HMR.out.below hB5)
      have HB5 := Lib.hid hB5
      clear hf5 hm5 hb5 hB5
      generalize (refAt R R.length).rows = SR at *
      go_wp2_with fail
      refine (same_yes w5 _ _ SR _ _ HM5.out HMR5.out (by omega)).mono ?_
      rintro e w6 ⟨rfl, nd, rfl⟩
      go_wp2_with fail
      refine (awake_in _).mono ?_
      rintro e w7 ⟨rfl, hb7⟩
      go_wp2_with fail
      go_ret
      refine ⟨rfl, ?_⟩
      have h1 := (HB1.out.trans (HB2.out.mono HB1.out.size))
      have h2 := h1.trans (HB5.out.mono h1.size)
      have h3 := Go.Proofs.YtgepcdohgiiaaaaW.PrintWords.pw_below_drewN h2 nd
      exact h3.trans (hb7.mono h3.size)
end Go.Proofs.Ytgepcdohgiiaaaa
