/- FrameApart. -/
import Derived.Test.YtgepcdohgiiaaaaM2
namespace Go.Proofs.Ytgepcdohgiiaaaa
open Go.RowKit Go.Shelf
open Go.Proofs.YtgepcdohgiiaaaaW.PrintWords (own_slice Kd nums)
set_option linter.unusedSimpArgs false
set_option linter.unusedVariables false

theorem dcount_none (f g : List Int) (n : Nat) : dcount f g n = 0 ↔ ∀ j, j < n → f.getD j 0 = g.getD j 0 := by
  induction n with
  | zero => simp [dcount_zero]
  | succ n ih =>
    rw [dcount_succ]
    constructor
    · intro h j hj
      by_cases hjn : j < n
      · exact ih.1 (by omega) j hjn
      · obtain rfl : j = n := by omega
        split at h
        · rename_i h'; exact h'.symm
        · omega
    · intro h
      rw [ih.2 (fun j hj => h j (by omega)), if_pos (h n (by omega)).symm]
theorem dcount_symm (f g : List Int) (n : Nat) : dcount f g n = dcount g f n := by
  induction n with
  | zero => rw [dcount_zero, dcount_zero]
  | succ n ih =>
    rw [dcount_succ, dcount_succ, ih]
    congr 1
    by_cases h : f.getD n 0 = g.getD n 0
    · rw [if_pos h.symm, if_pos h]
    · rw [if_neg (fun e => h e.symm), if_neg h]
theorem drows_symm (F G : List (List Int)) (n : Nat) : drows F G n = drows G F n := by
  induction n with
  | zero => rw [drows_zero, drows_zero]
  | succ n ih => rw [drows_succ, drows_succ, ih, dcount_symm]
theorem differ_symm (F G : List (List Int)) : differM F G = differM G F := by
  unfold differM
  by_cases h1 : F.length < G.length
  · rw [if_pos h1, if_neg (by omega)]
  · by_cases h2 : G.length < F.length
    · rw [if_neg h1, if_pos h2]
    · rw [if_neg h1, if_neg h2, drows_symm, show F.length = G.length from by omega]
theorem differ_most (F G : List (List Int)) : differM F G ≤ 160 * max F.length G.length := by
  unfold differM
  split
  · have := drows_le G F F.length; omega
  · have := drows_le F G G.length; omega
theorem row_eq (f g : List Int) (hf : f.length = 160) (hg : g.length = 160) : dcount f g 160 = 0 ↔ f = g := by
  rw [dcount_none]
  constructor
  · intro h
    refine List.ext_getElem (by omega) fun j h1 h2 => ?_
    have := h j (by omega)
    rw [List.getD_eq_getElem?_getD, List.getD_eq_getElem?_getD, List.getElem?_eq_getElem h1, List.getElem?_eq_getElem h2] at this
    exact this
  · rintro rfl j _; rfl
theorem drows_none (F G : List (List Int)) (hF : ∀ i, i < F.length → (F.getD i []).length = 160) (hG : ∀ i, i < G.length → (G.getD i []).length = 160) (n : Nat) (h1 : n ≤ F.length) (h2 : n ≤ G.length) :
    drows F G n = 0 ↔ ∀ j, j < n → F.getD j [] = G.getD j [] := by
  induction n with
  | zero => simp [drows_zero]
  | succ n ih =>
    rw [drows_succ]
    have h := row_eq (F.getD n []) (G.getD n []) (hF n (by omega)) (hG n (by omega))
    have ih := ih (by omega) (by omega)
    constructor
    · intro h0 j hj
      by_cases hjn : j < n
      · exact ih.1 (by omega) j hjn
      · obtain rfl : j = n := by omega
        exact h.1 (by omega)
    · intro h0
      rw [ih.2 (fun j hj => h0 j (by omega)), h.2 (h0 n (by omega))]
theorem differ_none (F G : List (List Int)) (hF : ∀ i, i < F.length → (F.getD i []).length = 160) (hG : ∀ i, i < G.length → (G.getD i []).length = 160) : differM F G = 0 ↔ F = G := by
  unfold differM
  by_cases h1 : F.length < G.length
  · rw [if_pos h1]
    constructor
    · intro h; omega
    · intro h; rw [h] at h1; omega
  · rw [if_neg h1]
    by_cases h2 : F.length = G.length
    · rw [h2, Nat.sub_self, Nat.mul_zero, Nat.zero_add, drows_none F G hF hG G.length (by omega) (Nat.le_refl _)]
      constructor
      · intro h
        refine List.ext_getElem h2 fun j h3 h4 => ?_
        have := h j h4
        rw [List.getD_eq_getElem?_getD, List.getD_eq_getElem?_getD, List.getElem?_eq_getElem h3, List.getElem?_eq_getElem h4] at this
        exact this
      · rintro rfl j _; rfl
    · constructor
      · intro h; omega
      · intro h; rw [h] at h2; exact absurd rfl h2

set_option maxHeartbeats 4000000 in
set_option maxRecDepth 100000 in
theorem frameApart_in (w : World) (A B : Option Addr) (F G : List (List Int)) (c d : Nat) (hF : MatC w A F) (hG : MatC w B G) (bF : ∀ r ∈ F, Bytes r) (bG : ∀ r ∈ G, Bytes r) (lF : F.length ≤ maxLen) (lG : G.length ≤ maxLen) :
    Calls Try.prog 7 #[.slice A F.length c, .slice B G.length d] w fun e w' => e = .returned (.bool true) ∧ Below w.heap.size w w' := by
  have hu33 := Try.underlying33
  have e0 : maxLen = 9223372036854775807 := rfl
  have HFW := Lib.hid hF
  have HGW := Lib.hid hG
  clear hF hG
  go_enter Try.func7, Try.ntmps7
  go_wp2_with fail
  go_loopw [5] (fun i wr => ∃ y : Nat, y ≤ F.length ∧ i = .int .i64 y ∧ Hid (∀ j, j < y → (F.getD j []).length = 160) ∧ w = wr)
    (fun i _ => F.length - (intOf i).toNat)
  case atStart => exact ⟨0, by omega, rfl, Lib.hid (fun j hj => absurd hj (by omega)), rfl⟩
  case round =>
    obtain ⟨y, hy, rfl, heq, rfl⟩ := hrel
    by_cases hly : y < F.length
    · have hly' : (y : Int) < F.length := by omega
      obtain ⟨fx, fB, fC, hfx, hfc, hfl, hfm, hfr⟩ := HFW.out y hly
      subst hfx
      obtain ⟨n, hn⟩ : ∃ n, n = (F.getD y []).length := ⟨_, rfl⟩
      rw [← hn] at hfc
      have HN := Lib.hid hn
      clear hn hfr hfl
      have hyw : IntKind.i64.wrap ((y : Int) + 1) = (y : Int) + 1 := by rw [IntKind.wrap_i64]; omega
      by_cases hq : n = 160
      · subst hq
        go_wp2_with fail
        go_roundw
        case rel => exact ⟨y + 1, by omega, by first | rfl | go_num | simp, Lib.hid (fun j hj => by
            by_cases hjy : j < y
            · exact heq.out j hjy
            · obtain rfl : j = y := by omega
              exact HN.out.symm), by first | rfl | trivial⟩
        case measure => simp [intOf]; omega
      · have hqb : ((n : Int) != 160) = true := by rw [bne_iff_ne]; omega
        go_wp2_with fail
        go_ret
        exact ⟨rfl, Below.refl _ _⟩
    · have hge : ¬ ((y : Int) < F.length) := by omega
      obtain rfl : y = F.length := by omega
      have H1 := heq
      clear heq
      go_wp2_with fail
      go_loopw [6] (fun i wr => ∃ y : Nat, y ≤ G.length ∧ i = .int .i64 y ∧ Hid (∀ j, j < y → (G.getD j []).length = 160) ∧ w = wr)
        (fun i _ => G.length - (intOf i).toNat)
      case atStart => exact ⟨0, by omega, rfl, Lib.hid (fun j hj => absurd hj (by omega)), rfl⟩
      case round =>
        obtain ⟨y, hy, rfl, heq, rfl⟩ := hrel
        by_cases hly : y < G.length
        · have hly' : (y : Int) < G.length := by omega
          obtain ⟨fx, fB, fC, hfx, hfc, hfl, hfm, hfr⟩ := HGW.out y hly
          subst hfx
          obtain ⟨n, hn⟩ : ∃ n, n = (G.getD y []).length := ⟨_, rfl⟩
          rw [← hn] at hfc
          have HN := Lib.hid hn
          clear hn hfr hfl
          have hyw : IntKind.i64.wrap ((y : Int) + 1) = (y : Int) + 1 := by rw [IntKind.wrap_i64]; omega
          by_cases hq : n = 160
          · subst hq
            go_wp2_with fail
            go_roundw
            case rel => exact ⟨y + 1, by omega, by first | rfl | go_num | simp, Lib.hid (fun j hj => by
                by_cases hjy : j < y
                · exact heq.out j hjy
                · obtain rfl : j = y := by omega
                  exact HN.out.symm), by first | rfl | trivial⟩
            case measure => simp [intOf]; omega
          · have hqb : ((n : Int) != 160) = true := by rw [bne_iff_ne]; omega
            go_wp2_with fail
            go_ret
            exact ⟨rfl, Below.refl _ _⟩
        · have hge : ¬ ((y : Int) < G.length) := by omega
          obtain rfl : y = G.length := by omega
          have H2 := heq
          clear heq
          by_cases hbig : 30 < F.length ∨ 30 < G.length
          · by_cases hb1 : 30 < F.length
            · have hb1' : (30 : Int) < F.length := by omega
              go_wp2_with fail
              go_ret
              exact ⟨rfl, Below.refl _ _⟩
            · have hb1' : ¬ (30 : Int) < F.length := by omega
              have hb2' : (30 : Int) < G.length := by omega
              go_wp2_with fail
              go_ret
              exact ⟨rfl, Below.refl _ _⟩
          · have hb1' : ¬ (30 : Int) < F.length := by omega
            have hb2' : ¬ (30 : Int) < G.length := by omega
            go_wp2_with fail
            have hB1 : Below w.heap.size w ((w.alloc (.cells #[.slice A F.length c] 33)).alloc (.cells #[.slice B G.length d] 33)) := ((Below.refl _ _).alloc (Nat.le_refl _) _).alloc (by simp) _
            obtain ⟨W, hW⟩ : ∃ W, W = ((w.alloc (.cells #[.slice A F.length c] 33)).alloc (.cells #[.slice B G.length d] 33)) := ⟨_, rfl⟩
            rw [← hW] at hB1 ⊢
            have hc0 : W.cell? ⟨w.heap.size, 0, none⟩ = some (.slice A F.length c) := by rw [hW]; simp [go_sem]
            have hc1 : W.cell? ⟨w.heap.size + 1, 0, none⟩ = some (.slice B G.length d) := by rw [hW]; simp [go_sem]
            have hsz : w.heap.size + 2 = W.heap.size := by rw [hW]; simp
            clear hW
            refine (differ_in W A B F G c d (HFW.out.below hB1) (HGW.out.below hB1) (by omega) (by omega)).mono ?_
            rintro e w1 ⟨rfl, hb1⟩
            have hdn := differ_none F G (fun i hi => H1.out i hi) (fun i hi => H2.out i hi)
            have hds := differ_symm G F
            have hmost := differ_most F G
            generalize hn : differM F G = n at hdn hds hmost
            have HFw1 := Lib.hid ((HFW.out.below hB1).below hb1)
            have HGw1 := Lib.hid ((HGW.out.below hB1).below hb1)
            have hd0 : w1.cell? ⟨w.heap.size, 0, none⟩ = some (.slice A F.length c) := (hb1.cell (p := ⟨w.heap.size, 0, none⟩) (by simp; omega)).trans hc0
            have hd1 : w1.cell? ⟨w.heap.size + 1, 0, none⟩ = some (.slice B G.length d) := (hb1.cell (p := ⟨w.heap.size + 1, 0, none⟩) (by simp; omega)).trans hc1
            have hs1 : w.heap.size + 2 ≤ w1.heap.size := by have := hb1.size; omega
            clear hc0 hc1 hn
            have HDN := Lib.hid hdn
            clear hdn
            go_wp2_with fail
            refine (same_in w1 A B F G c d HFw1.out HGw1.out (by omega) bF bG).mono ?_
            rintro e w2 ⟨rfl, hb2⟩
            have HFw2 := Lib.hid (HFw1.out.below hb2)
            have HGw2 := Lib.hid (HGw1.out.below hb2)
            have hq0 : w2.cell? ⟨w.heap.size, 0, none⟩ = some (.slice A F.length c) := (hb2.cell (p := ⟨w.heap.size, 0, none⟩) (by simp; omega)).trans hd0
            have hq1 : w2.cell? ⟨w.heap.size + 1, 0, none⟩ = some (.slice B G.length d) := (hb2.cell (p := ⟨w.heap.size + 1, 0, none⟩) (by simp; omega)).trans hd1
            clear hd0 hd1
            have hnb : ((n : Int) == 0) = decide (F = G) := by
              by_cases h : F = G
              · rw [decide_eq_true h, beq_iff_eq, HDN.out.2 h]; rfl
              · rw [decide_eq_false h, beq_eq_false_iff_ne]; intro h'; exact h (HDN.out.1 (by omega))
            generalize decide (F = G) = q at hnb
            go_wp2_with fail
            refine (differ_in w2 B A G F d c HGw2.out HFw2.out (by omega) (by omega)).mono ?_
            rintro e w3 ⟨rfl, hb3⟩
            rw [hds]
            clear hq0 hq1
            have hB3 : Below w.heap.size w w3 := ((hB1.trans (hb1.mono (by omega))).trans (hb2.mono (by omega))).trans (hb3.mono (by have := hb2.size; omega))
            have hS3 := hB3.size
            by_cases hm : F.length < G.length
            · have hm1 : (F.length : Int) < G.length := by omega
              have hm2 : (n : Int) ≤ 160 * G.length := by omega
              go_wp2_with fail
              all_goals
                refine (awake_in _).mono ?_
                rintro e w4 ⟨rfl, hb4⟩
                go_wp2_with fail
                go_ret
                exact ⟨by simp, hB3.trans (hb4.mono hS3)⟩
            · have hm1 : ¬ (F.length : Int) < G.length := by omega
              have hm2 : (n : Int) ≤ 160 * F.length := by omega
              go_wp2_with fail
              all_goals
                refine (awake_in _).mono ?_
                rintro e w4 ⟨rfl, hb4⟩
                go_wp2_with fail
                go_ret
                exact ⟨by simp, hB3.trans (hb4.mono hS3)⟩

/-- An argument of rows of bytes. -/
def IsMat (w : World) (a : Option Addr) (len cap : Nat) (G : List (List Int)) : Prop :=
  G.length = len ∧ len ≤ cap ∧ cap ≤ maxLen ∧ MatC w a G ∧ ∀ r ∈ G, Bytes r
theorem frameApart_walk (a0 : Option Addr) (len0 cap0 : Nat) (z0 : List (List Int)) (a1 : Option Addr) (len1 cap1 : Nat) (z1 : List (List Int)) (w : World) (w0 : IsMat w a0 len0 cap0 z0) (w1 : IsMat w a1 len1 cap1 z1) :
    Calls Try.prog 7 #[.slice a0 len0 cap0, .slice a1 len1 cap1] w fun e w' => e = .returned (.bool true) ∧ Below w.heap.size w w' := by
  obtain ⟨rfl, h1, h2, h3, h4⟩ := w0
  obtain ⟨rfl, g1, g2, g3, g4⟩ := w1
  exact frameApart_in w a0 a1 z0 z1 cap0 cap1 h3 g3 h4 g4 (by omega) (by omega)
theorem bytes_of_wf {xs : List Int} (h : ∀ n ∈ xs, (Lit.int .u8 n).wf = true) : Bytes xs := fun x hx => by
  have := h x hx
  simp only [Lit.wf, Bool.and_eq_true, decide_eq_true_eq] at this
  have h1 : IntKind.u8.min = 0 := rfl
  have h2 : IntKind.u8.max = 255 := rfl
  omega
/-- From the kit's opening of an argument (open_int_rows). -/
theorem IsMat.of_rows {w : World} {x : Addr} {len cap : Nat} {A : Nat → Option Addr} {L C : Nat → Nat} {Z : Nat → List Int} (hl : len ≤ cap) (hm : cap ≤ maxLen)
    (h : ∀ r, r < cap → w.cell? (x.add r) = some (.slice (A r) (L r) (C r)) ∧ L r ≤ C r ∧ C r ≤ maxLen ∧ (Z r).length = C r ∧ (∀ n ∈ Z r, (Lit.int .u8 n).wf = true) ∧ (A r = none → C r = 0) ∧
        ∀ a', A r = some a' → 0 ≤ a'.block ∧ ∀ c, c < C r → w.cell? (a'.add c) = some (.int .u8 ((Z r).getD c 0))) :
    IsMat w (some x) len cap ((List.range len).map fun r => (Z r).take (L r)) := by
  refine ⟨by simp, hl, hm, fun r hr => ?_, fun row hrow => ?_⟩
  · simp only [List.length_map, List.length_range] at hr
    have e : ((List.range len).map fun r => (Z r).take (L r)).getD r [] = (Z r).take (L r) := by
      rw [List.getD_eq_getElem?_getD, List.getElem?_map, List.getElem?_range hr]; rfl
    obtain ⟨h1, h2, h3, h4, h5, h6, h7⟩ := h r (by omega)
    have el : ((Z r).take (L r)).length = L r := by rw [List.length_take]; omega
    refine ⟨x, A r, C r, rfl, ?_, ?_, h3, ?_⟩
    · rw [e, el]; exact h1
    · rw [e, el]; exact h2
    · rw [e]
      intro j hj
      rw [el] at hj
      cases hA : A r with
      | none => have := h6 hA; omega
      | some y =>
        refine ⟨y, rfl, ?_⟩
        rw [(h7 y hA).2 j (by omega)]
        have : ((Z r).take (L r)).getD j 0 = (Z r).getD j 0 := by
          rw [List.getD_eq_getElem?_getD, List.getD_eq_getElem?_getD, List.getElem?_take, if_pos hj]
        rw [this]
  · obtain ⟨r, hr, rfl⟩ := List.mem_map.1 hrow
    have hr := List.mem_range.1 hr
    obtain ⟨h1, h2, h3, h4, h5, h6, h7⟩ := h r (by omega)
    exact bytes_of_wf fun n hn => h5 n (List.mem_of_mem_take hn)
theorem IsMat.none (w : World) : IsMat w none 0 0 [] := ⟨rfl, Nat.le_refl _, Nat.zero_le _, fun r hr => absurd hr (by simp), fun r hr => absurd hr (by simp)⟩
end Go.Proofs.Ytgepcdohgiiaaaa
