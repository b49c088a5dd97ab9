/- Contracts of functions of the program, written by a program of this seat. Conditions: stated in each theorem. -/
import Derived.Test.YtgepcdohgiiaaaaPRdx0
namespace Go.Proofs.Ytgepcdohgiiaaaa.PRd
open Go.RowKit Go.Proofs.YtgepcdohgiiaaaaW.PrintWords Go.Proofs.YtgepcdohgiiaaaaW.PrintLast Go.Proofs.YtgepcdohgiiaaaaW.PrintMore
attribute [local go_sem] max2_int min2_int max_two min_two max_three min_three max_four min_four   -- for this text's walks alone
set_option linter.unusedVariables false
set_option linter.unusedSimpArgs false

/-! ### woodgrainref24_Unpack: function 24 -/
mutual
def woodgrainref24_Unpack.j0 : Nat → List Int → Bool → Option ((List (List Int)) × Int)
  | 0, _, _ => none
  | k + 1, x0, x26 => if x26 = true then (some (([] : List (List Int)), 9)) else (woodgrainref24_Unpack.l0 k x0 ([] : List (List Int)) 2 0)
def woodgrainref24_Unpack.l0 : Nat → List Int → List (List Int) → Int → Int → Option ((List (List Int)) × Int)
  | 0, _, _, _, _ => none
  | k + 1, x0, x4, x5, x6 => if 0 < (x0.length : Int) then (if 1 < (x0.length : Int) then (if x6 < (wrap64 ((wrap64 (rd x0 0)) + (wrap64 (256 * (wrap64 (rd x0 1)))))) then (if x5 ≥ (x0.length : Int) then (some (([] : List (List Int)), 9)) else (if 0 ≤ x5 then (if x5 < (x0.length : Int) then (woodgrainref24_Unpack.l1 k x0 x4 (wrap64 (x5 + 1)) x6 (wrap64 (rd x0 x5)) ([] : List Int) 0) else (none)) else (none))) else (if x5 = (x0.length : Int) then (some (x4, 0)) else (some (([] : List (List Int)), 9)))) else (none)) else (none)
def woodgrainref24_Unpack.l1 : Nat → List Int → List (List Int) → Int → Int → Int → List Int → Int → Option ((List (List Int)) × Int)
  | 0, _, _, _, _, _, _, _ => none
  | k + 1, x0, x4, x5, x6, x7, x8, x9 => if x9 < x7 then (if (wrap64 (x5 + 1)) ≥ (x0.length : Int) then (woodgrainref24_Unpack.j3 k x0 x4 x5 x6 x7 x8 x9 true) else (if 0 ≤ x5 then (if x5 < (x0.length : Int) then (if (rd x0 x5) = 0 then (woodgrainref24_Unpack.j3 k x0 x4 x5 x6 x7 x8 x9 true) else (if (wrap64 ((x8.length : Int) + (wrap64 (rd x0 x5)))) > 160 then (woodgrainref24_Unpack.j3 k x0 x4 x5 x6 x7 x8 x9 true) else (if x9 > 0 then (if 0 ≤ (wrap64 ((x8.length : Int) - 1)) then (if (wrap64 ((x8.length : Int) - 1)) < (x8.length : Int) then (if 0 ≤ (wrap64 (x5 + 1)) then (if (wrap64 (x5 + 1)) < (x0.length : Int) then (woodgrainref24_Unpack.j3 k x0 x4 x5 x6 x7 x8 x9 ((rd x8 (wrap64 ((x8.length : Int) - 1))) == (rd x0 (wrap64 (x5 + 1))))) else (none)) else (none)) else (none)) else (none)) else (woodgrainref24_Unpack.j3 k x0 x4 x5 x6 x7 x8 x9 false)))) else (none)) else (none))) else (if (x8.length : Int) = 160 then (if x4.length < 5864062014805 then (woodgrainref24_Unpack.l0 k x0 (x4 ++ [x8]) x5 (wrap64 (x6 + 1))) else (none)) else (some (([] : List (List Int)), 9)))
def woodgrainref24_Unpack.j3 : Nat → List Int → List (List Int) → Int → Int → Int → List Int → Int → Bool → Option ((List (List Int)) × Int)
  | 0, _, _, _, _, _, _, _, _ => none
  | k + 1, x0, x4, x5, x6, x7, x8, x9, x97 => if x97 = true then (some (([] : List (List Int)), 9)) else (woodgrainref24_Unpack.l2 k x0 x4 x5 x6 x7 x8 x9 0)
def woodgrainref24_Unpack.l2 : Nat → List Int → List (List Int) → Int → Int → Int → List Int → Int → Int → Option ((List (List Int)) × Int)
  | 0, _, _, _, _, _, _, _, _ => none
  | k + 1, x0, x4, x5, x6, x7, x8, x9, x10 => if 0 ≤ x5 then (if x5 < (x0.length : Int) then (if x10 < (wrap64 (rd x0 x5)) then (if 0 ≤ (wrap64 (x5 + 1)) then (if (wrap64 (x5 + 1)) < (x0.length : Int) then (if x8.length < 140737488355328 then (woodgrainref24_Unpack.l2 k x0 x4 x5 x6 x7 (x8 ++ [rd x0 (wrap64 (x5 + 1))]) x9 (wrap64 (x10 + 1))) else (none)) else (none)) else (none)) else (woodgrainref24_Unpack.l1 k x0 x4 (wrap64 (x5 + 2)) x6 x7 x8 (wrap64 (x9 + 1)))) else (none)) else (none)
end
def woodgrainref24_Unpack.f (k : Nat) (l0 : List Int) : Option ((List (List Int)) × Int) := if (l0.length : Int) < 2 then (woodgrainref24_Unpack.j0 k l0 true) else (if 0 < (l0.length : Int) then (if 1 < (l0.length : Int) then (woodgrainref24_Unpack.j0 k l0 (decide ((wrap64 ((wrap64 (rd l0 0)) + (wrap64 (256 * (wrap64 (rd l0 1)))))) > 320))) else (none)) else (none))
theorem woodgrainref24_Unpack.mono_l : ∀ k, (∀ y0 y1, LeO (woodgrainref24_Unpack.j0 k y0 y1) (woodgrainref24_Unpack.j0 (k + 1) y0 y1)) ∧ (∀ y0 y1 y2 y3, LeO (woodgrainref24_Unpack.l0 k y0 y1 y2 y3) (woodgrainref24_Unpack.l0 (k + 1) y0 y1 y2 y3)) ∧ (∀ y0 y1 y2 y3 y4 y5 y6, LeO (woodgrainref24_Unpack.l1 k y0 y1 y2 y3 y4 y5 y6) (woodgrainref24_Unpack.l1 (k + 1) y0 y1 y2 y3 y4 y5 y6)) ∧ (∀ y0 y1 y2 y3 y4 y5 y6 y7, LeO (woodgrainref24_Unpack.j3 k y0 y1 y2 y3 y4 y5 y6 y7) (woodgrainref24_Unpack.j3 (k + 1) y0 y1 y2 y3 y4 y5 y6 y7)) ∧ (∀ y0 y1 y2 y3 y4 y5 y6 y7, LeO (woodgrainref24_Unpack.l2 k y0 y1 y2 y3 y4 y5 y6 y7) (woodgrainref24_Unpack.l2 (k + 1) y0 y1 y2 y3 y4 y5 y6 y7))
  | 0 => ⟨fun _ _ r h => by simp [woodgrainref24_Unpack.j0] at h, fun _ _ _ _ r h => by simp [woodgrainref24_Unpack.l0] at h, fun _ _ _ _ _ _ _ r h => by simp [woodgrainref24_Unpack.l1] at h, fun _ _ _ _ _ _ _ _ r h => by simp [woodgrainref24_Unpack.j3] at h, fun _ _ _ _ _ _ _ _ r h => by simp [woodgrainref24_Unpack.l2] at h⟩
  | k + 1 => by
    obtain ⟨ih0, ih1, ih2, ih3, ih4⟩ := woodgrainref24_Unpack.mono_l k
    refine ⟨?_, ?_, ?_, ?_, ?_⟩
    · intro y0 y1
      unfold woodgrainref24_Unpack.j0
      repeat' first
      | (with_reducible exact ih0 _ _)
      | (with_reducible exact ih1 _ _ _ _)
      | (with_reducible exact ih2 _ _ _ _ _ _ _)
      | (with_reducible exact ih3 _ _ _ _ _ _ _ _)
      | (with_reducible exact ih4 _ _ _ _ _ _ _ _)
      | (with_reducible exact LeO.refl _)
      | (with_reducible exact LeO.none _)
      | (with_reducible refine LeO.ite ?_ ?_)
      | (with_reducible refine LeO.bind ?_ (fun _ => ?_))
      | exact ih0 _ _
      | exact ih1 _ _ _ _
      | exact ih2 _ _ _ _ _ _ _
      | exact ih3 _ _ _ _ _ _ _ _
      | exact ih4 _ _ _ _ _ _ _ _
      | exact LeO.none _
      | refine LeO.ite ?_ ?_
      | refine LeO.bind ?_ (fun _ => ?_)
    · intro y0 y1 y2 y3
      unfold woodgrainref24_Unpack.l0
      repeat' first
      | (with_reducible exact ih0 _ _)
      | (with_reducible exact ih1 _ _ _ _)
      | (with_reducible exact ih2 _ _ _ _ _ _ _)
      | (with_reducible exact ih3 _ _ _ _ _ _ _ _)
      | (with_reducible exact ih4 _ _ _ _ _ _ _ _)
      | (with_reducible exact LeO.refl _)
      | (with_reducible exact LeO.none _)
      | (with_reducible refine LeO.ite ?_ ?_)
      | (with_reducible refine LeO.bind ?_ (fun _ => ?_))
      | exact ih0 _ _
      | exact ih1 _ _ _ _
      | exact ih2 _ _ _ _ _ _ _
      | exact ih3 _ _ _ _ _ _ _ _
      | exact ih4 _ _ _ _ _ _ _ _
      | exact LeO.none _
      | refine LeO.ite ?_ ?_
      | refine LeO.bind ?_ (fun _ => ?_)
    · intro y0 y1 y2 y3 y4 y5 y6
      unfold woodgrainref24_Unpack.l1
      repeat' first
      | (with_reducible exact ih0 _ _)
      | (with_reducible exact ih1 _ _ _ _)
      | (with_reducible exact ih2 _ _ _ _ _ _ _)
      | (with_reducible exact ih3 _ _ _ _ _ _ _ _)
      | (with_reducible exact ih4 _ _ _ _ _ _ _ _)
      | (with_reducible exact LeO.refl _)
      | (with_reducible exact LeO.none _)
      | (with_reducible refine LeO.ite ?_ ?_)
      | (with_reducible refine LeO.bind ?_ (fun _ => ?_))
      | exact ih0 _ _
      | exact ih1 _ _ _ _
      | exact ih2 _ _ _ _ _ _ _
      | exact ih3 _ _ _ _ _ _ _ _
      | exact ih4 _ _ _ _ _ _ _ _
      | exact LeO.none _
      | refine LeO.ite ?_ ?_
      | refine LeO.bind ?_ (fun _ => ?_)
    · intro y0 y1 y2 y3 y4 y5 y6 y7
      unfold woodgrainref24_Unpack.j3
      repeat' first
      | (with_reducible exact ih0 _ _)
      | (with_reducible exact ih1 _ _ _ _)
      | (with_reducible exact ih2 _ _ _ _ _ _ _)
      | (with_reducible exact ih3 _ _ _ _ _ _ _ _)
      | (with_reducible exact ih4 _ _ _ _ _ _ _ _)
      | (with_reducible exact LeO.refl _)
      | (with_reducible exact LeO.none _)
      | (with_reducible refine LeO.ite ?_ ?_)
      | (with_reducible refine LeO.bind ?_ (fun _ => ?_))
      | exact ih0 _ _
      | exact ih1 _ _ _ _
      | exact ih2 _ _ _ _ _ _ _
      | exact ih3 _ _ _ _ _ _ _ _
      | exact ih4 _ _ _ _ _ _ _ _
      | exact LeO.none _
      | refine LeO.ite ?_ ?_
      | refine LeO.bind ?_ (fun _ => ?_)
    · intro y0 y1 y2 y3 y4 y5 y6 y7
      unfold woodgrainref24_Unpack.l2
      repeat' first
      | (with_reducible exact ih0 _ _)
      | (with_reducible exact ih1 _ _ _ _)
      | (with_reducible exact ih2 _ _ _ _ _ _ _)
      | (with_reducible exact ih3 _ _ _ _ _ _ _ _)
      | (with_reducible exact ih4 _ _ _ _ _ _ _ _)
      | (with_reducible exact LeO.refl _)
      | (with_reducible exact LeO.none _)
      | (with_reducible refine LeO.ite ?_ ?_)
      | (with_reducible refine LeO.bind ?_ (fun _ => ?_))
      | exact ih0 _ _
      | exact ih1 _ _ _ _
      | exact ih2 _ _ _ _ _ _ _
      | exact ih3 _ _ _ _ _ _ _ _
      | exact ih4 _ _ _ _ _ _ _ _
      | exact LeO.none _
      | refine LeO.ite ?_ ?_
      | refine LeO.bind ?_ (fun _ => ?_)
theorem woodgrainref24_Unpack.mono : ∀ a0 k, LeO (woodgrainref24_Unpack.f k a0) (woodgrainref24_Unpack.f (k + 1) a0) := by
  intro a0 k
  obtain ⟨ih0, ih1, ih2, ih3, ih4⟩ := woodgrainref24_Unpack.mono_l k
  unfold woodgrainref24_Unpack.f
  repeat' first
      | (with_reducible exact ih0 _ _)
      | (with_reducible exact ih1 _ _ _ _)
      | (with_reducible exact ih2 _ _ _ _ _ _ _)
      | (with_reducible exact ih3 _ _ _ _ _ _ _ _)
      | (with_reducible exact ih4 _ _ _ _ _ _ _ _)
      | (with_reducible exact LeO.refl _)
      | (with_reducible exact LeO.none _)
      | (with_reducible refine LeO.ite ?_ ?_)
      | (with_reducible refine LeO.bind ?_ (fun _ => ?_))
      | exact ih0 _ _
      | exact ih1 _ _ _ _
      | exact ih2 _ _ _ _ _ _ _
      | exact ih3 _ _ _ _ _ _ _ _
      | exact ih4 _ _ _ _ _ _ _ _
      | exact LeO.none _
      | refine LeO.ite ?_ ?_
      | refine LeO.bind ?_ (fun _ => ?_)
set_option maxHeartbeats 8000000 in
set_option maxRecDepth 100000 in
theorem woodgrainref24_Unpack.calls (k : Nat) (A0 : Option Addr) (c0 : Nat) (l0 : List Int) (r1 : List (List Int)) (r2 : Int) (w : World) (hr0 : Kd.C (Kd.int .u8) w A0 l0.length l0) (hc0 : l0.length ≤ c0) (h : woodgrainref24_Unpack.f k l0 = some (r1, r2)) :
    Calls Try.prog 24 #[.slice A0 l0.length c0] w fun e w' => ∃ v0_ : Value, e = .returned (.tuple #[v0_, .int .i64 r2]) ∧ Kd.S (Kd.slice 5 (Kd.int .u8)) 45 w' w.heap.size (fun _ => True) v0_ r1 ∧ Below w.heap.size w w' := by
  have HR0 := Aside0.mk hr0
  have HC0 := Aside0.mk hc0
  clear hr0 hc0
  have HB := Aside0.mk (Below.refl w.heap.size w)
  have H : (if (l0.length : Int) < 2 then (woodgrainref24_Unpack.j0 k l0 true) else (if 0 < (l0.length : Int) then (if 1 < (l0.length : Int) then (woodgrainref24_Unpack.j0 k l0 (decide ((wrap64 ((wrap64 (rd l0 0)) + (wrap64 (256 * (wrap64 (rd l0 1)))))) > 320))) else (none)) else (none))) = some (r1, r2) := h
  clear h
  have HC2 := Aside0.mk H
  clear H
  go_enter Try.func24, Try.ntmps24
  go_upto_region 1 with (fail)
  repeat (go_quiet (fail); go_upto_region 1 with (fail))
  go_cut [26] (fun v26 wc => ∃ (kq : Nat) (x26_1 : Bool), v26 = .bool x26_1 ∧ Aside0 (woodgrainref24_Unpack.j0 kq l0 x26_1 = some (r1, r2)) ∧ Aside0 (kq ≤ k) ∧ Aside0 (Below w.heap.size w wc))
  case first =>
    have H := HC2.out
    clear HC2
    by_cases c3 : (l0.length : Int) < 2
    · rw [if_pos c3] at H
      have c3b0 : decide ((l0.length : Int) < 2) = true := decide_eq_true c3
      have c3b1 : decide (l0.length < 2) = true := decide_eq_true (by omega)
      clear c3
      (first | rw [c3b0] | (simp only [i64_w, i32_w]; rw [c3b0]) | skip)
      have H' := Aside0.mk H
      clear H
      go_wp2
      repeat (go_quiet (fail); try go_wp2)
      go_meet
      case rel => exact ⟨_, (true), (by first | rfl | (simp; done) | (simp [*]; done)), H', ⟨by first | omega | exact Nat.le_refl _⟩, ⟨by repeat (first | (with_reducible first | exact HB.out | apply below_alloc | apply pw_below_drewN | apply below_drew1) | exact HB.out)⟩⟩
    · rw [if_neg c3] at H
      have c3b0 : decide ((l0.length : Int) < 2) = false := decide_eq_false c3
      have c3b1 : decide (l0.length < 2) = false := decide_eq_false (by omega)
      clear c3
      (first | rw [c3b0] | (simp only [i64_w, i32_w]; rw [c3b0]) | skip)
      by_cases c4 : 0 < (l0.length : Int)
      · rw [if_pos c4] at H
        have c4b0 : decide (0 < (l0.length : Int)) = true := decide_eq_true c4
        have c4b1 : decide (0 < l0.length) = true := decide_eq_true (by omega)
        clear c4
        by_cases c5 : 1 < (l0.length : Int)
        · rw [if_pos c5] at H
          have c5b0 : decide (1 < (l0.length : Int)) = true := decide_eq_true c5
          have c5b1 : decide (1 < l0.length) = true := decide_eq_true (by omega)
          clear c5
          have H' := Aside0.mk H
          clear H
          have p181 : 0 ≤ (0 : Int) := (by omega)
          have q181 : 0 < (l0.length : Int) := of_decide_eq_true (by first | (with_reducible assumption) | assumption)
          obtain ⟨ad181, e181, hx181_0⟩ := Kd.at_int HR0.out 0 p181 q181
          cases e181
          have qi181 : (0 < l0.length) = True := eq_true (by omega)
          (try rw [show ((0 : Int)).toNat = 0 from rfl] at hx181_0)
          (try rw [Addr.add_zero'] at hx181_0)
          replace hx181_0 := (HB.out.cell (World.block_lt_of_cell? w _ hx181_0)).trans hx181_0
          replace p181 := eq_true p181
          replace q181 := eq_true q181
          have p182 : 0 ≤ (1 : Int) := (by omega)
          have q182 : 1 < (l0.length : Int) := of_decide_eq_true (by first | (with_reducible assumption) | assumption)
          obtain ⟨ad182, e182, hx182_0⟩ := Kd.at_int HR0.out 1 p182 q182
          obtain rfl : ad181 = ad182 := (by injection e182)
          (try simp only [show (1 : Int).toNat = 1 from rfl, Nat.reduceMul, Nat.reduceEqDiff, Go.Addr.add, ↓reduceIte] at hx182_0)
          have qi182 : (1 < l0.length) = True := eq_true (by omega)
          (try rw [show ((1 : Int)).toNat = 1 from rfl] at hx182_0)
          replace hx182_0 := (HB.out.cell (World.block_lt_of_cell? w _ hx182_0)).trans hx182_0
          replace p182 := eq_true p182
          replace q182 := eq_true q182
          go_wp2
          repeat (go_quiet (fail); try go_wp2)
          go_meet
          case rel => exact ⟨_, (decide ((wrap64 ((wrap64 (rd l0 0)) + (wrap64 (256 * (wrap64 (rd l0 1)))))) > 320)), (by first | rfl | (simp; done) | (simp [*]; done)), H', ⟨by first | omega | exact Nat.le_refl _⟩, ⟨by repeat (first | (with_reducible first | exact HB.out | apply below_alloc | apply pw_below_drewN | apply below_drew1) | exact HB.out)⟩⟩
        · rw [if_neg c5] at H
          exact absurd H (by simp)
      · rw [if_neg c4] at H
        exact absurd H (by simp)
  case rest =>
    clear HC2
    try clear p1
    try clear q1
    try clear hx1
    try clear qi1
    try clear c2
    try clear p2
    try clear c3
    try clear c3b0
    try clear c3b1
    try clear c4
    try clear c4b0
    try clear c4b1
    try clear c5
    try clear c5b0
    try clear c5b1
    try clear hx181_0
    try clear hx182_0
    try clear p181
    try clear p182
    try clear q181
    try clear q182
    obtain ⟨kq, x26_1, rfl, HA, HJ1, HB⟩ := hcut
    cases kq with
    | zero => exact absurd HA.out (by simp [woodgrainref24_Unpack.j0])
    | succ kj1 =>
      have H := HA.out
      clear HA
      simp only [woodgrainref24_Unpack.j0] at H
      by_cases c6 : x26_1 = true
      · subst c6
        have H1 : (some (([] : List (List Int)), 9)) = some (r1, r2) := by rw [if_pos rfl] at H; exact H
        clear H
        have H := H1
        clear H1
        simp only [Option.some.injEq, Prod.mk.injEq] at H
        obtain ⟨rfl, rfl⟩ := H
        go_wp2
        repeat (go_quiet (fail); try go_wp2)
        go_ret2
        exact ⟨_, by first | rfl | (simp [errW_none, errW_some] <;> rfl) | (simp [*, errW_none, errW_some] <;> rfl), by first | exact Kd.S_nil _ _ _ _ _ | exact Kd.N_nil _ _ _ _ _ | exact Kd.V_nil _ _ _ _ _ | exact Kd.Q_nil _ _ _ _ _ | exact Kd.R_nil _ _ _ _ _, by repeat (first | (with_reducible first | exact HB.out | apply below_alloc | apply pw_below_drewN | apply below_drew1) | exact HB.out)⟩
      · replace c6 := Bool.eq_false_iff.mpr c6
        subst c6
        have H1 : (woodgrainref24_Unpack.l0 kj1 l0 ([] : List (List Int)) 2 0) = some (r1, r2) := by rw [if_neg (show ¬ (false = true) by decide)] at H; exact H
        clear H
        have H := H1
        clear H1
        have H' := Aside0.mk H
        clear H
        go_wp2
        repeat (go_quiet (fail); try go_wp2)
        go_loopg [4, 5, 6] kj1 (fun kq v4 v5 v6 w' => ∃ (x4_2 : List (List Int)) (x5_2 : Int) (x6_2 : Int), v5 = .int .i64 x5_2 ∧ v6 = .int .i64 x6_2 ∧ Aside0 (woodgrainref24_Unpack.l0 kq l0 x4_2 x5_2 x6_2 = some (r1, r2)) ∧ Aside0 (kq ≤ kj1) ∧ Aside0 (Kd.S (Kd.slice 5 (Kd.int .u8)) 45 w' w.heap.size (fun _ => True) v4 x4_2) ∧ Aside0 (Below w.heap.size w w'))
        case atStart => exact ⟨(([] : List (List Int))), (2), (0), (by first | rfl | (simp; done) | (simp [*]; done)), (by first | rfl | (simp; done) | (simp [*]; done)), H', ⟨Nat.le_refl _⟩, ⟨by first | exact Kd.S_nil _ _ _ _ _ | exact Kd.N_nil _ _ _ _ _ | exact Kd.V_nil _ _ _ _ _ | exact Kd.Q_nil _ _ _ _ _ | exact Kd.R_nil _ _ _ _ _⟩, ⟨by repeat (first | (with_reducible first | exact HB.out | apply below_alloc | apply pw_below_drewN | apply below_drew1) | exact HB.out)⟩⟩
        case round =>
          clear H'
          try clear p1
          try clear q1
          try clear hx1
          try clear qi1
          try clear c2
          try clear p2
          try clear c3
          try clear c3b0
          try clear c3b1
          try clear c4
          try clear c4b0
          try clear c4b1
          try clear c5
          try clear c5b0
          try clear c5b1
          try clear c6
          try clear p6
          try clear hx181_0
          try clear hx182_0
          try clear p1
          try clear p181
          try clear p182
          try clear p2
          try clear q1
          try clear q181
          try clear q182
          obtain ⟨x4_2, x5_2, x6_2, rfl, rfl, HA, HK2, HO_4, HB⟩ := hrel
          cases gk with
          | zero => exact absurd HA.out (by simp [woodgrainref24_Unpack.l0])
          | succ k2 =>
            have H := HA.out
            clear HA
            simp only [woodgrainref24_Unpack.l0] at H
            by_cases c7 : 0 < (l0.length : Int)
            · rw [if_pos c7] at H
              have c7b0 : decide (0 < (l0.length : Int)) = true := decide_eq_true c7
              have c7b1 : decide (0 < l0.length) = true := decide_eq_true (by omega)
              clear c7
              by_cases c8 : 1 < (l0.length : Int)
              · rw [if_pos c8] at H
                have c8b0 : decide (1 < (l0.length : Int)) = true := decide_eq_true c8
                have c8b1 : decide (1 < l0.length) = true := decide_eq_true (by omega)
                clear c8
                by_cases c9 : x6_2 < (wrap64 ((wrap64 (rd l0 0)) + (wrap64 (256 * (wrap64 (rd l0 1))))))
                · rw [if_pos c9] at H
                  have c9b0 : decide (x6_2 < (wrap64 ((wrap64 (rd l0 0)) + (wrap64 (256 * (wrap64 (rd l0 1))))))) = true := decide_eq_true c9
                  clear c9
                  by_cases c10 : x5_2 ≥ (l0.length : Int)
                  · rw [if_pos c10] at H
                    have c10b0 : decide ((l0.length : Int) ≤ x5_2) = true := decide_eq_true c10
                    clear c10
                    simp only [Option.some.injEq, Prod.mk.injEq] at H
                    obtain ⟨rfl, rfl⟩ := H
                    have p183 : 0 ≤ (0 : Int) := (by omega)
                    have q183 : 0 < (l0.length : Int) := of_decide_eq_true (by first | (with_reducible assumption) | assumption)
                    obtain ⟨ad183, e183, hx183_0⟩ := Kd.at_int HR0.out 0 p183 q183
                    cases e183
                    have qi183 : (0 < l0.length) = True := eq_true (by omega)
                    (try rw [show ((0 : Int)).toNat = 0 from rfl] at hx183_0)
                    (try rw [Addr.add_zero'] at hx183_0)
                    replace hx183_0 := (HB.out.cell (World.block_lt_of_cell? w _ hx183_0)).trans hx183_0
                    replace p183 := eq_true p183
                    replace q183 := eq_true q183
                    have p184 : 0 ≤ (1 : Int) := (by omega)
                    have q184 : 1 < (l0.length : Int) := of_decide_eq_true (by first | (with_reducible assumption) | assumption)
                    obtain ⟨ad184, e184, hx184_0⟩ := Kd.at_int HR0.out 1 p184 q184
                    obtain rfl : ad183 = ad184 := (by injection e184)
                    (try simp only [show (1 : Int).toNat = 1 from rfl, Nat.reduceMul, Nat.reduceEqDiff, Go.Addr.add, ↓reduceIte] at hx184_0)
                    have qi184 : (1 < l0.length) = True := eq_true (by omega)
                    (try rw [show ((1 : Int)).toNat = 1 from rfl] at hx184_0)
                    replace hx184_0 := (HB.out.cell (World.block_lt_of_cell? w _ hx184_0)).trans hx184_0
                    replace p184 := eq_true p184
                    replace q184 := eq_true q184
                    go_wp2
                    repeat (go_quiet (fail); try go_wp2)
                    go_ret2
                    exact ⟨_, by first | rfl | (simp [errW_none, errW_some] <;> rfl) | (simp [*, errW_none, errW_some] <;> rfl), by first | exact Kd.S_nil _ _ _ _ _ | exact Kd.N_nil _ _ _ _ _ | exact Kd.V_nil _ _ _ _ _ | exact Kd.Q_nil _ _ _ _ _ | exact Kd.R_nil _ _ _ _ _, by repeat (first | (with_reducible first | exact HB.out | apply below_alloc | apply pw_below_drewN | apply below_drew1) | exact HB.out)⟩
                  · rw [if_neg c10] at H
                    have c10b0 : decide ((l0.length : Int) ≤ x5_2) = false := decide_eq_false c10
                    clear c10
                    by_cases c11 : 0 ≤ x5_2
                    · rw [if_pos c11] at H
                      have c11b0 : decide (0 ≤ x5_2) = true := decide_eq_true c11
                      clear c11
                      by_cases c12 : x5_2 < (l0.length : Int)
                      · rw [if_pos c12] at H
                        have c12b0 : decide (x5_2 < (l0.length : Int)) = true := decide_eq_true c12
                        clear c12
                        have H' := Aside0.mk H
                        clear H
                        have p183 : 0 ≤ (0 : Int) := (by omega)
                        have q183 : 0 < (l0.length : Int) := of_decide_eq_true (by first | (with_reducible assumption) | assumption)
                        obtain ⟨ad183, e183, hx183_0⟩ := Kd.at_int HR0.out 0 p183 q183
                        cases e183
                        have qi183 : (0 < l0.length) = True := eq_true (by omega)
                        (try rw [show ((0 : Int)).toNat = 0 from rfl] at hx183_0)
                        (try rw [Addr.add_zero'] at hx183_0)
                        replace hx183_0 := (HB.out.cell (World.block_lt_of_cell? w _ hx183_0)).trans hx183_0
                        replace p183 := eq_true p183
                        replace q183 := eq_true q183
                        have p184 : 0 ≤ (1 : Int) := (by omega)
                        have q184 : 1 < (l0.length : Int) := of_decide_eq_true (by first | (with_reducible assumption) | assumption)
                        obtain ⟨ad184, e184, hx184_0⟩ := Kd.at_int HR0.out 1 p184 q184
                        obtain rfl : ad183 = ad184 := (by injection e184)
                        (try simp only [show (1 : Int).toNat = 1 from rfl, Nat.reduceMul, Nat.reduceEqDiff, Go.Addr.add, ↓reduceIte] at hx184_0)
                        have qi184 : (1 < l0.length) = True := eq_true (by omega)
                        (try rw [show ((1 : Int)).toNat = 1 from rfl] at hx184_0)
                        replace hx184_0 := (HB.out.cell (World.block_lt_of_cell? w _ hx184_0)).trans hx184_0
                        replace p184 := eq_true p184
                        replace q184 := eq_true q184
                        have p185 : 0 ≤ (x5_2 : Int) := of_decide_eq_true (by first | (with_reducible assumption) | assumption)
                        have q185 : x5_2 < (l0.length : Int) := of_decide_eq_true (by first | (with_reducible assumption) | assumption)
                        obtain ⟨ad185, e185, hx185_0⟩ := Kd.at_int HR0.out x5_2 p185 q185
                        obtain rfl : ad183 = ad185 := (by injection e185)
                        replace hx185_0 := (HB.out.cell (World.block_lt_of_cell? w _ hx185_0)).trans hx185_0
                        replace p185 := eq_true p185
                        replace q185 := eq_true q185
                        go_wp2
                        repeat (go_quiet (fail); try go_wp2)
                        go_loopg [5, 8, 9] k2 (fun kq v5 v8 v9 w' => ∃ (x5_3 : Int) (x8_3 : List Int) (x9_3 : Int), v5 = .int .i64 x5_3 ∧ v9 = .int .i64 x9_3 ∧ Aside0 (woodgrainref24_Unpack.l1 kq l0 x4_2 x5_3 x6_2 (wrap64 (rd l0 x5_2)) x8_3 x9_3 = some (r1, r2)) ∧ Aside0 (kq ≤ k2) ∧ Aside0 (Kd.S (Kd.slice 5 (Kd.int .u8)) 45 w' w.heap.size (fun k_ => some k_ ≠ (v8 : Value).ownBlock) u4 x4_2) ∧ Aside0 (Kd.R (Kd.int .u8) 5 w' w.heap.size (fun _ => True) v8 x8_3) ∧ Aside0 (Below w.heap.size w w'))
                        case atStart => exact ⟨(wrap64 (x5_2 + 1)), (([] : List Int)), (0), (by first | rfl | (simp; done) | (simp [*]; done)), (by first | rfl | (simp; done) | (simp [*]; done)), H', ⟨Nat.le_refl _⟩, ⟨by (with_reducible repeat (first | apply Kd.S_alloc | apply Kd.S_drewN | apply Kd.S_drew)); exact Kd.S_mono HO_4.out (fun _ hk => (by simp [Value.ownBlock]))⟩, ⟨by first | exact Kd.R_nil _ _ _ _ _ | exact Kd.N_nil _ _ _ _ _ | exact Kd.V_nil _ _ _ _ _ | exact Kd.Q_nil _ _ _ _ _ | exact Kd.S_nil _ _ _ _ _⟩, ⟨by repeat (first | (with_reducible first | exact HB.out | apply below_alloc | apply pw_below_drewN | apply below_drew1) | exact HB.out)⟩⟩
                        case round =>
                          clear H'
                          try clear c1
                          try clear p1
                          try clear q1
                          try clear hx1
                          try clear qi1
                          try clear c2
                          try clear p2
                          try clear c3
                          try clear c3b0
                          try clear c3b1
                          try clear c4
                          try clear c4b0
                          try clear c4b1
                          try clear c5
                          try clear c5b0
                          try clear c5b1
                          try clear c6
                          try clear p6
                          try clear c7
                          try clear c7b0
                          try clear c7b1
                          try clear c8
                          try clear c8b0
                          try clear c8b1
                          try clear c9
                          try clear c9b0
                          try clear c10
                          try clear c10b0
                          try clear c11
                          try clear c11b0
                          try clear c12
                          try clear c12b0
                          try clear hx181_0
                          try clear hx182_0
                          try clear hx183_0
                          try clear hx184_0
                          try clear hx185_0
                          try clear p1
                          try clear p181
                          try clear p182
                          try clear p183
                          try clear p184
                          try clear p185
                          try clear p2
                          try clear p6
                          try clear q1
                          try clear q181
                          try clear q182
                          try clear q183
                          try clear q184
                          try clear q185
                          obtain ⟨x5_3, x8_3, x9_3, rfl, rfl, HA, HK3, HO_4, HO_8, HB⟩ := hrel
                          cases gk with
                          | zero => exact absurd HA.out (by simp [woodgrainref24_Unpack.l1])
                          | succ k3 =>
                            have H := HA.out
                            clear HA
                            simp only [woodgrainref24_Unpack.l1] at H
                            by_cases c13 : x9_3 < (wrap64 (rd l0 x5_2))
                            · rw [if_pos c13] at H
                              have c13b0 : decide (x9_3 < (wrap64 (rd l0 x5_2))) = true := decide_eq_true c13
                              clear c13
                              have HC14 := Aside0.mk H
                              clear H
                              go_upto_region 16 with (fail)
                              repeat (go_quiet (fail); go_upto_region 16 with (fail))
                              go_cut [97] (fun v97 wc => ∃ (kq : Nat) (x97_13 : Bool), v97 = .bool x97_13 ∧ Aside0 (woodgrainref24_Unpack.j3 kq l0 x4_2 x5_3 x6_2 (wrap64 (rd l0 x5_2)) x8_3 x9_3 x97_13 = some (r1, r2)) ∧ Aside0 (kq ≤ k3) ∧ Aside0 (Kd.S (Kd.slice 5 (Kd.int .u8)) 45 wc w.heap.size (fun k_ => some k_ ≠ (u8 : Value).ownBlock) u4 x4_2) ∧ Aside0 (Kd.R (Kd.int .u8) 5 wc w.heap.size (fun _ => True) u8 x8_3) ∧ Aside0 (Below w.heap.size w wc))
                              case first =>
                                have H := HC14.out
                                clear HC14
                                by_cases c15 : (wrap64 (x5_3 + 1)) ≥ (l0.length : Int)
                                · rw [if_pos c15] at H
                                  have c15b0 : decide ((l0.length : Int) ≤ (wrap64 (x5_3 + 1))) = true := decide_eq_true c15
                                  clear c15
                                  (first | rw [c15b0] | (simp only [i64_w, i32_w]; rw [c15b0]) | skip)
                                  have H' := Aside0.mk H
                                  clear H
                                  go_wp2
                                  repeat (go_quiet (fail); try go_wp2)
                                  go_meet
                                  case rel => exact ⟨_, (true), (by first | rfl | (simp; done) | (simp [*]; done)), H', ⟨by have := HJ1.out; have := HK2.out; have := HK3.out; first | omega | exact Nat.le_refl _⟩, ⟨by (with_reducible repeat (first | apply Kd.S_alloc | apply Kd.S_drewN | apply Kd.S_drew)); exact HO_4.out⟩, ⟨by (with_reducible repeat (first | apply Kd.R_alloc | apply Kd.R_drewN | apply Kd.R_drew)); exact HO_8.out⟩, ⟨by repeat (first | (with_reducible first | exact HB.out | apply below_alloc | apply pw_below_drewN | apply below_drew1) | exact HB.out)⟩⟩
                                · rw [if_neg c15] at H
                                  have c15b0 : decide ((l0.length : Int) ≤ (wrap64 (x5_3 + 1))) = false := decide_eq_false c15
                                  clear c15
                                  (first | rw [c15b0] | (simp only [i64_w, i32_w]; rw [c15b0]) | skip)
                                  by_cases c16 : 0 ≤ x5_3
                                  · rw [if_pos c16] at H
                                    have c16b0 : decide (0 ≤ x5_3) = true := decide_eq_true c16
                                    clear c16
                                    by_cases c17 : x5_3 < (l0.length : Int)
                                    · rw [if_pos c17] at H
                                      have c17b0 : decide (x5_3 < (l0.length : Int)) = true := decide_eq_true c17
                                      clear c17
                                      by_cases c18 : (rd l0 x5_3) = 0
                                      · rw [if_pos c18] at H
                                        have c18b0 : ((rd l0 x5_3) == 0) = true := beq_iff_eq.mpr c18
                                        have c18b1 : ((rd l0 x5_3) != 0) = false := bne_eq_false_iff_eq.mpr c18
                                        clear c18
                                        have H' := Aside0.mk H
                                        clear H
                                        have p189 : 0 ≤ (x5_3 : Int) := of_decide_eq_true (by first | (with_reducible assumption) | assumption)
                                        have q189 : x5_3 < (l0.length : Int) := of_decide_eq_true (by first | (with_reducible assumption) | assumption)
                                        obtain ⟨ad189, e189, hx189_0⟩ := Kd.at_int HR0.out x5_3 p189 q189
                                        obtain rfl : ad183 = ad189 := (by injection e189)
                                        replace hx189_0 := (HB.out.cell (World.block_lt_of_cell? w _ hx189_0)).trans hx189_0
                                        replace p189 := eq_true p189
                                        replace q189 := eq_true q189
                                        go_wp2
                                        repeat (go_quiet (fail); try go_wp2)
                                        go_meet
                                        case rel => exact ⟨_, (true), (by first | rfl | (simp; done) | (simp [*]; done)), H', ⟨by have := HJ1.out; have := HK2.out; have := HK3.out; first | omega | exact Nat.le_refl _⟩, ⟨by (with_reducible repeat (first | apply Kd.S_alloc | apply Kd.S_drewN | apply Kd.S_drew)); exact HO_4.out⟩, ⟨by (with_reducible repeat (first | apply Kd.R_alloc | apply Kd.R_drewN | apply Kd.R_drew)); exact HO_8.out⟩, ⟨by repeat (first | (with_reducible first | exact HB.out | apply below_alloc | apply pw_below_drewN | apply below_drew1) | exact HB.out)⟩⟩
                                      · rw [if_neg c18] at H
                                        have c18b0 : ((rd l0 x5_3) == 0) = false := beq_eq_false_iff_ne.mpr c18
                                        have c18b1 : ((rd l0 x5_3) != 0) = true := bne_iff_ne.mpr c18
                                        by_cases c19 : (wrap64 ((x8_3.length : Int) + (wrap64 (rd l0 x5_3)))) > 160
                                        · rw [if_pos c19] at H
                                          have c19b0 : decide (160 < (wrap64 ((x8_3.length : Int) + (wrap64 (rd l0 x5_3))))) = true := decide_eq_true c19
                                          clear c19
                                          have H' := Aside0.mk H
                                          clear H
                                          have p189 : 0 ≤ (x5_3 : Int) := of_decide_eq_true (by first | (with_reducible assumption) | assumption)
                                          have q189 : x5_3 < (l0.length : Int) := of_decide_eq_true (by first | (with_reducible assumption) | assumption)
                                          obtain ⟨ad189, e189, hx189_0⟩ := Kd.at_int HR0.out x5_3 p189 q189
                                          obtain rfl : ad183 = ad189 := (by injection e189)
                                          replace hx189_0 := (HB.out.cell (World.block_lt_of_cell? w _ hx189_0)).trans hx189_0
                                          replace p189 := eq_true p189
                                          replace q189 := eq_true q189
                                          obtain ⟨Ao20, co20, eo20⟩ := Kd.R_slice HO_8.out
                                          subst eo20
                                          have p190 : 0 ≤ (x5_3 : Int) := of_decide_eq_true (by first | (with_reducible assumption) | assumption)
                                          have q190 : x5_3 < (l0.length : Int) := of_decide_eq_true (by first | (with_reducible assumption) | assumption)
                                          obtain ⟨ad190, e190, hx190_0⟩ := Kd.at_int HR0.out x5_3 p190 q190
                                          obtain rfl : ad183 = ad190 := (by injection e190)
                                          replace hx190_0 := (HB.out.cell (World.block_lt_of_cell? w _ hx190_0)).trans hx190_0
                                          replace p190 := eq_true p190
                                          replace q190 := eq_true q190
                                          go_wp2
                                          repeat (go_quiet (fail); try go_wp2)
                                          go_meet
                                          case rel => exact ⟨_, (true), (by first | rfl | (simp; done) | (simp [*]; done)), H', ⟨by have := HJ1.out; have := HK2.out; have := HK3.out; first | omega | exact Nat.le_refl _⟩, ⟨by (with_reducible repeat (first | apply Kd.S_alloc | apply Kd.S_drewN | apply Kd.S_drew)); exact HO_4.out⟩, ⟨by (with_reducible repeat (first | apply Kd.R_alloc | apply Kd.R_drewN | apply Kd.R_drew)); exact HO_8.out⟩, ⟨by repeat (first | (with_reducible first | exact HB.out | apply below_alloc | apply pw_below_drewN | apply below_drew1) | exact HB.out)⟩⟩
                                        · rw [if_neg c19] at H
                                          have c19b0 : decide (160 < (wrap64 ((x8_3.length : Int) + (wrap64 (rd l0 x5_3))))) = false := decide_eq_false c19
                                          clear c19
                                          by_cases c21 : x9_3 > 0
                                          · rw [if_pos c21] at H
                                            have c21b0 : decide (0 < x9_3) = true := decide_eq_true c21
                                            clear c21
                                            obtain ⟨ji22, hji22⟩ : ∃ j_ : Int, (wrap64 ((x8_3.length : Int) - 1)) = j_ := ⟨_, rfl⟩
                                            replace H : (if 0 ≤ (ji22) then (if (ji22) < (x8_3.length : Int) then (if 0 ≤ (wrap64 (x5_3 + 1)) then (if (wrap64 (x5_3 + 1)) < (l0.length : Int) then (woodgrainref24_Unpack.j3 k3 l0 x4_2 x5_3 x6_2 (wrap64 (rd l0 x5_2)) x8_3 x9_3 ((rd x8_3 (ji22)) == (rd l0 (wrap64 (x5_3 + 1))))) else (none)) else (none)) else (none)) else (none)) = some (r1, r2) := by first | (rw [hji22] at H; exact H) | (simp only [hji22] at H ⊢; exact H)
                                            have hji22w : (IntKind.i64.wrap ((x8_3.length : Int) - 1)) = ji22 := (i64_w _).trans hji22
                                            by_cases c23 : 0 ≤ (ji22)
                                            · rw [if_pos c23] at H
                                              have c23b0 : decide (0 ≤ (ji22)) = true := decide_eq_true c23
                                              clear c23
                                              by_cases c24 : (ji22) < (x8_3.length : Int)
                                              · rw [if_pos c24] at H
                                                have c24b0 : decide ((ji22) < (x8_3.length : Int)) = true := decide_eq_true c24
                                                clear c24
                                                obtain ⟨ji25, hji25⟩ : ∃ j_ : Int, (wrap64 (x5_3 + 1)) = j_ := ⟨_, rfl⟩
                                                replace H : (if 0 ≤ (ji25) then (if (ji25) < (l0.length : Int) then (woodgrainref24_Unpack.j3 k3 l0 x4_2 x5_3 x6_2 (wrap64 (rd l0 x5_2)) x8_3 x9_3 ((rd x8_3 (ji22)) == (rd l0 (ji25)))) else (none)) else (none)) = some (r1, r2) := by first | (rw [hji25] at H; exact H) | (simp only [hji25] at H ⊢; exact H)
                                                (try rw [hji25] at c15b0)
                                                have hji25w : (IntKind.i64.wrap (x5_3 + 1)) = ji25 := (i64_w _).trans hji25
                                                by_cases c26 : 0 ≤ (ji25)
                                                · rw [if_pos c26] at H
                                                  have c26b0 : decide (0 ≤ (ji25)) = true := decide_eq_true c26
                                                  clear c26
                                                  by_cases c27 : (ji25) < (l0.length : Int)
                                                  · rw [if_pos c27] at H
                                                    have c27b0 : decide ((ji25) < (l0.length : Int)) = true := decide_eq_true c27
                                                    clear c27
                                                    have H' := Aside0.mk H
                                                    clear H
                                                    have p189 : 0 ≤ (x5_3 : Int) := of_decide_eq_true (by first | (with_reducible assumption) | assumption)
                                                    have q189 : x5_3 < (l0.length : Int) := of_decide_eq_true (by first | (with_reducible assumption) | assumption)
                                                    obtain ⟨ad189, e189, hx189_0⟩ := Kd.at_int HR0.out x5_3 p189 q189
                                                    obtain rfl : ad183 = ad189 := (by injection e189)
                                                    replace hx189_0 := (HB.out.cell (World.block_lt_of_cell? w _ hx189_0)).trans hx189_0
                                                    replace p189 := eq_true p189
                                                    replace q189 := eq_true q189
                                                    obtain ⟨Ao28, co28, eo28⟩ := Kd.R_slice HO_8.out
                                                    subst eo28
                                                    have p190 : 0 ≤ (x5_3 : Int) := of_decide_eq_true (by first | (with_reducible assumption) | assumption)
                                                    have q190 : x5_3 < (l0.length : Int) := of_decide_eq_true (by first | (with_reducible assumption) | assumption)
                                                    obtain ⟨ad190, e190, hx190_0⟩ := Kd.at_int HR0.out x5_3 p190 q190
                                                    obtain rfl : ad183 = ad190 := (by injection e190)
                                                    replace hx190_0 := (HB.out.cell (World.block_lt_of_cell? w _ hx190_0)).trans hx190_0
                                                    replace p190 := eq_true p190
                                                    replace q190 := eq_true q190
                                                    have p191 : 0 ≤ ((ji22) : Int) := of_decide_eq_true (by first | (with_reducible assumption) | assumption)
                                                    have q191 : (ji22) < (x8_3.length : Int) := of_decide_eq_true (by first | (with_reducible assumption) | assumption)
                                                    obtain ⟨ad191, e191, hx191_0⟩ := Kd.at_int (Kd.R_reads' HO_8.out).2.2 (ji22) p191 q191
                                                    cases e191
                                                    replace p191 := eq_true p191
                                                    replace q191 := eq_true q191
                                                    have p192 : 0 ≤ ((ji25) : Int) := of_decide_eq_true (by first | (with_reducible assumption) | assumption)
                                                    have q192 : (ji25) < (l0.length : Int) := of_decide_eq_true (by first | (with_reducible assumption) | assumption)
                                                    obtain ⟨ad192, e192, hx192_0⟩ := Kd.at_int HR0.out (ji25) p192 q192
                                                    obtain rfl : ad183 = ad192 := (by injection e192)
                                                    replace hx192_0 := (HB.out.cell (World.block_lt_of_cell? w _ hx192_0)).trans hx192_0
                                                    replace p192 := eq_true p192
                                                    replace q192 := eq_true q192
                                                    go_wp2
                                                    repeat (go_quiet (fail); try go_wp2)
                                                    go_meet
                                                    case rel => exact ⟨_, (((rd x8_3 (ji22)) == (rd l0 (ji25)))), (by first | rfl | (simp; done) | (simp only [← hji22, ← hji25] <;> (first | rfl | simp)) | (simp [*]; done)), H', ⟨by have := HJ1.out; have := HK2.out; have := HK3.out; first | omega | exact Nat.le_refl _⟩, ⟨by (with_reducible repeat (first | apply Kd.S_alloc | apply Kd.S_drewN | apply Kd.S_drew)); exact HO_4.out⟩, ⟨by (with_reducible repeat (first | apply Kd.R_alloc | apply Kd.R_drewN | apply Kd.R_drew)); exact HO_8.out⟩, ⟨by repeat (first | (with_reducible first | exact HB.out | apply below_alloc | apply pw_below_drewN | apply below_drew1) | exact HB.out)⟩⟩
                                                  · rw [if_neg c27] at H
                                                    exact absurd H (by simp)
                                                · rw [if_neg c26] at H
                                                  exact absurd H (by simp)
                                              · rw [if_neg c24] at H
                                                exact absurd H (by simp)
                                            · rw [if_neg c23] at H
                                              exact absurd H (by simp)
                                          · rw [if_neg c21] at H
                                            have c21b0 : decide (0 < x9_3) = false := decide_eq_false c21
                                            clear c21
                                            have H' := Aside0.mk H
                                            clear H
                                            have p189 : 0 ≤ (x5_3 : Int) := of_decide_eq_true (by first | (with_reducible assumption) | assumption)
                                            have q189 : x5_3 < (l0.length : Int) := of_decide_eq_true (by first | (with_reducible assumption) | assumption)
                                            obtain ⟨ad189, e189, hx189_0⟩ := Kd.at_int HR0.out x5_3 p189 q189
                                            obtain rfl : ad183 = ad189 := (by injection e189)
                                            replace hx189_0 := (HB.out.cell (World.block_lt_of_cell? w _ hx189_0)).trans hx189_0
                                            replace p189 := eq_true p189
                                            replace q189 := eq_true q189
                                            obtain ⟨Ao29, co29, eo29⟩ := Kd.R_slice HO_8.out
                                            subst eo29
                                            have p190 : 0 ≤ (x5_3 : Int) := of_decide_eq_true (by first | (with_reducible assumption) | assumption)
                                            have q190 : x5_3 < (l0.length : Int) := of_decide_eq_true (by first | (with_reducible assumption) | assumption)
                                            obtain ⟨ad190, e190, hx190_0⟩ := Kd.at_int HR0.out x5_3 p190 q190
                                            obtain rfl : ad183 = ad190 := (by injection e190)
                                            replace hx190_0 := (HB.out.cell (World.block_lt_of_cell? w _ hx190_0)).trans hx190_0
                                            replace p190 := eq_true p190
                                            replace q190 := eq_true q190
                                            go_wp2
                                            repeat (go_quiet (fail); try go_wp2)
                                            go_meet
                                            case rel => exact ⟨_, (false), (by first | rfl | (simp; done) | (simp [*]; done)), H', ⟨by have := HJ1.out; have := HK2.out; have := HK3.out; first | omega | exact Nat.le_refl _⟩, ⟨by (with_reducible repeat (first | apply Kd.S_alloc | apply Kd.S_drewN | apply Kd.S_drew)); exact HO_4.out⟩, ⟨by (with_reducible repeat (first | apply Kd.R_alloc | apply Kd.R_drewN | apply Kd.R_drew)); exact HO_8.out⟩, ⟨by repeat (first | (with_reducible first | exact HB.out | apply below_alloc | apply pw_below_drewN | apply below_drew1) | exact HB.out)⟩⟩
                                    · rw [if_neg c17] at H
                                      exact absurd H (by simp)
                                  · rw [if_neg c16] at H
                                    exact absurd H (by simp)
                              case rest =>
                                clear HC14
                                try clear c1
                                try clear p1
                                try clear q1
                                try clear hx1
                                try clear qi1
                                try clear c2
                                try clear p2
                                try clear c3
                                try clear c3b0
                                try clear c3b1
                                try clear c4
                                try clear c4b0
                                try clear c4b1
                                try clear c5
                                try clear c5b0
                                try clear c5b1
                                try clear c6
                                try clear p6
                                try clear c7
                                try clear c7b0
                                try clear c7b1
                                try clear c8
                                try clear c8b0
                                try clear c8b1
                                try clear c9
                                try clear c9b0
                                try clear c10
                                try clear c10b0
                                try clear c11
                                try clear c11b0
                                try clear c12
                                try clear c12b0
                                try clear c13
                                try clear c13b0
                                try clear c15
                                try clear c15b0
                                try clear c16
                                try clear c16b0
                                try clear c17
                                try clear c17b0
                                try clear c18
                                try clear c18b0
                                try clear c18b1
                                try clear p18
                                try clear q18
                                try clear hx18
                                try clear qi18
                                try clear c19
                                try clear c19b0
                                try clear p19
                                try clear q19
                                try clear hx19
                                try clear c21
                                try clear c21b0
                                try clear c23
                                try clear c23b0
                                try clear c24
                                try clear c24b0
                                try clear c26
                                try clear c26b0
                                try clear c27
                                try clear c27b0
                                try clear hx181_0
                                try clear hx182_0
                                try clear hx183_0
                                try clear hx184_0
                                try clear hx185_0
                                try clear hx189_0
                                try clear hx190_0
                                try clear hx191_0
                                try clear hx192_0
                                try clear p1
                                try clear p181
                                try clear p182
                                try clear p183
                                try clear p184
                                try clear p185
                                try clear p189
                                try clear p190
                                try clear p191
                                try clear p192
                                try clear p2
                                try clear p6
                                try clear q1
                                try clear q181
                                try clear q182
                                try clear q183
                                try clear q184
                                try clear q185
                                try clear q189
                                try clear q190
                                try clear q191
                                try clear q192
                                obtain ⟨kq, x97_13, rfl, HA, HJ13, HO_4, HO_8, HB⟩ := hcut
                                cases kq with
                                | zero => exact absurd HA.out (by simp [woodgrainref24_Unpack.j3])
                                | succ kj13 =>
                                  have H := HA.out
                                  clear HA
                                  simp only [woodgrainref24_Unpack.j3] at H
                                  by_cases c30 : x97_13 = true
                                  · subst c30
                                    have H1 : (some (([] : List (List Int)), 9)) = some (r1, r2) := by rw [if_pos rfl] at H; exact H
                                    clear H
                                    have H := H1
                                    clear H1
                                    simp only [Option.some.injEq, Prod.mk.injEq] at H
                                    obtain ⟨rfl, rfl⟩ := H
                                    go_wp2
                                    repeat (go_quiet (fail); try go_wp2)
                                    go_ret2
                                    exact ⟨_, by first | rfl | (simp [errW_none, errW_some] <;> rfl) | (simp [*, errW_none, errW_some] <;> rfl), by first | exact Kd.S_nil _ _ _ _ _ | exact Kd.N_nil _ _ _ _ _ | exact Kd.V_nil _ _ _ _ _ | exact Kd.Q_nil _ _ _ _ _ | exact Kd.R_nil _ _ _ _ _, by repeat (first | (with_reducible first | exact HB.out | apply below_alloc | apply pw_below_drewN | apply below_drew1) | exact HB.out)⟩
                                  · replace c30 := Bool.eq_false_iff.mpr c30
                                    subst c30
                                    have H1 : (woodgrainref24_Unpack.l2 kj13 l0 x4_2 x5_3 x6_2 (wrap64 (rd l0 x5_2)) x8_3 x9_3 0) = some (r1, r2) := by rw [if_neg (show ¬ (false = true) by decide)] at H; exact H
                                    clear H
                                    have H := H1
                                    clear H1
                                    have H' := Aside0.mk H
                                    clear H
                                    go_wp2
                                    repeat (go_quiet (fail); try go_wp2)
                                    go_loopg [8, 10] kj13 (fun kq v8 v10 w' => ∃ (x8_5 : List Int) (x10_5 : Int), v10 = .int .i64 x10_5 ∧ Aside0 (woodgrainref24_Unpack.l2 kq l0 x4_2 x5_3 x6_2 (wrap64 (rd l0 x5_2)) x8_5 x9_3 x10_5 = some (r1, r2)) ∧ Aside0 (kq ≤ kj13) ∧ Aside0 (Kd.S (Kd.slice 5 (Kd.int .u8)) 45 w' w.heap.size (fun k_ => some k_ ≠ (v8 : Value).ownBlock) u4 x4_2) ∧ Aside0 (Kd.R (Kd.int .u8) 5 w' w.heap.size (fun _ => True) v8 x8_5) ∧ Aside0 (Below w.heap.size w w'))
                                    case atStart => exact ⟨(x8_3), (0), (by first | rfl | (simp; done) | (simp [*]; done)), H', ⟨Nat.le_refl _⟩, ⟨by (with_reducible repeat (first | apply Kd.S_alloc | apply Kd.S_drewN | apply Kd.S_drew)); exact HO_4.out⟩, ⟨by (with_reducible repeat (first | apply Kd.R_alloc | apply Kd.R_drewN | apply Kd.R_drew)); exact HO_8.out⟩, ⟨by repeat (first | (with_reducible first | exact HB.out | apply below_alloc | apply pw_below_drewN | apply below_drew1) | exact HB.out)⟩⟩
                                    case round =>
                                      clear H'
                                      try clear c1
                                      try clear p1
                                      try clear q1
                                      try clear hx1
                                      try clear qi1
                                      try clear c2
                                      try clear p2
                                      try clear c3
                                      try clear c3b0
                                      try clear c3b1
                                      try clear c4
                                      try clear c4b0
                                      try clear c4b1
                                      try clear c5
                                      try clear c5b0
                                      try clear c5b1
                                      try clear c6
                                      try clear p6
                                      try clear c7
                                      try clear c7b0
                                      try clear c7b1
                                      try clear c8
                                      try clear c8b0
                                      try clear c8b1
                                      try clear c9
                                      try clear c9b0
                                      try clear c10
                                      try clear c10b0
                                      try clear c11
                                      try clear c11b0
                                      try clear c12
                                      try clear c12b0
                                      try clear c13
                                      try clear c13b0
                                      try clear c15
                                      try clear c15b0
                                      try clear c16
                                      try clear c16b0
                                      try clear c17
                                      try clear c17b0
                                      try clear c18
                                      try clear c18b0
                                      try clear c18b1
                                      try clear p18
                                      try clear q18
                                      try clear hx18
                                      try clear qi18
                                      try clear c19
                                      try clear c19b0
                                      try clear p19
                                      try clear q19
                                      try clear hx19
                                      try clear c21
                                      try clear c21b0
                                      try clear c23
                                      try clear c23b0
                                      try clear c24
                                      try clear c24b0
                                      try clear c26
                                      try clear c26b0
                                      try clear c27
                                      try clear c27b0
                                      try clear c30
                                      try clear hx181_0
                                      try clear hx182_0
                                      try clear hx183_0
                                      try clear hx184_0
                                      try clear hx185_0
                                      try clear hx189_0
                                      try clear hx190_0
                                      try clear hx191_0
                                      try clear hx192_0
                                      try clear p1
                                      try clear p18
                                      try clear p181
                                      try clear p182
                                      try clear p183
                                      try clear p184
                                      try clear p185
                                      try clear p189
                                      try clear p19
                                      try clear p190
                                      try clear p191
                                      try clear p192
                                      try clear p2
                                      try clear p6
                                      try clear q1
                                      try clear q18
                                      try clear q181
                                      try clear q182
                                      try clear q183
                                      try clear q184
                                      try clear q185
                                      try clear q189
                                      try clear q19
                                      try clear q190
                                      try clear q191
                                      try clear q192
                                      obtain ⟨x8_5, x10_5, rfl, HA, HK5, HO_4, HO_8, HB⟩ := hrel
                                      cases gk with
                                      | zero => exact absurd HA.out (by simp [woodgrainref24_Unpack.l2])
                                      | succ k5 =>
                                        have H := HA.out
                                        clear HA
                                        simp only [woodgrainref24_Unpack.l2] at H
                                        by_cases c31 : 0 ≤ x5_3
                                        · rw [if_pos c31] at H
                                          have c31b0 : decide (0 ≤ x5_3) = true := decide_eq_true c31
                                          clear c31
                                          by_cases c32 : x5_3 < (l0.length : Int)
                                          · rw [if_pos c32] at H
                                            have c32b0 : decide (x5_3 < (l0.length : Int)) = true := decide_eq_true c32
                                            clear c32
                                            by_cases c33 : x10_5 < (wrap64 (rd l0 x5_3))
                                            · rw [if_pos c33] at H
                                              have c33b0 : decide (x10_5 < (wrap64 (rd l0 x5_3))) = true := decide_eq_true c33
                                              clear c33
                                              obtain ⟨ji34, hji34⟩ : ∃ j_ : Int, (wrap64 (x5_3 + 1)) = j_ := ⟨_, rfl⟩
                                              replace H : (if 0 ≤ (ji34) then (if (ji34) < (l0.length : Int) then (if x8_5.length < 140737488355328 then (woodgrainref24_Unpack.l2 k5 l0 x4_2 x5_3 x6_2 (wrap64 (rd l0 x5_2)) (x8_5 ++ [rd l0 (ji34)]) x9_3 (wrap64 (x10_5 + 1))) else (none)) else (none)) else (none)) = some (r1, r2) := by first | (rw [hji34] at H; exact H) | (simp only [hji34] at H ⊢; exact H)
                                              have hji34w : (IntKind.i64.wrap (x5_3 + 1)) = ji34 := (i64_w _).trans hji34
                                              by_cases c35 : 0 ≤ (ji34)
                                              · rw [if_pos c35] at H
                                                have c35b0 : decide (0 ≤ (ji34)) = true := decide_eq_true c35
                                                clear c35
                                                by_cases c36 : (ji34) < (l0.length : Int)
                                                · rw [if_pos c36] at H
                                                  have c36b0 : decide ((ji34) < (l0.length : Int)) = true := decide_eq_true c36
                                                  clear c36
                                                  by_cases c37 : x8_5.length < 140737488355328
                                                  · rw [if_pos c37] at H
                                                    have LMc37 := Aside0.mk c37
                                                    clear c37
                                                    obtain ⟨y195, hy195⟩ : ∃ y_ : List Int, y_ = (x8_5 ++ [rd l0 (ji34)]) := ⟨_, rfl⟩
                                                    replace H : (woodgrainref24_Unpack.l2 k5 l0 x4_2 x5_3 x6_2 (wrap64 (rd l0 x5_2)) y195 x9_3 (wrap64 (x10_5 + 1))) = some (r1, r2) := by first | (rw [hy195]; with_reducible exact H) | (have H2_ := (Option.bind_some _ _).symm.trans H; rw [hy195]; with_reducible exact H2_) | (have H2_ := (Option.bind_some _ _).symm.trans H; with_reducible exact H2_) | with_reducible exact H | (rw [hy195]; exact H) | exact H
                                                    have Ny195 := Aside0.mk hy195
                                                    clear hy195
                                                    have H' := Aside0.mk H
                                                    clear H
                                                    have p193 : 0 ≤ (x5_3 : Int) := of_decide_eq_true (by first | (with_reducible assumption) | assumption)
                                                    have q193 : x5_3 < (l0.length : Int) := of_decide_eq_true (by first | (with_reducible assumption) | assumption)
                                                    obtain ⟨ad193, e193, hx193_0⟩ := Kd.at_int HR0.out x5_3 p193 q193
                                                    obtain rfl : ad183 = ad193 := (by injection e193)
                                                    replace hx193_0 := (HB.out.cell (World.block_lt_of_cell? w _ hx193_0)).trans hx193_0
                                                    replace p193 := eq_true p193
                                                    replace q193 := eq_true q193
                                                    have p194 : 0 ≤ ((ji34) : Int) := of_decide_eq_true (by first | (with_reducible assumption) | assumption)
                                                    have q194 : (ji34) < (l0.length : Int) := of_decide_eq_true (by first | (with_reducible assumption) | assumption)
                                                    obtain ⟨ad194, e194, hx194_0⟩ := Kd.at_int HR0.out (ji34) p194 q194
                                                    obtain rfl : ad183 = ad194 := (by injection e194)
                                                    replace hx194_0 := (HB.out.cell (World.block_lt_of_cell? w _ hx194_0)).trans hx194_0
                                                    replace p194 := eq_true p194
                                                    replace q194 := eq_true q194
                                                    go_wp2_with (first | ((with_reducible refine gate_builtin (b := .append) (xs := #[.tmp 107, .tmp 113]) rfl ?_); (try (refine gate_guard (by rfl) ?_; dsimp only)); at_builtin; refine Kd.R_append (Kd.int .u8) (w0 := w) w.heap.size rfl (.tmp 107) (.tmp 113) 45 5 (.int .u8 0) 1 rfl Try.underlying45 info5 rfl (by decide) (by omega) u8 x8_5 (rd l0 (ji34)) [.int .u8 (rd l0 (ji34))] (fun _ => True) (fun _ => False) rfl rfl ?aP (fun _ hk => hk.elim) ?aF ?aO ?aB ?aS ?aL ?_; (case aP => exact rfl); (case aB => exact (by repeat (first | (with_reducible first | exact HB.out | apply below_alloc | apply pw_below_drewN | apply below_drew1) | exact HB.out))); (case aF => exact (fun _ _ => trivial)); (case aO => exact (by (with_reducible repeat (first | apply Kd.R_alloc | apply Kd.R_drewN | apply Kd.R_drew)); exact HO_8.out)); (case aS => exact (below_size (by repeat (first | (with_reducible first | exact HB.out | apply below_alloc | apply pw_below_drewN | apply below_drew1) | exact HB.out)))); (case aL => have := LMc37.out; omega); intro v196 w38 ho hb hg hat; rw [← Ny195.out] at ho; have n0_ := Aside0.mk (Kd.S_after (ok := (fun _ => True)) (by (with_reducible repeat (first | apply Kd.S_alloc | apply Kd.S_drewN | apply Kd.S_drew)); exact Kd.S_mono HO_4.out (fun _ hk => ⟨trivial, hk⟩)) hg hat); have n1_ := Aside0.mk (hb); have n2_ := Aside0.mk (ho); clear HO_4; clear HB; clear HO_8; have HO_4 := n0_; have HB := n1_; have HO197 := n2_; clear n0_ n1_ n2_; clear ho hb hg hat))
                                                    repeat (go_quiet (first | ((with_reducible refine gate_builtin (b := .append) (xs := #[.tmp 107, .tmp 113]) rfl ?_); (try (refine gate_guard (by rfl) ?_; dsimp only)); at_builtin; refine Kd.R_append (Kd.int .u8) (w0 := w) w.heap.size rfl (.tmp 107) (.tmp 113) 45 5 (.int .u8 0) 1 rfl Try.underlying45 info5 rfl (by decide) (by omega) u8 x8_5 (rd l0 (ji34)) [.int .u8 (rd l0 (ji34))] (fun _ => True) (fun _ => False) rfl rfl ?aP (fun _ hk => hk.elim) ?aF ?aO ?aB ?aS ?aL ?_; (case aP => exact rfl); (case aB => exact (by repeat (first | (with_reducible first | exact HB.out | apply below_alloc | apply pw_below_drewN | apply below_drew1) | exact HB.out))); (case aF => exact (fun _ _ => trivial)); (case aO => exact (by (with_reducible repeat (first | apply Kd.R_alloc | apply Kd.R_drewN | apply Kd.R_drew)); exact HO_8.out)); (case aS => exact (below_size (by repeat (first | (with_reducible first | exact HB.out | apply below_alloc | apply pw_below_drewN | apply below_drew1) | exact HB.out)))); (case aL => have := LMc37.out; omega); intro v196 w38 ho hb hg hat; rw [← Ny195.out] at ho; have n0_ := Aside0.mk (Kd.S_after (ok := (fun _ => True)) (by (with_reducible repeat (first | apply Kd.S_alloc | apply Kd.S_drewN | apply Kd.S_drew)); exact Kd.S_mono HO_4.out (fun _ hk => ⟨trivial, hk⟩)) hg hat); have n1_ := Aside0.mk (hb); have n2_ := Aside0.mk (ho); clear HO_4; clear HB; clear HO_8; have HO_4 := n0_; have HB := n1_; have HO197 := n2_; clear n0_ n1_ n2_; clear ho hb hg hat)); try go_wp2_with (first | ((with_reducible refine gate_builtin (b := .append) (xs := #[.tmp 107, .tmp 113]) rfl ?_); (try (refine gate_guard (by rfl) ?_; dsimp only)); at_builtin; refine Kd.R_append (Kd.int .u8) (w0 := w) w.heap.size rfl (.tmp 107) (.tmp 113) 45 5 (.int .u8 0) 1 rfl Try.underlying45 info5 rfl (by decide) (by omega) u8 x8_5 (rd l0 (ji34)) [.int .u8 (rd l0 (ji34))] (fun _ => True) (fun _ => False) rfl rfl ?aP (fun _ hk => hk.elim) ?aF ?aO ?aB ?aS ?aL ?_; (case aP => exact rfl); (case aB => exact (by repeat (first | (with_reducible first | exact HB.out | apply below_alloc | apply pw_below_drewN | apply below_drew1) | exact HB.out))); (case aF => exact (fun _ _ => trivial)); (case aO => exact (by (with_reducible repeat (first | apply Kd.R_alloc | apply Kd.R_drewN | apply Kd.R_drew)); exact HO_8.out)); (case aS => exact (below_size (by repeat (first | (with_reducible first | exact HB.out | apply below_alloc | apply pw_below_drewN | apply below_drew1) | exact HB.out)))); (case aL => have := LMc37.out; omega); intro v196 w38 ho hb hg hat; rw [← Ny195.out] at ho; have n0_ := Aside0.mk (Kd.S_after (ok := (fun _ => True)) (by (with_reducible repeat (first | apply Kd.S_alloc | apply Kd.S_drewN | apply Kd.S_drew)); exact Kd.S_mono HO_4.out (fun _ hk => ⟨trivial, hk⟩)) hg hat); have n1_ := Aside0.mk (hb); have n2_ := Aside0.mk (ho); clear HO_4; clear HB; clear HO_8; have HO_4 := n0_; have HB := n1_; have HO197 := n2_; clear n0_ n1_ n2_; clear ho hb hg hat)))
                                                    go_roundg k5
                                                    case measure => have := HJ1.out; have := HK2.out; have := HK3.out; have := HJ13.out; have := HK5.out; omega
                                                    case rel => exact ⟨(y195), (wrap64 (x10_5 + 1)), (by first | rfl | (simp; done) | (simp [*]; done)), H', ⟨by have := HJ1.out; have := HK2.out; have := HK3.out; have := HJ13.out; have := HK5.out; omega⟩, ⟨by (with_reducible repeat (first | apply Kd.S_alloc | apply Kd.S_drewN | apply Kd.S_drew)); exact Kd.S_mono HO_4.out (fun _ hk => hk.2)⟩, ⟨by (with_reducible repeat (first | apply Kd.R_alloc | apply Kd.R_drewN | apply Kd.R_drew)); exact HO197.out⟩, ⟨by repeat (first | (with_reducible first | exact HB.out | apply below_alloc | apply pw_below_drewN | apply below_drew1) | exact HB.out)⟩⟩
                                                  · rw [if_neg c37] at H
                                                    exact absurd H (by simp)
                                                · rw [if_neg c36] at H
                                                  exact absurd H (by simp)
                                              · rw [if_neg c35] at H
                                                exact absurd H (by simp)
                                            · rw [if_neg c33] at H
                                              have c33b0 : decide (x10_5 < (wrap64 (rd l0 x5_3))) = false := decide_eq_false c33
                                              clear c33
                                              have H' := Aside0.mk H
                                              clear H
                                              have p193 : 0 ≤ (x5_3 : Int) := of_decide_eq_true (by first | (with_reducible assumption) | assumption)
                                              have q193 : x5_3 < (l0.length : Int) := of_decide_eq_true (by first | (with_reducible assumption) | assumption)
                                              obtain ⟨ad193, e193, hx193_0⟩ := Kd.at_int HR0.out x5_3 p193 q193
                                              obtain rfl : ad183 = ad193 := (by injection e193)
                                              replace hx193_0 := (HB.out.cell (World.block_lt_of_cell? w _ hx193_0)).trans hx193_0
                                              replace p193 := eq_true p193
                                              replace q193 := eq_true q193
                                              go_wp2
                                              repeat (go_quiet (fail); try go_wp2)
                                              go_roundg k5
                                              case measure => have := HJ1.out; have := HK2.out; have := HK3.out; have := HJ13.out; have := HK5.out; omega
                                              case rel => exact ⟨(wrap64 (x5_3 + 2)), (x8_5), (wrap64 (x9_3 + 1)), (by first | rfl | (simp; done) | (simp [*]; done)), (by first | rfl | (simp; done) | (simp [*]; done)), H', ⟨by have := HJ1.out; have := HK2.out; have := HK3.out; have := HJ13.out; have := HK5.out; omega⟩, ⟨by (with_reducible repeat (first | apply Kd.S_alloc | apply Kd.S_drewN | apply Kd.S_drew)); exact HO_4.out⟩, ⟨by (with_reducible repeat (first | apply Kd.R_alloc | apply Kd.R_drewN | apply Kd.R_drew)); exact HO_8.out⟩, ⟨by repeat (first | (with_reducible first | exact HB.out | apply below_alloc | apply pw_below_drewN | apply below_drew1) | exact HB.out)⟩⟩
                                          · rw [if_neg c32] at H
                                            exact absurd H (by simp)
                                        · rw [if_neg c31] at H
                                          exact absurd H (by simp)
                            · rw [if_neg c13] at H
                              have c13b0 : decide (x9_3 < (wrap64 (rd l0 x5_2))) = false := decide_eq_false c13
                              clear c13
                              by_cases c39 : (x8_3.length : Int) = 160
                              · rw [if_pos c39] at H
                                have c39b0 : ((x8_3.length : Int) == 160) = true := beq_iff_eq.mpr c39
                                have c39b1 : ((x8_3.length : Int) != 160) = false := bne_eq_false_iff_eq.mpr c39
                                clear c39
                                by_cases c40 : x4_2.length < 5864062014805
                                · rw [if_pos c40] at H
                                  have LMc40 := Aside0.mk c40
                                  clear c40
                                  obtain ⟨y186, hy186⟩ : ∃ y_ : List (List Int), y_ = (x4_2 ++ [x8_3]) := ⟨_, rfl⟩
                                  replace H : (woodgrainref24_Unpack.l0 k3 l0 y186 x5_3 (wrap64 (x6_2 + 1))) = some (r1, r2) := by first | (rw [hy186]; with_reducible exact H) | (have H2_ := (Option.bind_some _ _).symm.trans H; rw [hy186]; with_reducible exact H2_) | (have H2_ := (Option.bind_some _ _).symm.trans H; with_reducible exact H2_) | with_reducible exact H | (rw [hy186]; exact H) | exact H
                                  have Ny186 := Aside0.mk hy186
                                  clear hy186
                                  have H' := Aside0.mk H
                                  clear H
                                  obtain ⟨Ao41, co41, eo41⟩ := Kd.R_slice HO_8.out
                                  subst eo41
                                  go_wp2_with (first | ((with_reducible refine gate_builtin (b := .append) (xs := #[.tmp 120, .tmp 122]) rfl ?_); (try (refine gate_guard (by rfl) ?_; dsimp only)); at_builtin; refine Kd.S_append (Kd.slice 5 (Kd.int .u8)) (w0 := w) w.heap.size rfl (.tmp 120) (.tmp 122) 27 45 (.slice none 0 0) 24 rfl Try.underlying27 info45 rfl (by decide) (by omega) u4 x4_2 x8_3 [.slice Ao41 x8_3.length co41] (fun _ => True) (fun k_ => some k_ = (.slice Ao41 x8_3.length co41 : Value).ownBlock) rfl rfl ?aP (fun k_ hk_ => ((Kd.R_mono (ok' := fun k_ => ((fun _ => True)) k_ ∧ some k_ ≠ (u4 : Value).ownBlock) (Kd.R_apart' (HO_8.out) (Kd.S_typed HO_4.out) (by decide)) (fun k_ hk => ⟨trivial, hk.2⟩))).1 k_ hk_.symm) ?aF ?aO ?aB ?aS ?aL ?_; (case aP => exact Kd.M_row (Kd.R_mono (Kd.R_tight rfl (Kd.R_mono (ok' := fun k_ => ((fun _ => True)) k_ ∧ some k_ ≠ (u4 : Value).ownBlock) (Kd.R_apart' (HO_8.out) (Kd.S_typed HO_4.out) (by decide)) (fun k_ hk => ⟨trivial, hk.2⟩))) (fun _ h_ => h_))); (case aB => exact (by repeat (first | (with_reducible first | exact HB.out | apply below_alloc | apply pw_below_drewN | apply below_drew1) | exact HB.out))); (case aF => exact (fun _ _ => trivial)); (case aO => exact (by (with_reducible repeat (first | apply Kd.S_alloc | apply Kd.S_drewN | apply Kd.S_drew)); exact Kd.S_mono HO_4.out (fun k_ hk => ⟨trivial, fun e_ => hk e_⟩))); (case aS => exact (below_size (by repeat (first | (with_reducible first | exact HB.out | apply below_alloc | apply pw_below_drewN | apply below_drew1) | exact HB.out)))); (case aL => have := LMc40.out; omega); intro v187 w42 ho hb hg hat; rw [← Ny186.out] at ho; have n0_ := Aside0.mk (hb); have n1_ := Aside0.mk (ho); clear HB; clear HO_4; clear HO_8; have HB := n0_; have HO188 := n1_; clear n0_ n1_; clear ho hb hg hat))
                                  repeat (go_quiet (first | ((with_reducible refine gate_builtin (b := .append) (xs := #[.tmp 120, .tmp 122]) rfl ?_); (try (refine gate_guard (by rfl) ?_; dsimp only)); at_builtin; refine Kd.S_append (Kd.slice 5 (Kd.int .u8)) (w0 := w) w.heap.size rfl (.tmp 120) (.tmp 122) 27 45 (.slice none 0 0) 24 rfl Try.underlying27 info45 rfl (by decide) (by omega) u4 x4_2 x8_3 [.slice Ao41 x8_3.length co41] (fun _ => True) (fun k_ => some k_ = (.slice Ao41 x8_3.length co41 : Value).ownBlock) rfl rfl ?aP (fun k_ hk_ => ((Kd.R_mono (ok' := fun k_ => ((fun _ => True)) k_ ∧ some k_ ≠ (u4 : Value).ownBlock) (Kd.R_apart' (HO_8.out) (Kd.S_typed HO_4.out) (by decide)) (fun k_ hk => ⟨trivial, hk.2⟩))).1 k_ hk_.symm) ?aF ?aO ?aB ?aS ?aL ?_; (case aP => exact Kd.M_row (Kd.R_mono (Kd.R_tight rfl (Kd.R_mono (ok' := fun k_ => ((fun _ => True)) k_ ∧ some k_ ≠ (u4 : Value).ownBlock) (Kd.R_apart' (HO_8.out) (Kd.S_typed HO_4.out) (by decide)) (fun k_ hk => ⟨trivial, hk.2⟩))) (fun _ h_ => h_))); (case aB => exact (by repeat (first | (with_reducible first | exact HB.out | apply below_alloc | apply pw_below_drewN | apply below_drew1) | exact HB.out))); (case aF => exact (fun _ _ => trivial)); (case aO => exact (by (with_reducible repeat (first | apply Kd.S_alloc | apply Kd.S_drewN | apply Kd.S_drew)); exact Kd.S_mono HO_4.out (fun k_ hk => ⟨trivial, fun e_ => hk e_⟩))); (case aS => exact (below_size (by repeat (first | (with_reducible first | exact HB.out | apply below_alloc | apply pw_below_drewN | apply below_drew1) | exact HB.out)))); (case aL => have := LMc40.out; omega); intro v187 w42 ho hb hg hat; rw [← Ny186.out] at ho; have n0_ := Aside0.mk (hb); have n1_ := Aside0.mk (ho); clear HB; clear HO_4; clear HO_8; have HB := n0_; have HO188 := n1_; clear n0_ n1_; clear ho hb hg hat)); try go_wp2_with (first | ((with_reducible refine gate_builtin (b := .append) (xs := #[.tmp 120, .tmp 122]) rfl ?_); (try (refine gate_guard (by rfl) ?_; dsimp only)); at_builtin; refine Kd.S_append (Kd.slice 5 (Kd.int .u8)) (w0 := w) w.heap.size rfl (.tmp 120) (.tmp 122) 27 45 (.slice none 0 0) 24 rfl Try.underlying27 info45 rfl (by decide) (by omega) u4 x4_2 x8_3 [.slice Ao41 x8_3.length co41] (fun _ => True) (fun k_ => some k_ = (.slice Ao41 x8_3.length co41 : Value).ownBlock) rfl rfl ?aP (fun k_ hk_ => ((Kd.R_mono (ok' := fun k_ => ((fun _ => True)) k_ ∧ some k_ ≠ (u4 : Value).ownBlock) (Kd.R_apart' (HO_8.out) (Kd.S_typed HO_4.out) (by decide)) (fun k_ hk => ⟨trivial, hk.2⟩))).1 k_ hk_.symm) ?aF ?aO ?aB ?aS ?aL ?_; (case aP => exact Kd.M_row (Kd.R_mono (Kd.R_tight rfl (Kd.R_mono (ok' := fun k_ => ((fun _ => True)) k_ ∧ some k_ ≠ (u4 : Value).ownBlock) (Kd.R_apart' (HO_8.out) (Kd.S_typed HO_4.out) (by decide)) (fun k_ hk => ⟨trivial, hk.2⟩))) (fun _ h_ => h_))); (case aB => exact (by repeat (first | (with_reducible first | exact HB.out | apply below_alloc | apply pw_below_drewN | apply below_drew1) | exact HB.out))); (case aF => exact (fun _ _ => trivial)); (case aO => exact (by (with_reducible repeat (first | apply Kd.S_alloc | apply Kd.S_drewN | apply Kd.S_drew)); exact Kd.S_mono HO_4.out (fun k_ hk => ⟨trivial, fun e_ => hk e_⟩))); (case aS => exact (below_size (by repeat (first | (with_reducible first | exact HB.out | apply below_alloc | apply pw_below_drewN | apply below_drew1) | exact HB.out)))); (case aL => have := LMc40.out; omega); intro v187 w42 ho hb hg hat; rw [← Ny186.out] at ho; have n0_ := Aside0.mk (hb); have n1_ := Aside0.mk (ho); clear HB; clear HO_4; clear HO_8; have HB := n0_; have HO188 := n1_; clear n0_ n1_; clear ho hb hg hat)))
                                  go_roundg k3
                                  case measure => have := HJ1.out; have := HK2.out; have := HK3.out; omega
                                  case rel => exact ⟨(y186), (x5_3), (wrap64 (x6_2 + 1)), (by first | rfl | (simp; done) | (simp [*]; done)), (by first | rfl | (simp; done) | (simp [*]; done)), H', ⟨by have := HJ1.out; have := HK2.out; have := HK3.out; omega⟩, ⟨by (with_reducible repeat (first | apply Kd.S_alloc | apply Kd.S_drewN | apply Kd.S_drew)); exact HO188.out⟩, ⟨by repeat (first | (with_reducible first | exact HB.out | apply below_alloc | apply pw_below_drewN | apply below_drew1) | exact HB.out)⟩⟩
                                · rw [if_neg c40] at H
                                  exact absurd H (by simp)
                              · rw [if_neg c39] at H
                                have c39b0 : ((x8_3.length : Int) == 160) = false := beq_eq_false_iff_ne.mpr c39
                                have c39b1 : ((x8_3.length : Int) != 160) = true := bne_iff_ne.mpr c39
                                simp only [Option.some.injEq, Prod.mk.injEq] at H
                                obtain ⟨rfl, rfl⟩ := H
                                obtain ⟨Ao43, co43, eo43⟩ := Kd.R_slice HO_8.out
                                subst eo43
                                go_wp2
                                repeat (go_quiet (fail); try go_wp2)
                                go_ret2
                                exact ⟨_, by first | rfl | (simp [errW_none, errW_some] <;> rfl) | (simp [*, errW_none, errW_some] <;> rfl), by first | exact Kd.S_nil _ _ _ _ _ | exact Kd.N_nil _ _ _ _ _ | exact Kd.V_nil _ _ _ _ _ | exact Kd.Q_nil _ _ _ _ _ | exact Kd.R_nil _ _ _ _ _, by repeat (first | (with_reducible first | exact HB.out | apply below_alloc | apply pw_below_drewN | apply below_drew1) | exact HB.out)⟩
                      · rw [if_neg c12] at H
                        exact absurd H (by simp)
                    · rw [if_neg c11] at H
                      exact absurd H (by simp)
                · rw [if_neg c9] at H
                  have c9b0 : decide (x6_2 < (wrap64 ((wrap64 (rd l0 0)) + (wrap64 (256 * (wrap64 (rd l0 1))))))) = false := decide_eq_false c9
                  clear c9
                  by_cases c44 : x5_2 = (l0.length : Int)
                  · rw [if_pos c44] at H
                    have c44b0 : (x5_2 == (l0.length : Int)) = true := beq_iff_eq.mpr c44
                    have c44b1 : (x5_2 != (l0.length : Int)) = false := bne_eq_false_iff_eq.mpr c44
                    clear c44
                    simp only [Option.some.injEq, Prod.mk.injEq] at H
                    obtain ⟨rfl, rfl⟩ := H
                    have p183 : 0 ≤ (0 : Int) := (by omega)
                    have q183 : 0 < (l0.length : Int) := of_decide_eq_true (by first | (with_reducible assumption) | assumption)
                    obtain ⟨ad183, e183, hx183_0⟩ := Kd.at_int HR0.out 0 p183 q183
                    cases e183
                    have qi183 : (0 < l0.length) = True := eq_true (by omega)
                    (try rw [show ((0 : Int)).toNat = 0 from rfl] at hx183_0)
                    (try rw [Addr.add_zero'] at hx183_0)
                    replace hx183_0 := (HB.out.cell (World.block_lt_of_cell? w _ hx183_0)).trans hx183_0
                    replace p183 := eq_true p183
                    replace q183 := eq_true q183
                    have p184 : 0 ≤ (1 : Int) := (by omega)
                    have q184 : 1 < (l0.length : Int) := of_decide_eq_true (by first | (with_reducible assumption) | assumption)
                    obtain ⟨ad184, e184, hx184_0⟩ := Kd.at_int HR0.out 1 p184 q184
                    obtain rfl : ad183 = ad184 := (by injection e184)
                    (try simp only [show (1 : Int).toNat = 1 from rfl, Nat.reduceMul, Nat.reduceEqDiff, Go.Addr.add, ↓reduceIte] at hx184_0)
                    have qi184 : (1 < l0.length) = True := eq_true (by omega)
                    (try rw [show ((1 : Int)).toNat = 1 from rfl] at hx184_0)
                    replace hx184_0 := (HB.out.cell (World.block_lt_of_cell? w _ hx184_0)).trans hx184_0
                    replace p184 := eq_true p184
                    replace q184 := eq_true q184
                    go_wp2
                    repeat (go_quiet (fail); try go_wp2)
                    go_ret2
                    exact ⟨_, by first | rfl | (simp [errW_none, errW_some] <;> rfl) | (simp [*, errW_none, errW_some] <;> rfl), by (with_reducible repeat (first | apply Kd.S_alloc | apply Kd.S_drewN | apply Kd.S_drew)); exact HO_4.out, by repeat (first | (with_reducible first | exact HB.out | apply below_alloc | apply pw_below_drewN | apply below_drew1) | exact HB.out)⟩
                  · rw [if_neg c44] at H
                    have c44b0 : (x5_2 == (l0.length : Int)) = false := beq_eq_false_iff_ne.mpr c44
                    have c44b1 : (x5_2 != (l0.length : Int)) = true := bne_iff_ne.mpr c44
                    simp only [Option.some.injEq, Prod.mk.injEq] at H
                    obtain ⟨rfl, rfl⟩ := H
                    have p183 : 0 ≤ (0 : Int) := (by omega)
                    have q183 : 0 < (l0.length : Int) := of_decide_eq_true (by first | (with_reducible assumption) | assumption)
                    obtain ⟨ad183, e183, hx183_0⟩ := Kd.at_int HR0.out 0 p183 q183
                    cases e183
                    have qi183 : (0 < l0.length) = True := eq_true (by omega)
                    (try rw [show ((0 : Int)).toNat = 0 from rfl] at hx183_0)
                    (try rw [Addr.add_zero'] at hx183_0)
                    replace hx183_0 := (HB.out.cell (World.block_lt_of_cell? w _ hx183_0)).trans hx183_0
                    replace p183 := eq_true p183
                    replace q183 := eq_true q183
                    have p184 : 0 ≤ (1 : Int) := (by omega)
                    have q184 : 1 < (l0.length : Int) := of_decide_eq_true (by first | (with_reducible assumption) | assumption)
                    obtain ⟨ad184, e184, hx184_0⟩ := Kd.at_int HR0.out 1 p184 q184
                    obtain rfl : ad183 = ad184 := (by injection e184)
                    (try simp only [show (1 : Int).toNat = 1 from rfl, Nat.reduceMul, Nat.reduceEqDiff, Go.Addr.add, ↓reduceIte] at hx184_0)
                    have qi184 : (1 < l0.length) = True := eq_true (by omega)
                    (try rw [show ((1 : Int)).toNat = 1 from rfl] at hx184_0)
                    replace hx184_0 := (HB.out.cell (World.block_lt_of_cell? w _ hx184_0)).trans hx184_0
                    replace p184 := eq_true p184
                    replace q184 := eq_true q184
                    go_wp2
                    repeat (go_quiet (fail); try go_wp2)
                    go_ret2
                    exact ⟨_, by first | rfl | (simp [errW_none, errW_some] <;> rfl) | (simp [*, errW_none, errW_some] <;> rfl), by first | exact Kd.S_nil _ _ _ _ _ | exact Kd.N_nil _ _ _ _ _ | exact Kd.V_nil _ _ _ _ _ | exact Kd.Q_nil _ _ _ _ _ | exact Kd.R_nil _ _ _ _ _, by repeat (first | (with_reducible first | exact HB.out | apply below_alloc | apply pw_below_drewN | apply below_drew1) | exact HB.out)⟩
              · rw [if_neg c8] at H
                exact absurd H (by simp)
            · rw [if_neg c7] at H
              exact absurd H (by simp)

end Go.Proofs.Ytgepcdohgiiaaaa.PRd
