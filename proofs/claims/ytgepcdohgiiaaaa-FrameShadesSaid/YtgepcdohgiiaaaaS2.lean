/- Shade of the document, FrameShades. -/
import Derived.Test.YtgepcdohgiiaaaaS1
namespace Go.Proofs.Ytgepcdohgiiaaaa
open Go.RowKit Go.Shelf
set_option linter.unusedSimpArgs false
set_option linter.unusedVariables false

def boundM (n : Int) : Int := if n < 0 then 0 else if 255 < n then 255 else n
set_option maxHeartbeats 4000000 in
set_option maxRecDepth 100000 in
theorem bound_in (n : Int) (h0 : -10000 < n) (h1 : n < 10000) (w : World) :
    Calls Try.prog 38 #[.int .i64 n] w fun e w' => e = .returned (.int .u8 (boundM n)) ∧ w' = w := by
  go_enter Try.func38, Try.ntmps38
  go_wp2
  all_goals go_ret
  all_goals refine ⟨?_, rfl⟩
  all_goals (refine congrArg (fun x => Ending.returned (.int .u8 x)) ?_)
  all_goals unfold boundM
  all_goals (repeat' split) <;> omega

set_option maxHeartbeats 4000000 in
set_option maxRecDepth 100000 in
theorem refshade_in (c : Int) (h0 : 0 ≤ c) (h1 : c < 256) (w : World) :
    Calls Try.prog 21 #[.int .i64 c] w fun e w' => e = .returned (if c / 16 = 0 then .agg #[.int .u8 (boundM (36 * (c / 2 % 8))), .int .u8 (boundM (36 * (c / 2 % 8))), .int .u8 (boundM (36 * (c / 2 % 8)))] else .agg #[.int .u8 (boundM (36 * (c / 2 % 8) + 4 * ((c / 16 + 1) % 15 - 7))), .int .u8 (boundM (36 * (c / 2 % 8) + 4 * ((2 * (c / 16) + 3) % 15 - 7))), .int .u8 (boundM (36 * (c / 2 % 8) + 4 * ((4 * (c / 16) + 9) % 15 - 7)))]) ∧ Below w.heap.size w w' := by
  go_enter Try.func21, Try.ntmps21
  go_wp2_with fail
  · have hz : c / 16 = 0 := by simp_all
    refine (bound_in _ (by omega) (by omega) _).mono ?_
    rintro e w1 ⟨rfl, rfl⟩
    go_wp2_with fail
    refine (bound_in _ (by omega) (by omega) _).mono ?_
    rintro e w1 ⟨rfl, rfl⟩
    go_wp2_with fail
    refine (bound_in _ (by omega) (by omega) _).mono ?_
    rintro e w1 ⟨rfl, rfl⟩
    go_wp2_with fail
    refine bodyPost_ret (v := .agg #[.int .u8 _, .int .u8 _, .int .u8 _]) (by simp [results, Try.results21, go_sem]; exact ⟨rfl, rfl, rfl⟩) rfl ⟨by first | rfl | rw [if_pos hz], (Below.refl _ _).alloc (Nat.le_refl _) _⟩
  · have hz : c / 16 ≠ 0 := by simp_all
    refine (bound_in _ (by omega) (by omega) _).mono ?_
    rintro e w1 ⟨rfl, rfl⟩
    go_wp2_with fail
    refine (bound_in _ (by omega) (by omega) _).mono ?_
    rintro e w1 ⟨rfl, rfl⟩
    go_wp2_with fail
    refine (bound_in _ (by omega) (by omega) _).mono ?_
    rintro e w1 ⟨rfl, rfl⟩
    go_wp2_with fail
    refine bodyPost_ret (v := .agg #[.int .u8 _, .int .u8 _, .int .u8 _]) (by simp [results, Try.results21, go_sem]; exact ⟨rfl, rfl, rfl⟩) rfl ⟨by first | rfl | rw [if_neg hz], (Below.refl _ _).alloc (Nat.le_refl _) _⟩

/-- The three of a colour. -/
def shadeM (c : Int) : Int × Int × Int :=
  if c / 16 = 0 then (36 * (c / 2 % 8), 36 * (c / 2 % 8), 36 * (c / 2 % 8))
  else (chanM (36 * (c / 2 % 8)) (c / 16 + 1), chanM (36 * (c / 2 % 8)) (2 * (c / 16) + 3), chanM (36 * (c / 2 % 8)) (4 * (c / 16) + 9))
def three (p : Int × Int × Int) : Value := .agg #[.int .u8 p.1, .int .u8 p.2.1, .int .u8 p.2.2]
theorem shade_in (c : Int) (h0 : 0 ≤ c) (h1 : c < 256) (w : World) :
    Calls Try.prog 20 #[.int .u8 c] w fun e w' => e = .returned (three (shadeM c)) ∧ Below w.heap.size w w' := by
  by_cases h : c < 16
  · have e : shadeM c = (36 * (c / 2 % 8), 36 * (c / 2 % 8), 36 * (c / 2 % 8)) := by unfold shadeM; rw [if_pos (by omega)]
    rw [e]; exact shade_zero c h0 h w
  · have e : shadeM c = (chanM (36 * (c / 2 % 8)) (c / 16 + 1), chanM (36 * (c / 2 % 8)) (2 * (c / 16) + 3), chanM (36 * (c / 2 % 8)) (4 * (c / 16) + 9)) := by unfold shadeM; rw [if_neg (by omega)]
    rw [e]; exact shade_some c (by omega) h1 w
theorem boundM_grey (c : Int) (h0 : 0 ≤ c) (h1 : c < 256) : boundM (36 * (c / 2 % 8)) = 36 * (c / 2 % 8) := by
  unfold boundM; rw [if_neg (by omega), if_neg (by omega)]
theorem chan_bound (g t : Int) : boundM (g + 4 * (t % 15 - 7)) = chanM g t := rfl
theorem refshade (c : Int) (h0 : 0 ≤ c) (h1 : c < 256) (w : World) :
    Calls Try.prog 21 #[.int .i64 c] w fun e w' => e = .returned (three (shadeM c)) ∧ Below w.heap.size w w' := by
  refine (refshade_in c h0 h1 w).mono ?_
  rintro e w' ⟨rfl, hb⟩
  refine ⟨?_, hb⟩
  unfold shadeM
  by_cases h : c / 16 = 0
  · rw [if_pos h, if_pos h, boundM_grey c h0 h1]; rfl
  · rw [if_neg h, if_neg h]; rfl

theorem three_guard (a b : Operand) (p q : Int × Int × Int) (w : World) : (eqGuard .eql 48 a b (three p) (three q)).run Try.prog w = .ok () w := by
  kernel_rfl
theorem three_eq0 (x y z : Int) (w : World) : (Op.equalIn 10000 48 (.agg #[.int .u8 x, .int .u8 y, .int .u8 z]) (.agg #[.int .u8 x, .int .u8 y, .int .u8 z])).run Try.prog w = .ok true w := by
  have hu48 := Try.underlying48
  have hu5 := Try.underlying5
  have hs : ∀ w, (sizeOf 5).run Try.prog w = .ok 1 w := fun _ => by kernel_rfl
  have h0 : ∀ w, (part 5 #[.int .u8 x, .int .u8 y, .int .u8 z] (0 * 1)).run Try.prog w = .ok (.int .u8 x) w := fun _ => by kernel_rfl
  have h1 : ∀ w, (part 5 #[.int .u8 x, .int .u8 y, .int .u8 z] (1 * 1)).run Try.prog w = .ok (.int .u8 y) w := fun _ => by kernel_rfl
  have h2 : ∀ w, (part 5 #[.int .u8 x, .int .u8 y, .int .u8 z] (2 * 1)).run Try.prog w = .ok (.int .u8 z) w := fun _ => by kernel_rfl
  have hq : ∀ (a : Int) (w : World), (Op.equalIn 9999 5 (.int .u8 a) (.int .u8 a)).run Try.prog w = .ok true w := fun a w => by rw [run_equalIn_int w 9998 5 .u8 .u8 a a hu5]; simp
  change (Op.equalIn (9999 + 1) 48 _ _).run Try.prog w = _
  rw [Op.equalIn]
  simp [run_underlying hu48, hs, Std.Legacy.Range.forIn_eq_forIn_range', List.range', h0, h1, h2, hq]
theorem three_eql (p : Int × Int × Int) (w : World) : (binOp .eql 48 (three p) (three p)).run Try.prog w = .ok (.bool true) w := by
  unfold three
  rw [run_eql_struct, three_eq0]
  rfl
set_option maxHeartbeats 4000000 in
set_option maxRecDepth 100000 in
theorem frameShades_walk (a0 : Int) (w : World) (w0 : (Lit.int .u8 a0).wf = true) :
    Calls Try.prog 6 #[.int .u8 a0] w fun e w' => e = .returned (.bool true) ∧ Below w.heap.size w w' := by
  have hu48 := Try.underlying48
  have hb : 0 ≤ a0 ∧ a0 < 256 := by
    have := w0
    simp only [Lit.wf, Bool.and_eq_true, decide_eq_true_eq] at this
    have h1 : IntKind.u8.min = 0 := rfl
    have h2 : IntKind.u8.max = 255 := rfl
    omega
  have hg := three_guard (.tmp 4) (.tmp 7) (shadeM a0) (shadeM a0)
  have he := three_eql (shadeM a0)
  go_enter Try.func6, Try.ntmps6
  go_wp2_with fail
  refine (shade_in a0 hb.1 hb.2 _).mono ?_
  rintro e w1 ⟨rfl, hb1⟩
  go_wp2_with fail
  refine (refshade a0 hb.1 hb.2 _).mono ?_
  rintro e w2 ⟨rfl, hb2⟩
  go_wp2_with fail
  go_wp2_with fail
  refine (awake_in _).mono ?_
  rintro e w3 ⟨rfl, hb3⟩
  go_wp2_with fail
  go_ret
  exact ⟨rfl, (hb1.trans (hb2.mono hb1.size)).trans (hb3.mono (by have := hb1.size; have := hb2.size; omega))⟩
end Go.Proofs.Ytgepcdohgiiaaaa
