/- Shade. -/
import Derived.Test.YtgepcdohgiiaaaaA9
namespace Go.Proofs.Ytgepcdohgiiaaaa
open Go.RowKit Go.Shelf
set_option linter.unusedSimpArgs false
set_option linter.unusedVariables false

set_option maxHeartbeats 4000000 in
set_option maxRecDepth 100000 in
theorem shade_zero (c : Int) (h0 : 0 ≤ c) (h1 : c < 16) (w : World) :
    Calls Try.prog 20 #[.int .u8 c] w fun e w' => e = .returned (.agg #[.int .u8 (36 * (c / 2 % 8)), .int .u8 (36 * (c / 2 % 8)), .int .u8 (36 * (c / 2 % 8))]) ∧ Below w.heap.size w w' := by
  have hu48 := Try.underlying48
  have hz : c / 16 = 0 := by omega
  go_enter Try.func20, Try.ntmps20
  go_wp2
  have e : (36 * (c / 2 % 8)) % 256 = 36 * (c / 2 % 8) := by omega
  refine bodyPost_ret (v := .agg #[.int .u8 (36 * (c / 2 % 8)), .int .u8 (36 * (c / 2 % 8)), .int .u8 (36 * (c / 2 % 8))]) (by simp [results, Try.results20, go_sem]) rfl ⟨rfl, ?_⟩
  exact ((Below.refl _ _).alloc (Nat.le_refl _) _).alloc (by simp) _
def chanM (g t : Int) : Int := if g + 4 * (t % 15 - 7) < 0 then 0 else if 255 < g + 4 * (t % 15 - 7) then 255 else g + 4 * (t % 15 - 7)
theorem threeEq {x y z x' y' z' : Int} (hx : x = x') (hy : y = y') (hz : z = z') :
    Ending.returned (.agg #[.int .u8 x, .int .u8 y, .int .u8 z]) = Ending.returned (.agg #[.int .u8 x', .int .u8 y', .int .u8 z']) := by rw [hx, hy, hz]
set_option maxHeartbeats 8000000 in
set_option maxRecDepth 100000 in
theorem shade_some (c : Int) (h0 : 16 ≤ c) (h1 : c < 256) (w : World) :
    Calls Try.prog 20 #[.int .u8 c] w fun e w' => e = .returned (.agg #[.int .u8 (chanM (36 * (c / 2 % 8)) (c / 16 + 1)), .int .u8 (chanM (36 * (c / 2 % 8)) (2 * (c / 16) + 3)), .int .u8 (chanM (36 * (c / 2 % 8)) (4 * (c / 16) + 9))]) ∧ Below w.heap.size w w' := by
  have hu48 := Try.underlying48
  have hz : ((c / 16 : Int) == 0) = false := by rw [beq_eq_false_iff_ne]; omega
  have hi : ∀ (x y z : Int) (w : World), (Instr.index 83 (.agg #[.int .i64 x, .int .i64 y, .int .i64 z]) (.int .i64 0)).run Try.prog w = .ok (.int .i64 x) w := fun _ _ _ _ => by kernel_rfl
  have hj : ∀ (x y z : Int) (w : World), (Instr.index 83 (.agg #[.int .i64 x, .int .i64 y, .int .i64 z]) (.int .i64 1)).run Try.prog w = .ok (.int .i64 y) w := fun _ _ _ _ => by kernel_rfl
  have hk : ∀ (x y z : Int) (w : World), (Instr.index 83 (.agg #[.int .i64 x, .int .i64 y, .int .i64 z]) (.int .i64 2)).run Try.prog w = .ok (.int .i64 z) w := fun _ _ _ _ => by kernel_rfl
  go_enter Try.func20, Try.ntmps20
  go_wp2_with fail
  refine wp_loop_rounds 4 ?_
  rw [rounds_succ]
  go_wp2_with fail
  all_goals rw [rounds_succ]
  all_goals go_wp2_with fail
  all_goals rw [rounds_succ]
  all_goals go_wp2_with fail
  all_goals rw [rounds_succ]
  all_goals go_wp2_with fail
  all_goals refine bodyPost_ret (v := .agg #[.int .u8 _, .int .u8 _, .int .u8 _]) (by simp [results, Try.results20, go_sem]; exact ⟨rfl, rfl, rfl⟩) rfl ⟨threeEq ?_ ?_ ?_, ((Below.refl _ _).alloc (Nat.le_refl _) _).alloc (by simp) _⟩
  all_goals unfold chanM
  all_goals (repeat' split) <;> omega
end Go.Proofs.Ytgepcdohgiiaaaa
