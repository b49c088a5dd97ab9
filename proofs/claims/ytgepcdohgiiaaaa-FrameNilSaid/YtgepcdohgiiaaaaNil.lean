/- The walk of FrameNil. -/
import Derived.Test.YtgepcdohgiiaaaaA9
namespace Go.Proofs.Ytgepcdohgiiaaaa
open Go.RowKit Go.Shelf
set_option linter.unusedSimpArgs false
set_option linter.unusedVariables false

set_option maxHeartbeats 4000000 in
set_option maxRecDepth 100000 in
theorem frameNil_walk (a0 : Int) (w : World) (w0 : (Lit.int .u8 a0).wf = true) :
    Calls Try.prog 5 #[.int .u8 a0] w fun e w' => e = .returned (.bool true) ∧ Below w.heap.size w w' := by
  have hu40 := Try.underlying40
  have hu33 := Try.underlying33
  have hfld : ∀ (A : Option Addr) (n c : Nat) (w : World), (Instr.field 33 (.agg #[.slice A n c]) 0).run Try.prog w = .ok (.slice A n c) w := fun _ _ _ _ => by kernel_rfl
  go_enter Try.func5, Try.ntmps5
  go_wp2_with fail
  refine (feed_nil w ⟨a0, 0, false, true, 0, 0, false, 0⟩).mono ?_
  rintro e w1 ⟨rfl, hb1⟩
  go_wp2_with fail
  refine (rows_nil _).mono ?_
  rintro e w2 ⟨rfl, hb2⟩
  go_wp2_with fail
  refine (awake_in _).mono ?_
  rintro e w3 ⟨rfl, hb3⟩
  go_wp2_with fail
  go_ret
  exact ⟨rfl, (hb1.trans (((Below.refl _ _).alloc hb1.size _).trans (hb2.mono (by have := hb1.size; simp; omega)))).trans (hb3.mono (by have := hb1.size; have := hb2.size; simp at this; omega))⟩
end Go.Proofs.Ytgepcdohgiiaaaa
