/- FrameLines: any slice. -/
import Derived.Test.YtgepcdohgiiaaaaL2
namespace Go.Proofs.Ytgepcdohgiiaaaa
open Go.RowKit Go.Shelf
set_option linter.unusedSimpArgs false
set_option linter.unusedVariables false

set_option maxHeartbeats 4000000 in
set_option maxRecDepth 100000 in
theorem frameLines_skip (a : Option Addr) (len cap : Nat) (w : World) (h : len = 0 ∨ 200 < len) :
    Calls Try.prog 4 #[.slice a len cap] w fun e w' => e = .returned (.bool true) ∧ Below w.heap.size w w' := by
  have h' : (decide ((200 : Int) < len) || ((len : Int) == 0)) = true := by
    rcases h with h | h
    · subst h; rfl
    · have : ((200 : Int) < len) := by omega
      simp [this]
  rcases h with h | h
  · subst h
    go_enter Try.func4, Try.ntmps4
    go_wp2_with fail
    go_ret
    exact ⟨rfl, Below.refl _ _⟩
  · have h1 : ((200 : Int) < len) := by omega
    go_enter Try.func4, Try.ntmps4
    go_wp2_with fail
    go_ret
    exact ⟨rfl, Below.refl _ _⟩
theorem frameLines_walk (a0 : Option Addr) (len0 cap0 : Nat) (z0 : List Int) (w : World)
    (w0 : (a0 = none ∧ len0 = 0 ∧ cap0 = 0 ∧ z0 = []) ∨ ∃ x, a0 = some x ∧ len0 ≤ cap0 ∧ cap0 ≤ maxLen ∧ z0.length = cap0 ∧ (∀ i, i < z0.length → w.cell? (x.add i) = some (.int .u8 (z0.getD i 0))) ∧ ∀ n ∈ z0, (Lit.int .u8 n).wf = true)
    (y0 : len0 * 1 ≤ 140737488351232) :
    Calls Try.prog 4 #[.slice a0 len0 cap0] w fun e w' => e = .returned (.bool true) ∧ Below w.heap.size w w' := by
  by_cases h : len0 = 0 ∨ 200 < len0
  · exact frameLines_skip a0 len0 cap0 w h
  · rcases w0 with ⟨rfl, rfl, rfl, rfl⟩ | ⟨x, rfl, h1, h2, h3, h4, h5⟩
    · exact absurd (.inl rfl) h
    · exact frameLines_look z0 x len0 cap0 w (by omega) (by omega) (fun i hi => h4 i (by omega))
end Go.Proofs.Ytgepcdohgiiaaaa
