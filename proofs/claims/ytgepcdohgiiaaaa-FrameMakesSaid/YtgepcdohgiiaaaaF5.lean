/- Spans that come in; FrameMakes, whatever comes in. -/
import Derived.Test.YtgepcdohgiiaaaaF4
import Derived.Deep.Slices
import Derived.ChangeSame
namespace Go.Proofs.Ytgepcdohgiiaaaa
open Go.RowKit Go.Shelf Go.ChangeShapes Go.WideShapes Go.Deep
set_option linter.unusedSimpArgs false
set_option linter.unusedVariables false

theorem u8_ok {n : Int} (h : (Lit.int .u8 n).wf = true) : 0 ≤ n ∧ n ≤ 255 := by
  simp [Lit.wf, IntKind.min, IntKind.max, IntKind.bits, IntKind.signed] at h; omega
theorem u16_ok {n : Int} (h : (Lit.int .u16 n).wf = true) : 0 ≤ n ∧ n ≤ 65535 := by
  simp [Lit.wf, IntKind.min, IntKind.max, IntKind.bits, IntKind.signed] at h; omega

section
variable {H : Type} {enc : TypeId × Value → H} {w : World} {base : Nat} {spare : Nat → Bool} {held : Bool}
set_option maxRecDepth 100000 in
theorem span_of {n i : Nat} {a : Addr} {cs : List Value} {y : DataW H × List MemPlace} (hc : w.cells? base (a.add (i * 4)) 4 = some cs) (h : DataW.trod enc Try.prog w base spare held n 72 cs = some y) :
    ∃ s : SpanM, w.cell? (a.add (i * 4)) = some (.int .u8 s.clock) ∧ w.cell? (a.add (i * 4 + 1)) = some (.int .u8 s.pixel) ∧ w.cell? (a.add (i * 4 + 2)) = some (.bool s.sync) ∧ w.cell? (a.add (i * 4 + 3)) = some (.int .u16 s.count) ∧ s.ok := by
  obtain ⟨xs, m, _, _, _, hl, hf⟩ := DataW.trod_struct Try.underlying72 h
  obtain ⟨_, hcl, hat⟩ := World.cells?_some hc
  match cs, hcl with
  | [c0, c1, c2, c3], _ =>
    match xs, hl with
    | [x0, x1, x2, x3], _ =>
      have f0 := hf 0 _ rfl
      have f1 := hf 1 _ rfl
      have f2 := hf 2 _ rfl
      have f3 := hf 3 _ rfl
      have k5 : Try.prog.cellsOf 5 = 1 := by kernel_rfl
      have k4 : Try.prog.cellsOf 4 = 1 := by kernel_rfl
      have k36 : Try.prog.cellsOf 36 = 1 := by kernel_rfl
      simp only [k5, k4, k36, List.drop_zero, List.drop_succ_cons, List.take_succ_cons, List.take_zero, List.getElem?_cons_zero, List.getElem?_cons_succ] at f0 f1 f2 f3
      obtain ⟨n0, e0, _, w0⟩ := DataW.trod_int Try.underlying5 f0
      obtain ⟨n1, e1, _, w1⟩ := DataW.trod_int Try.underlying5 f1
      obtain ⟨n2, e2, _⟩ := DataW.trod_bool Try.underlying4 f2
      obtain ⟨n3, e3, _, w3⟩ := DataW.trod_int Try.underlying36 f3
      cases e0
      cases e1
      cases e2
      cases e3
      have a0 := hat 0 (by omega)
      have a1 := hat 1 (by omega)
      have a2 := hat 2 (by omega)
      have a3 := hat 3 (by omega)
      rw [Go.Deep.add_add] at a0 a1 a2 a3
      exact ⟨⟨n0, n1, n2, n3⟩, a0, a1, a2, a3, u8_ok w0, u8_ok w1, u16_ok w3⟩

set_option maxRecDepth 100000 in
/-- The spans that a slice holds. -/
theorem open_spans {fuel : Nat} {cs : List Value} {x : DataW H × List MemPlace} (h : DataW.trod enc Try.prog w base spare held fuel 22 cs = some x) :
    ∃ A c, ∃ l : List SpanM, cs = [.slice A l.length c] ∧ SpansC w A l := by
  rcases open_slice Try.underlying22 h with ⟨rfl, _⟩ | ⟨a, len, cap, m, n, D, Pl, rfl, _, hl, _, hm, _, hi⟩
  · exact ⟨none, 0, [], rfl, fun i hi => absurd hi (by simp)⟩
  · have hlm : len ≤ m := by rw [hm]; split <;> omega
    have k72 : Try.prog.cellsOf 72 = 4 := by kernel_rfl
    have hs : ∀ i, i < len → ∃ s : SpanM, w.cell? (a.add (i * 4)) = some (.int .u8 s.clock) ∧ w.cell? (a.add (i * 4 + 1)) = some (.int .u8 s.pixel) ∧ w.cell? (a.add (i * 4 + 2)) = some (.bool s.sync) ∧ w.cell? (a.add (i * 4 + 3)) = some (.int .u16 s.count) ∧ s.ok := fun i hl => by
      obtain ⟨cs', hc, ht⟩ := hi i (by omega)
      rw [k72] at hc
      exact span_of hc ht
    have : Nonempty SpanM := ⟨⟨0, 0, false, 0⟩⟩
    let f : Nat → SpanM := fun i => if h : i < len then Classical.choose (hs i h) else Classical.choice this
    refine ⟨some a, cap, (List.range len).map f, by simp, fun i hi => ?_⟩
    simp only [List.length_map, List.length_range] at hi
    have e : ((List.range len).map f)[i]'(by simpa using hi) = Classical.choose (hs i hi) := by simp [f, hi]
    rw [e]
    exact ⟨a, rfl, Classical.choose_spec (hs i hi)⟩
end

set_option maxHeartbeats 4000000 in
set_option maxRecDepth 100000 in
theorem frameMakes_walk (A : Option Addr) (l : List SpanM) (c : Nat) (w : World) (hl : SpansC w A l) :
    Calls Try.prog 3 #[.slice A l.length c] w fun e w' => e = .returned (.bool true) ∧ Below w.heap.size w w' := by
  by_cases h : l.length ≤ 12
  · exact frameMakes_in w A l c hl h
  · have h1 : ((12 : Int) < l.length) := by omega
    clear hl
    go_enter Try.func3, Try.ntmps3
    go_wp2_with fail
    go_ret
    exact ⟨rfl, Below.refl _ _⟩
end Go.Proofs.Ytgepcdohgiiaaaa
