/- FrameBack: Light, bytes of a picture. -/
import Derived.Test.YtgepcdohgiiaaaaU4
import Derived.Test.YtgepcdohgiiaaaaV3
namespace Go.Proofs.Ytgepcdohgiiaaaa
open Go.RowKit Go.Shelf
open Go.Proofs.YtgepcdohgiiaaaaW.PrintWords (own_slice Kd nums rd ReadsInt)
set_option linter.unusedSimpArgs false
set_option linter.unusedVariables false

theorem packRow_bytes {o : List Int} (h : Bytes o) (hl : o.length ≤ 160) : Bytes (packRow o) ∧ (packRow o).length ≤ 321 := by
  obtain ⟨hv, hf⟩ := pk_ok o
  have hle := (runs_le (pkM o) hv.1).1
  rw [hf] at hle
  constructor
  · intro x hx
    unfold packRow at hx
    rcases List.mem_cons.1 hx with rfl | hx
    · omega
    · obtain ⟨r, hr, hx⟩ := List.mem_flatMap.1 hx
      simp at hx
      rcases hx with rfl | rfl
      · omega
      · refine h _ ?_
        rw [← hf]
        refine List.mem_flatMap.2 ⟨r, hr, ?_⟩
        rw [List.mem_replicate]
        have := hv.1 r hr
        exact ⟨by omega, rfl⟩
  · unfold packRow; rw [List.length_cons, runBytes_len]; omega
theorem packRows_bytes (G : List (List Int)) (h : ∀ r ∈ G, Bytes r ∧ r.length = 160) : Bytes (G.flatMap packRow) ∧ (G.flatMap packRow).length ≤ 321 * G.length := by
  induction G with
  | nil => exact ⟨fun x hx => absurd hx (by simp), by simp⟩
  | cons o G ih =>
    obtain ⟨h1, h2⟩ := ih (fun r hr => h r (by simp [hr]))
    obtain ⟨g1, g2⟩ := packRow_bytes (h o (by simp)).1 (by have := (h o (by simp)).2; omega)
    rw [List.flatMap_cons]
    refine ⟨fun x hx => ?_, by rw [List.length_append, List.length_cons]; omega⟩
    rcases List.mem_append.1 hx with hx | hx
    · exact g1 x hx
    · exact h1 x hx
theorem packM_bytes (G : List (List Int)) (h : ∀ r ∈ G, Bytes r ∧ r.length = 160) : Bytes (packM G) ∧ (packM G).length ≤ 2 + 321 * G.length := by
  obtain ⟨h1, h2⟩ := packRows_bytes G h
  unfold packM
  refine ⟨fun x hx => ?_, by rw [List.length_append, List.length_cons, List.length_cons, List.length_nil]; omega⟩
  rcases List.mem_append.1 hx with hx | hx
  · simp at hx; omega
  · exact h1 x hx
def LightP (F : List (List Int)) (w : World) (e : Ending) (w' : World) : Prop := ∃ b, e = .returned (.bool b) ∧ (b = true → F.length ≤ 30 ∧ ∀ r ∈ F, r.length ≤ 400) ∧ w = w'
set_option maxHeartbeats 4000000 in
set_option maxRecDepth 100000 in
theorem light_in (w : World) (A : Option Addr) (F : List (List Int)) (c : Nat) (hF : MatC w A F) (hl : F.length ≤ 9223372036854775807) :
    Calls Try.prog 25 #[.slice A F.length c, .int .i64 30] w (LightP F w) := by
  have HF := Lib.hid hF
  clear hF
  by_cases h30 : 30 < F.length
  · have h30' : (30 : Int) < F.length := by omega
    go_enter Try.func25, Try.ntmps25
    go_wp2_with fail
    go_ret
    exact ⟨false, rfl, (fun h => by cases h), rfl⟩
  · have h30' : ¬ (30 : Int) < F.length := by omega
    go_enter Try.func25, Try.ntmps25
    go_wp2_with fail
    go_loop [5] (fun i => ∃ y : Nat, y ≤ F.length ∧ i = .int .i64 y ∧ Hid (∀ j, j < y → (F.getD j []).length ≤ 400)) (fun i => F.length - (intOf i).toNat)
    case atStart => exact ⟨0, by omega, rfl, Lib.hid (fun j hj => absurd hj (by omega))⟩
    case round =>
      obtain ⟨y, hy, rfl, hall⟩ := hrel
      by_cases hly : y < F.length
      · have hly' : (y : Int) < F.length := by omega
        obtain ⟨fx, fB, fC, rfl, hfc, hfl, hfm, _⟩ := HF.out y hly
        have e0 : maxLen = 9223372036854775807 := rfl
        obtain ⟨n, hn⟩ : ∃ n, n = (F.getD y []).length := ⟨_, rfl⟩
        rw [← hn] at hfc hfl
        have hn2 : n ≤ 9223372036854775807 := by omega
        have HN := Lib.hid hn
        clear hn hfl hfm e0
        by_cases h4 : 400 < n
        · have h4' : (400 : Int) < n := by omega
          go_wp2_with fail
          go_ret
          exact ⟨false, rfl, (fun h => by cases h), rfl⟩
        · have h4' : ¬ (400 : Int) < n := by omega
          have hyw : IntKind.i64.wrap ((y : Int) + 1) = (y : Int) + 1 := by rw [IntKind.wrap_i64]; omega
          go_wp2_with fail
          go_round
          case rel =>
            refine ⟨y + 1, by omega, by first | rfl | go_num | simp, Lib.hid (fun j hj => ?_)⟩
            by_cases e : j < y
            · exact hall.out j e
            · obtain rfl : j = y := by omega
              rw [← HN.out]; omega
          case measure => simp [intOf]; omega
      · have hge : ¬ ((y : Int) < F.length) := by omega
        go_wp2_with fail
        go_ret
        refine ⟨true, rfl, fun _ => ⟨by omega, fun r hr => ?_⟩, rfl⟩
        obtain ⟨i, hi, rfl⟩ := List.getElem_of_mem hr
        have := hall.out i (by omega)
        rwa [List.getD_eq_getElem?_getD, List.getElem?_eq_getElem hi] at this
end Go.Proofs.Ytgepcdohgiiaaaa
