/- awake. -/
import Derived.Test.YtgepcdohgiiaaaaA8
namespace Go.Proofs.Ytgepcdohgiiaaaa
open Go.RowKit Go.Shelf
open Go.Proofs.YtgepcdohgiiaaaaW.PrintWords (nums own_slice own_reads ReadsInt Kd print_make)
set_option linter.unusedSimpArgs false
set_option linter.unusedVariables false

theorem own_le {w : World} {base e n c : Nat} {A : Option Addr} {xs : List Value} (h : w.ownsRow base e 1 (.slice A n c) n xs) : n ≤ c := by
  rcases h.2 with ⟨h1, h2⟩ | ⟨g, cap, cur, h1, _, _, h2, _⟩
  · omega
  · cases h1; exact h2
theorem own_C {w : World} {base e n : Nat} {k : IntKind} {v : Value} {xs : List Int} (h : w.ownsRow base e 1 v n (nums k xs)) :
    ∃ A c, v = .slice A n c ∧ n ≤ c ∧ xs.length = n ∧ (Kd.int k).C w A xs.length xs := by
  obtain ⟨A, c, rfl, hr⟩ := own_reads h
  have hl := hr.1
  refine ⟨A, c, rfl, own_le h, hl, ?_⟩
  rw [hl]
  exact Kd.C_of_reads (d := (0 : Int)) (h1 := fun _ => rfl) hr
/-- A picture in memory reads as a slice of slices. -/
theorem FrameIs.C {w : World} {v : Value} {G : List (List Int)} (h : FrameIs w v G) : ∃ A c, v = .slice A G.length c ∧ G.length ≤ c ∧ (Kd.slice 5 (Kd.int .u8)).C w A G.length G := by
  obtain ⟨vs, ho, hl, hr⟩ := h
  obtain ⟨A, c, rfl⟩ := own_slice ho
  refine ⟨A, c, rfl, own_le ho, rfl, ?_, fun hp => ?_⟩
  · rcases ho.2 with ⟨h1, h2⟩ | ⟨g, cap, cur, h1, _, _, h2, h3, _⟩
    · omega
    · simp only [maxLen] at h3; omega
  · obtain ⟨g, cap, e, _, _⟩ := ho.form hp
    cases e
    refine ⟨_, rfl, fun j p hj => ?_⟩
    have hj' : j < G.length := (List.getElem?_eq_some_iff.1 hj).1
    have hp' : G.getD j [] = p := by simp [List.getD_eq_getElem?_getD, hj]
    have hr' := hr j hj'
    rw [hp'] at hr'
    obtain ⟨A0, c0, e0, h1, h2, h3⟩ := own_C hr'
    refine ⟨[vs.getD j undef], rfl, ⟨A0, c0, ?_, by omega, h3⟩, fun i u hi => ?_⟩
    · rw [e0, h2]
    · have hi0 : i = 0 := by
        have := (List.getElem?_eq_some_iff.1 hi).1; simp at this; omega
      subst hi0
      simp at hi
      refine ho.cells (g := g) rfl (j * 1 + 0) u ?_
      have hjv : j < vs.length := by rw [hl]; exact hj'
      simp [List.getElem?_eq_getElem hjv, ← hi, List.getD_eq_getElem?_getD]

def r1 : RecM := ⟨0, 0, false, true, 0, 0, false, 0⟩
def r2 : RecM := ⟨68, 30, false, false, 0, 0, false, 0⟩
def r3 : RecM := ⟨0, 0, false, false, 0, 0, false, 0⟩
def m4 : MakerM := (feedM (feedM (feedM newM r1).1 r2).1 r3).1
def told4 : List (List Int) := [30 :: List.replicate 159 0, List.replicate 160 0]
theorem awake_told : (feedM m4 r1).2 = some told4 := by kernel_rfl
theorem awake_pack : PFrameNil.frame_Pack.f 400 [List.replicate 160 0] = some ([1, 0, 1, 160, 0], 0) := by kernel_rfl

def zrow : Array Value := madeCells #[Value.int .u8 0] 160
theorem zrow_nums : zrow = (nums .u8 (List.replicate 160 0)).toArray := by
  have h : (madeCells #[Value.int .u8 0] 160).toList = nums .u8 (List.replicate 160 0) := by rw [toList_madeCells_one]; simp [nums]
  unfold zrow; rw [← h]

theorem one_row_C {w : World} {ob rb : Nat} (ho : w.heap[ob]? = some (.cells #[.slice (some ⟨rb, 0, none⟩) 160 160] 45 (0, 0))) (hr : w.heap[rb]? = some (.cells zrow 5 (0, 0))) :
    (Kd.slice 5 (Kd.int .u8)).C w (some ⟨ob, 0, none⟩) [List.replicate 160 (0 : Int)].length [List.replicate 160 0] := by
  rw [zrow_nums] at hr
  refine ⟨rfl, by simp, fun _ => ⟨_, rfl, fun j p hj => ?_⟩⟩
  match j, hj with
  | 0, hj =>
    simp only [List.getElem?_cons_zero, Option.some.injEq] at hj
    subst hj
    refine ⟨[.slice (some ⟨rb, 0, none⟩) 160 160], rfl, ⟨some ⟨rb, 0, none⟩, 160, by rw [List.length_replicate], by rw [List.length_replicate]; omega, ?_⟩, fun i u hi => ?_⟩
    · refine Kd.C_of_reads (d := (0 : Int)) (h1 := fun _ => rfl) ⟨rfl, by rw [List.length_replicate]; omega, fun _ => ⟨_, rfl, fun j hj => ?_⟩⟩
      rw [List.length_replicate] at hj
      rw [Addr.add_lit, Nat.zero_add, (cell_row hr j).1, nums_get _ _ _ (by rw [List.length_replicate]; exact hj)]
    · have hi0 : i = 0 := by
        have := (List.getElem?_eq_some_iff.1 hi).1; simp at this; omega
      subst hi0
      simp at hi
      subst hi
      exact cell_of_one ho

set_option maxHeartbeats 4000000 in
set_option maxRecDepth 100000 in
theorem awake_in (w : World) : Calls Try.prog 19 #[] w fun e w' => e = .returned (.bool true) ∧ Below w.heap.size w w' := by
  have hmk : ∀ W : World, (Instr.makeSlice 45 (.int .i64 160) (.int .i64 160)).run Try.prog W = .ok (.slice (some ⟨W.heap.size, 0, none⟩) 160 160) (W.alloc (.cells zrow 5)) :=
    print_make (P := Try.prog) 45 5 .u8 1 Try.underlying45 Try.info5 (by omega) 160 (by omega)
  have hu40 := Try.underlying40
  have hu33 := Try.underlying33
  go_enter Try.func19, Try.ntmps19
  go_wp2_with fail
  refine (new_in w).mono ?_
  rintro e w1 ⟨mb, rfl, hm1, hb1⟩
  go_wp2_with fail
  refine (feed_in w1 w.heap.size mb newM r1 hm1 hb1.size (by decide) (by decide)).mono ?_
  rintro e w2 ⟨v2, rfl, -, hm2, hb2⟩
  go_wp2_with fail
  refine (feed_in w2 w.heap.size mb _ r2 hm2 (hb1.trans hb2).size (by decide) (by decide)).mono ?_
  rintro e w3 ⟨v3, rfl, -, hm3, hb3⟩
  go_wp2_with fail
  refine (feed_in w3 w.heap.size mb _ r3 hm3 ((hb1.trans hb2).trans hb3).size (by decide) (by decide)).mono ?_
  rintro e w4 ⟨v4, rfl, -, hm4, hb4⟩
  go_wp2_with fail
  have hB4 := ((hb1.trans hb2).trans hb3).trans hb4
  refine (feed_in w4 w.heap.size mb _ r1 hm4 hB4.size (by decide) (by decide)).mono ?_
  rintro e w5 ⟨v5, rfl, hf5, -, hb5⟩
  rw [show (feedM (feedM (feedM (feedM newM r1).1 r2).1 r3).1 r1).2 = some told4 from awake_told] at hf5 ⊢
  have hB5 := hB4.trans hb5
  clear hm1 hm2 hm3 hm4 hb1 hb2 hb3 hb4 hb5 hB4
  simp only [Option.getD_some, Option.isSome_some] at hf5 ⊢
  obtain ⟨vs, ho, hl, hr⟩ := hf5
  obtain ⟨g, cap, rfl, hgb, hgl⟩ := ho.form (by decide)
  have q0 := ho.cells (g := g) rfl 0 (vs.getD 0 undef) (by simp only [List.getD_eq_getElem?_getD]; rw [List.getElem?_eq_getElem (by rw [hl]; decide)]; rfl)
  have hr0 := hr 0 (by decide)
  obtain ⟨g0, cap0, e0, hgb0, hgl0⟩ := hr0.form (by decide)
  rw [e0] at q0 hr0
  have q1 := hr0.cells (g := g0) rfl 0 (.int .u8 30) rfl
  rw [addr_zero] at q0 q1
  clear hr0 e0 hr ho hl
  have Q0 := Lib.hid q0
  have Q1 := Lib.hid q1
  clear q0 q1
  simp only [show told4.length = 2 from rfl]
  generalize (feedM newM r1).2.isSome = b1
  generalize (feedM (feedM newM r1).1 r2).2.isSome = b2
  generalize (feedM (feedM (feedM newM r1).1 r2).1 r3).2.isSome = b3
  go_wp2_with fail
  obtain ⟨W, hW⟩ : ∃ W, W = ((w5.alloc (.cells #[Value.slice (some ⟨g, 0, none⟩) 2 cap] 33)).alloc (.cells zrow 5)).alloc (.cells #[.slice (some ⟨w5.heap.size + 1, 0, none⟩) 160 160] 45) := ⟨_, rfl⟩
  rw [← hW]
  have hob : W.heap[w5.heap.size + 1 + 1]? = some (.cells #[.slice (some ⟨w5.heap.size + 1, 0, none⟩) 160 160] 45 (0, 0)) := by
    rw [hW]; simpa using alloc_new ((w5.alloc (.cells #[Value.slice (some ⟨g, 0, none⟩) 2 cap] 33)).alloc (.cells zrow 5)) (.cells #[.slice (some ⟨w5.heap.size + 1, 0, none⟩) 160 160] 45)
  have hrb : W.heap[w5.heap.size + 1]? = some (.cells zrow 5 (0, 0)) := by
    rw [hW, Below.heap_alloc _ _ _ (by simp)]; simpa using alloc_new (w5.alloc (.cells #[Value.slice (some ⟨g, 0, none⟩) 2 cap] 33)) (.cells zrow 5)
  have hfb : W.heap[w5.heap.size]? = some (.cells #[Value.slice (some ⟨g, 0, none⟩) 2 cap] 33 (0, 0)) := by
    rw [hW, Below.heap_alloc _ _ _ (by simp; omega), Below.heap_alloc _ _ _ (by simp)]; exact alloc_new _ _
  have hB5W : Below w5.heap.size w5 W := by rw [hW]; exact (((Below.refl _ _).alloc (Nat.le_refl _) _).alloc (by simp) _).alloc (by simp <;> omega) _
  have hszW : w5.heap.size + 3 = W.heap.size := by rw [hW]; simp
  clear hW
  have hpk := PFrameNil.frame_Pack.calls 400 (some ⟨w5.heap.size + 1 + 1, 0, none⟩) 1 [List.replicate 160 0] [1, 0, 1, 160, 0] 0 W (one_row_C hob hrb) (by decide) awake_pack
  refine Calls.mono (R := fun e w' => ∃ v0_ : Value, e = .returned (.tuple #[v0_, .int .i64 0]) ∧ Kd.R (Kd.int .u8) 5 w' W.heap.size (fun _ => True) v0_ [1, 0, 1, 160, 0] ∧ Below W.heap.size W w') hpk ?_
  rintro e w6 ⟨v0, rfl, hR, hb6⟩
  obtain ⟨A0, c0, rfl, -, hC⟩ := Kd.R_reads hR
  have hconv := Go.Proofs.YtgepcdohgiiaaaaW.PrintWords.Kd.C_string (P := Try.prog) (w := w6) (src := 45) (dst := 9) (e := 5) (c := c0) Try.underlying45 Try.underlying5 Try.underlying9 hC
  rw [show strOfNums [1, 0, 1, 160, 0] = ⟨#[1, 0, 1, 160, 0]⟩ from by rfl] at hconv
  have f0 : w6.cell? ⟨w5.heap.size, 0, none⟩ = some (.slice (some ⟨g, 0, none⟩) 2 cap) := (hb6.cell (p := ⟨w5.heap.size, 0, none⟩) (by simp; omega)).trans (cell_of_one hfb)
  have f1 : w6.cell? ⟨g, 0, none⟩ = some (.slice (some ⟨g0, 0, none⟩) 160 cap0) := (hb6.cell (p := ⟨g, 0, none⟩) (by simp; omega)).trans ((hB5W.cell (p := ⟨g, 0, none⟩) hgl).trans Q0.out)
  have f2 : w6.cell? ⟨g0, 0, none⟩ = some (.int .u8 30) := (hb6.cell (p := ⟨g0, 0, none⟩) (by simp; omega)).trans ((hB5W.cell (p := ⟨g0, 0, none⟩) hgl0).trans Q1.out)
  have hfin : Below w.heap.size w w6 := (hB5.trans (hB5W.mono hB5.size)).trans (hb6.mono (by have := hB5.size; omega))
  clear hpk hR hC hob hrb hfb
  simp only [show ([1, 0, 1, 160, 0] : List Int).length = 5 from rfl] at hconv ⊢
  go_wp2
  go_ret
  exact ⟨by simp, hfin⟩
end Go.Proofs.Ytgepcdohgiiaaaa
