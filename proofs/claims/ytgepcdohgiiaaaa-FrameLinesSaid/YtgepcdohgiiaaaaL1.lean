/- FrameLines. -/
import Derived.Test.YtgepcdohgiiaaaaA9
namespace Go.Proofs.Ytgepcdohgiiaaaa
open Go.RowKit Go.Shelf
open Go.Proofs.YtgepcdohgiiaaaaW.PrintWords (own_slice)
set_option linter.unusedSimpArgs false
set_option linter.unusedVariables false

def lineRow (l : List Int) (y c k : Nat) : List Int := (List.range 160).map fun x => if k < y ∨ (k = y ∧ x + 68 < c) then l.getD k 0 else 0
/-- The maker ahead of the record of line y, clock c. -/
def lineM (l : List Int) (y c : Nat) : MakerM := ⟨(List.range 320).map (lineRow l y c), if c = 0 then y else y + 1, false, if c = 0 then decide (0 < y ∧ y ≤ 3) else decide (y < 3)⟩
def lineR (l : List Int) (y c : Nat) : RecM := ⟨c, l.getD y 0, false, decide (y < 3), 0, 0, false, 0⟩
theorem lineM_new (l : List Int) : lineM l 0 0 = newM := by
  have e : (List.range 320).map (lineRow l 0 0) = blankG := by
    rw [show (List.range 320).map (lineRow l 0 0) = (List.range 320).map (fun _ => List.replicate 160 (0:Int)) from List.map_congr_left fun k _ => by
      unfold lineRow
      rw [show (List.range 160).map (fun x => if k < 0 ∨ (k = 0 ∧ x + 68 < 0) then l.getD k 0 else 0) = (List.range 160).map (fun _ => (0:Int)) from List.map_congr_left fun x _ => if_neg (by omega)]
      rw [List.map_const', List.length_range]]
    rw [List.map_const', List.length_range]; rfl
  unfold lineM newM
  rw [e]; rfl
theorem lineM_next (l : List Int) (y : Nat) (hy : y < 320) : lineM l y 228 = lineM l (y + 1) 0 := by
  unfold lineM
  congr 1
  · refine List.map_congr_left fun k hk => ?_
    unfold lineRow
    refine List.map_congr_left fun x hx => ?_
    simp only [List.mem_range] at hx
    congr 1
    simp only [eq_iff_iff]; omega
  · simp; omega
theorem line_feed (l : List Int) (y c : Nat) (hy : y < 200) (hc : c < 228) : feedM (lineM l y c) (lineR l y c) = (lineM l y (c + 1), none) := by
  unfold feedM
  by_cases h0 : c = 0
  · subst h0
    rw [if_pos (by simp [lineR])]
    have e1 : (lineM l y 0).grid = (lineM l y (0 + 1)).grid := by
      unfold lineM
      refine List.map_congr_left fun k hk => ?_
      unfold lineRow
      refine List.map_congr_left fun x hx => ?_
      congr 1
      simp only [eq_iff_iff]; omega
    have e2 : ((lineR l y 0).sync && !(lineM l y 0).sync && decide (0 < (lineM l y 0).rows)) = false := by
      simp [lineR, lineM]; omega
    unfold beginM
    rw [e2]
    simp only [Bool.false_eq_true, if_false]
    rw [if_neg (by simp [lineM]; omega), e1]
    simp [lineM, lineR]
  · rw [if_neg (by simp [lineR]; exact h0)]
    unfold pxM
    by_cases h68 : 68 ≤ c
    · have hh : (68:Int) ≤ (lineR l y c).clock ∧ (lineM l y c).lost = false ∧ 0 < (lineM l y c).rows ∧ (lineR l y c).clock < 228 := by
        refine ⟨by simp [lineR]; omega, rfl, by simp [lineM, h0], by simp [lineR]; omega⟩
      rw [if_pos hh]
      have e : setPx (lineM l y c).grid ((lineR l y c).clock - 68).toNat ((lineM l y c).rows - 1) (lineR l y c).pixel = (lineM l y (c + 1)).grid := by
        have ey : ((lineM l y c).rows - 1) = y := by simp [lineM, h0]
        have ex : ((lineR l y c).clock - 68).toNat = c - 68 := by simp [lineR]; omega
        have ep : (lineR l y c).pixel = l.getD y 0 := rfl
        rw [ey, ex, ep]
        unfold setPx lineM
        simp only
        refine List.ext_getElem (by simp) fun k h1 h2 => ?_
        simp only [List.length_set, List.length_map, List.length_range] at h1
        by_cases hk : k = y
        · subst hk
          simp only [List.getElem_set_self, List.getElem_map, List.getElem_range]
          rw [List.getD_eq_getElem?_getD, List.getElem?_map, List.getElem?_range (show k < 320 from by omega)]
          simp only [Option.map_some, Option.getD_some]
          refine List.ext_getElem (by simp [lineRow]) fun x h3 h4 => ?_
          simp only [lineRow, List.length_set, List.length_map, List.length_range] at h3
          rw [List.getElem_set]
          simp only [lineRow, List.getElem_map, List.getElem_range]
          split
          · rename_i hx; simp only [Nat.lt_irrefl, false_or, true_and]; rw [if_pos (show x + 68 < c + 1 from by omega)]
          · rename_i hne
            simp only [Nat.lt_irrefl, false_or, true_and]
            by_cases hq : x + 68 < c
            · rw [if_pos hq, if_pos (show x + 68 < c + 1 from by omega)]
            · rw [if_neg hq, if_neg (show ¬ x + 68 < c + 1 from by omega)]
        · rw [List.getElem_set_ne (by omega)]
          simp only [List.getElem_map, List.getElem_range]
          unfold lineRow
          refine List.map_congr_left fun x hx => ?_
          congr 1
          simp only [eq_iff_iff]; omega
      rw [e]
      simp [lineM, h0]
    · rw [if_neg (by rintro ⟨h, _⟩; simp [lineR] at h; omega)]
      have e1 : (lineM l y c).grid = (lineM l y (c + 1)).grid := by
        unfold lineM
        refine List.map_congr_left fun k hk => ?_
        unfold lineRow
        refine List.map_congr_left fun x hx => ?_
        congr 1
        simp only [eq_iff_iff]; omega
      have e3 : lineM l y c = ⟨(lineM l y (c + 1)).grid, y + 1, false, decide (y < 3)⟩ := by rw [← e1]; simp [lineM, h0]
      rw [e3]
      simp [lineM]


theorem line_last (l : List Int) (n : Nat) (h1 : 3 < n) (h2 : n ≤ 200) : feedM (lineM l n 0) ⟨0, 0, false, true, 0, 0, false, 0⟩ = (⟨blankG, 1, false, true⟩, some ((lineM l n 0).grid.take n)) := by
  unfold feedM
  rw [if_pos rfl]
  unfold beginM
  have e2 : (true && !(lineM l n 0).sync && decide (0 < (lineM l n 0).rows)) = true := by simp [lineM]; omega
  simp only [e2, if_true]
  rfl
theorem line_few (l : List Int) (n : Nat) (h1 : 0 < n) (h2 : n ≤ 3) : feedM (lineM l n 0) ⟨0, 0, false, true, 0, 0, false, 0⟩ = (⟨(lineM l n 0).grid, n + 1, false, true⟩, none) := by
  unfold feedM
  rw [if_pos rfl]
  unfold beginM
  have e2 : (true && !(lineM l n 0).sync && decide (0 < (lineM l n 0).rows)) = false := by simp [lineM]; omega
  simp only [e2, Bool.false_eq_true, if_false]
  rw [if_neg (by simp [lineM]; omega)]
  simp [lineM]
theorem line_rows (l : List Int) (n i : Nat) (hi : i < n) (h2 : n ≤ 200) : ((lineM l n 0).grid.take n).getD i [] = List.replicate 160 (l.getD i 0) := by
  rw [List.getD_eq_getElem?_getD, List.getElem?_take, if_pos hi]
  unfold lineM
  simp only
  rw [List.getElem?_map, List.getElem?_range (by omega)]
  simp only [Option.map_some, Option.getD_some]
  unfold lineRow
  rw [show (List.range 160).map (fun x => if i < n ∨ (i = n ∧ x + 68 < 0) then l.getD i 0 else 0) = (List.range 160).map (fun _ => l.getD i 0) from List.map_congr_left fun x _ => if_pos (.inl hi)]
  rw [List.map_const', List.length_range]
theorem line_len (l : List Int) (n : Nat) (h2 : n ≤ 200) : ((lineM l n 0).grid.take n).length = n := by
  rw [List.length_take]; simp [lineM]; omega
theorem FrameIs.look {w : World} {v : Value} {G : List (List Int)} (h : FrameIs w v G) : ∃ A c, v = .slice A G.length c ∧ ∀ i, i < G.length → ∃ ad a0 c0, A = some ad ∧ w.cell? (ad.add i) = some (.slice (some a0) 160 c0) ∧
    ∀ j, j < 160 → w.cell? (a0.add j) = some (.int .u8 ((G.getD i []).getD j 0)) := by
  obtain ⟨vs, ho, hl, hr⟩ := h
  obtain ⟨A, c, rfl⟩ := own_slice ho
  refine ⟨A, c, rfl, fun i hi => ?_⟩
  obtain ⟨g, cap, e, _, _⟩ := ho.form (by omega)
  cases e
  have hri := hr i hi
  obtain ⟨A0, c0, e0, hrd⟩ := Go.Proofs.YtgepcdohgiiaaaaW.PrintWords.own_reads hri
  obtain ⟨ad, rfl, hc⟩ := hrd.2.2 (by omega)
  refine ⟨_, ad, c0, rfl, ?_, hc⟩
  refine ho.cells (g := g) rfl i _ ?_
  have hiv : i < vs.length := by rw [hl]; exact hi
  simp only [List.getD_eq_getElem?_getD, List.getElem?_eq_getElem hiv, Option.getD_some] at e0
  rw [List.getElem?_eq_getElem hiv, e0]

end Go.Proofs.Ytgepcdohgiiaaaa
