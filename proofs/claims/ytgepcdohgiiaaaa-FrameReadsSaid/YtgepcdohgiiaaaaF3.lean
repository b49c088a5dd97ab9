/- Frames of the document, and a maker's: the plain law. -/
import Derived.Test.YtgepcdohgiiaaaaF2
namespace Go.Proofs.Ytgepcdohgiiaaaa
set_option linter.unusedSimpArgs false
set_option linter.unusedVariables false

def makeAt (R : List RecM) : Nat → MakerM
  | 0 => newM
  | k + 1 => (feedM (makeAt R k) (R.getD k r3)).1
def toldAt (R : List RecM) (k : Nat) : Option (List (List Int)) := (feedM (makeAt R k) (R.getD k r3)).2

structure Alike (m : MakerM) (S : RefM) : Prop where
  rows : m.rows = S.rows.length
  most : m.rows ≤ 320
  grid : m.grid.length = 320
  told : m.grid.take m.rows = S.rows
  blank : ∀ k, m.rows ≤ k → k < 320 → m.grid.getD k [] = List.replicate 160 0
  sync : m.sync = S.sync
  lost : 0 < m.rows → m.lost = S.lost
  none : S.rows.length = 0 → S.lost = true

theorem blank_len : blankG.length = 320 := List.length_replicate
theorem blank_get (k : Nat) (hk : k < 320) : blankG.getD k [] = List.replicate 160 0 := by
  unfold blankG
  rw [List.getD_eq_getElem?_getD, List.getElem?_replicate, if_pos hk]; rfl
theorem blank_one : blankG.take 1 = [List.replicate 160 0] := by
  unfold blankG
  rw [List.take_replicate]; rfl
theorem alike_new (R : List RecM) : Alike newM (refAt R 0) := by
  refine ⟨rfl, by decide, blank_len, rfl, fun k _ hk => blank_get k hk, rfl, fun h => absurd h (by decide), fun _ => rfl⟩

theorem take_blank (G : List (List Int)) (n : Nat) (hn : n < 320) (hl : G.length = 320) (hb : G.getD n [] = List.replicate 160 0) : G.take (n + 1) = G.take n ++ [List.replicate 160 0] := by
  rw [List.take_succ_eq_append_getElem (by omega)]
  congr 2
  rw [← hb, List.getD_eq_getElem?_getD, List.getElem?_eq_getElem (by omega)]; rfl

theorem feed_alike (m : MakerM) (S : RefM) (i : Int) (r : RecM) (h : Alike m S) :
    Alike (feedM m r).1 (refStep S i r) ∧
    (((feedM m r).2 = none ∧ (refStep S i r).outs = S.outs ∧ (refStep S i r).ats = S.ats) ∨
     ∃ G, (feedM m r).2 = some G ∧ (refStep S i r).outs = S.outs ++ [G] ∧ (refStep S i r).ats = S.ats ++ [i]) := by
  obtain ⟨G, rows, lost, sync⟩ := m
  obtain ⟨so, sa, sr, ss, sl⟩ := S
  obtain ⟨h1, h2, h3, h4, h5, h6, h7, h8⟩ := h
  simp only at h1 h2 h3 h4 h5 h6 h7 h8
  unfold feedM refStep
  by_cases hc : r.clock = 0
  · rw [if_pos hc, if_pos hc]
    unfold beginM
    simp only
    by_cases ht : r.sync = true ∧ ss = false ∧ 0 < sr.length
    · rw [if_pos ht, if_pos (by simp [ht.1, h6, ht.2.1]; omega)]
      refine ⟨⟨rfl, by simp, blank_len, blank_one, fun k _ hk => blank_get k hk, rfl, fun _ => rfl, fun h => absurd h (by simp)⟩, .inr ⟨_, rfl, by simp only; rw [h4], rfl⟩⟩
    · rw [if_neg ht, if_neg (by
        intro hh
        simp only [Bool.and_eq_true, Bool.not_eq_true', decide_eq_true_eq] at hh
        exact ht ⟨hh.1.1, by rw [← h6]; exact hh.1.2, by omega⟩)]
      by_cases hf : rows = 320
      · rw [if_pos hf, if_pos (by omega)]
        exact ⟨⟨h1, h2, h3, h4, h5, rfl, fun _ => rfl, fun h => absurd h (by simp only at h ⊢; omega)⟩, .inl (by simp)⟩
      · rw [if_neg hf, if_neg (by omega)]
        refine ⟨⟨by simp; omega, by simp only; omega, h3, ?_, fun k hk => h5 k (by simp only at hk; omega), rfl, fun _ => rfl, fun h => absurd h (by simp)⟩, .inl (by simp)⟩
        simp only
        rw [take_blank G rows (by omega) h3 (h5 rows (Nat.le_refl _) (by omega)), h4]
  · rw [if_neg hc, if_neg hc]
    unfold pxM
    simp only
    by_cases hp : 68 ≤ r.clock ∧ sl = false ∧ r.clock < 228
    · have hr : 0 < rows := by
        rcases Nat.eq_zero_or_pos rows with h | h
        · have := h8 (by omega); rw [this] at hp; exact absurd hp.2.1 (by decide)
        · exact h
      rw [if_pos hp, if_pos ⟨hp.1, by rw [h7 hr]; exact hp.2.1, hr, hp.2.2⟩]
      refine ⟨⟨by simp [setPx]; exact h1, h2, by simp [setPx]; exact h3, ?_, fun k hk hk2 => ?_, h6, h7, by simp only [setPx, List.length_set]; exact h8⟩, .inl (by simp)⟩
      · simp only
        unfold setPx
        rw [show sr.length - 1 = rows - 1 from by omega, List.take_set, h4]
        congr 2
        rw [← h4, List.getD_eq_getElem?_getD, List.getD_eq_getElem?_getD, List.getElem?_take, if_pos (by omega)]
      · simp only at hk ⊢
        unfold setPx
        rw [getD_set_other _ _ _ _ _ (by omega)]
        exact h5 k hk hk2
    · rw [if_neg hp, if_neg (fun hh => hp ⟨hh.1, by rw [← h7 hh.2.2.1]; exact hh.2.1, hh.2.2.2⟩)]
      exact ⟨⟨h1, h2, h3, h4, h5, h6, h7, h8⟩, .inl (by simp)⟩

theorem alike_at (R : List RecM) (k : Nat) : Alike (makeAt R k) (refAt R k) := by
  induction k with
  | zero => exact alike_new R
  | succ k ih => exact (feed_alike _ _ k _ ih).1
theorem told_at (R : List RecM) (k : Nat) :
    (toldAt R k = none ∧ (refAt R (k + 1)).outs = (refAt R k).outs ∧ (refAt R (k + 1)).ats = (refAt R k).ats) ∨
     ∃ G, toldAt R k = some G ∧ (refAt R (k + 1)).outs = (refAt R k).outs ++ [G] ∧ (refAt R (k + 1)).ats = (refAt R k).ats ++ [(k : Int)] := (feed_alike _ _ k _ (alike_at R k)).2
theorem outs_ats (R : List RecM) (k : Nat) : (refAt R k).outs.length = (refAt R k).ats.length := by
  induction k with
  | zero => rfl
  | succ k ih => rcases told_at R k with ⟨_, h1, h2⟩ | ⟨G, _, h1, h2⟩ <;> rw [h1, h2] <;> simp [ih]
theorem later (R : List RecM) (k d : Nat) : ∃ tl ta, (refAt R (k + d)).outs = (refAt R k).outs ++ tl ∧ (refAt R (k + d)).ats = (refAt R k).ats ++ ta ∧ ∀ x ∈ ta, (k : Int) ≤ x := by
  induction d with
  | zero => exact ⟨[], [], by simp, by simp, by simp⟩
  | succ d ih =>
    obtain ⟨tl, ta, h1, h2, h3⟩ := ih
    rcases told_at R (k + d) with ⟨_, g1, g2⟩ | ⟨G, _, g1, g2⟩
    · exact ⟨tl, ta, by rw [← Nat.add_assoc, g1, h1], by rw [← Nat.add_assoc, g2, h2], h3⟩
    · refine ⟨tl ++ [G], ta ++ [((k + d : Nat) : Int)], by rw [← Nat.add_assoc, g1, h1, List.append_assoc], by rw [← Nat.add_assoc, g2, h2, List.append_assoc], fun x hx => ?_⟩
      rcases List.mem_append.1 hx with hx | hx
      · exact h3 x hx
      · simp at hx; omega
/-- Not told: what stands next comes later. -/
theorem not_told (R : List RecM) (k N : Nat) (hk : k < N) (h : toldAt R k = none) : (refAt R (k + 1)).outs.length = (refAt R k).outs.length ∧ ((refAt R k).outs.length < (refAt R N).ats.length → (refAt R N).ats.getD (refAt R k).outs.length 0 ≠ k) := by
  rcases told_at R k with ⟨_, g1, g2⟩ | ⟨G, g0, g1, g2⟩
  · refine ⟨by rw [g1], fun hl => ?_⟩
    obtain ⟨tl, ta, h1, h2, h3⟩ := later R (k + 1) (N - (k + 1))
    rw [show k + 1 + (N - (k + 1)) = N from by omega] at h2
    rw [g2] at h2
    have ho := outs_ats R k
    rw [h2, ho, List.getD_eq_getElem?_getD, List.getElem?_append_right (Nat.le_refl _), Nat.sub_self]
    rw [h2, ho, List.length_append] at hl
    have hta : 0 < ta.length := by omega
    rw [List.getElem?_eq_getElem hta]
    have := h3 _ (List.getElem_mem hta)
    simp only [Option.getD_some]; omega
  · rw [h] at g0; cases g0
theorem is_told (R : List RecM) (k N : Nat) (hk : k < N) (G : List (List Int)) (h : toldAt R k = some G) : (refAt R (k + 1)).outs.length = (refAt R k).outs.length + 1 ∧ (refAt R k).outs.length < (refAt R N).ats.length ∧
    (refAt R N).ats.getD (refAt R k).outs.length 0 = k ∧ (refAt R N).outs.getD (refAt R k).outs.length [] = G := by
  rcases told_at R k with ⟨g0, _⟩ | ⟨G', g0, g1, g2⟩
  · rw [h] at g0; cases g0
  · rw [h] at g0; cases g0
    obtain ⟨tl, ta, h1, h2, h3⟩ := later R (k + 1) (N - (k + 1))
    rw [show k + 1 + (N - (k + 1)) = N from by omega] at h1 h2
    rw [g1] at h1
    rw [g2] at h2
    have ho := outs_ats R k
    refine ⟨by rw [g1]; simp, by rw [h2, ho]; simp, ?_, ?_⟩
    · rw [h2, ho, List.getD_eq_getElem?_getD]; simp
    · rw [h1, List.getD_eq_getElem?_getD]; simp
theorem rows_at (R : List RecM) (k : Nat) : (makeAt R k).grid.take (makeAt R k).rows = (refAt R k).rows := (alike_at R k).told
end Go.Proofs.Ytgepcdohgiiaaaa
