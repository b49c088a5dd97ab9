/- What Pack computes: the plain law. -/
import Derived.Test.YtgepcdohgiiaaaaV2
namespace Go.Proofs.Ytgepcdohgiiaaaa
open Go.RowKit Go.Proofs.YtgepcdohgiiaaaaW.PrintWords
open PRd (S91 rd_T91 z91)
set_option linter.unusedSimpArgs false
set_option linter.unusedVariables false

theorem set_last (L : List S91) (q r : S91) : (L ++ [q]).set L.length r = L ++ [r] := by
  rw [List.set_append_right _ _ (Nat.le_refl _)]; simp
theorem cpack_l0 (l : List Int) (hl : l.length ≤ 1000000) (d : Nat) : ∀ (k i : Nat) (rs : List S91), i + d = l.length → d < k → rs.length ≤ i → (∀ r ∈ rs, 0 ≤ r.f1 ∧ r.f1 ≤ i) →
    PRd.cell_Pack_uint8.l0 k rs l l.length i = some ((l.drop i).foldl pkStep rs) := by
  induction d with
  | zero =>
    intro k i rs hi hk hr hb
    obtain ⟨k, rfl⟩ : ∃ m, k = m + 1 := ⟨k - 1, by omega⟩
    simp only [PRd.cell_Pack_uint8.l0]
    rw [if_neg (by omega), List.drop_of_length_le (by omega)]; rfl
  | succ d ih =>
    intro k i rs hi hk hr hb
    obtain ⟨k, rfl⟩ : ∃ m, k = m + 1 := ⟨k - 1, by omega⟩
    have hlt : i < l.length := by omega
    have hd : l.drop i = l[i] :: l.drop (i + 1) := List.drop_eq_getElem_cons hlt
    have hx : rd l (i : Int) = l[i] := by rw [rd_nat, List.getD_eq_getElem?_getD, List.getElem?_eq_getElem hlt]; rfl
    have w1 := Lib.hid (show wrap64 ((i : Int) + 1) = ((i + 1 : Nat) : Int) from by rw [w64 (by omega) (by omega)]; omega)
    rw [hd, List.foldl_cons]
    simp only [PRd.cell_Pack_uint8.l0]
    rw [if_pos (by omega), if_pos (by omega), if_pos (by omega), hx, w1.out]
    generalize l[i] = x
    clear hx hd
    rcases List.eq_nil_or_concat rs with rfl | ⟨L, q, rfl⟩
    · have w2 := Lib.hid (show wrap64 (((([] : List S91).length : Nat) : Int) - 1) = -1 from by rw [w64 (by simp) (by simp)]; rfl)
      rw [w2.out, if_neg (by decide), if_pos (by simp)]
      exact ih k (i + 1) _ (by omega) (by omega) (by simp) (fun r hr => by simp at hr; rw [hr]; simp only; omega)
    · rw [List.concat_eq_append] at hr hb ⊢
      have hq := hb q (by simp)
      have hLl : L.length + 1 ≤ i := by simpa using hr
      have hll : ((L ++ [q]).length : Nat) = L.length + 1 := by simp
      have w2 := Lib.hid (show wrap64 (((L ++ [q]).length : Nat) - 1 : Int) = (L.length : Int) from by rw [hll, w64 (by omega) (by omega)]; omega)
      have w3 := Lib.hid (show wrap64 (q.f1 + 1) = q.f1 + 1 from w64 (by omega) (by omega))
      rw [w2.out, if_pos (by omega), if_pos (by omega), if_pos (by rw [hll]; omega), rdT_last, w3.out, Int.toNat_natCast, set_last, pk_snoc]
      by_cases he : q.f0 = x
      · rw [if_pos he, if_pos he, he]
        refine ih k (i + 1) _ (by omega) (by omega) (by simp; omega) (fun r hr => ?_)
        rcases List.mem_append.1 hr with hr | hr
        · have := hb r (by simp [hr]); omega
        · simp at hr; rw [hr]; simp only; omega
      · rw [if_neg he, if_neg he, if_pos (by rw [hll]; omega)]
        refine ih k (i + 1) _ (by omega) (by omega) (by simp; omega) (fun r hr => ?_)
        rcases List.mem_append.1 hr with hr | hr
        · have := hb r hr; omega
        · simp at hr; rw [hr]; simp only; omega
theorem cpack_f (l : List Int) (hl : l.length ≤ 1000000) (k : Nat) (hk : l.length < k) : PRd.cell_Pack_uint8.f k l = some (pkM l) := by
  have := cpack_l0 l hl l.length k 0 [] (by omega) hk (by simp) (fun r hr => absurd hr (by simp))
  rw [List.drop_zero] at this
  exact this
set_option maxHeartbeats 400000 in
theorem fpack_l1 (G : List (List Int)) (y : Nat) (hG : G.length ≤ 320) (hy : y ≤ 320) (rs : List S91) (hrs : rs.length ≤ 160) (d : Nat) : ∀ (k i : Nat) (acc : List Int), i + d = rs.length → d < k → acc.length + 2 * d ≤ 1000000 →
    ∃ k', k' + d + 1 = k ∧ PRd.frame_Pack.l1 k acc G G.length y rs rs.length i = PRd.frame_Pack.l0 k' (acc ++ runBytes (rs.drop i)) G G.length ((y + 1 : Nat) : Int) := by
  induction d with
  | zero =>
    intro k i acc hi hk ha
    obtain ⟨k, rfl⟩ : ∃ m, k = m + 1 := ⟨k - 1, by omega⟩
    have w1 := Lib.hid (show wrap64 ((y : Int) + 1) = ((y + 1 : Nat) : Int) from by rw [w64 (by omega) (by omega)]; omega)
    refine ⟨k, by omega, ?_⟩
    simp only [PRd.frame_Pack.l1]
    rw [if_neg (by omega), List.drop_of_length_le (by omega), w1.out]
    simp [runBytes]
  | succ d ih =>
    intro k i acc hi hk ha
    obtain ⟨k, rfl⟩ : ∃ m, k = m + 1 := ⟨k - 1, by omega⟩
    have hlt : i < rs.length := by omega
    have hr : rd_T91 rs (i : Int) = rs[i] := by unfold rd_T91; rw [Int.toNat_natCast]; simp [List.getD_eq_getElem?_getD, hlt]
    have hd : rs.drop i = rs[i] :: rs.drop (i + 1) := List.drop_eq_getElem_cons hlt
    have w1 := Lib.hid (show wrap64 ((i : Int) + 1) = ((i + 1 : Nat) : Int) from by rw [w64 (by omega) (by omega)]; omega)
    obtain ⟨k', h1, h2⟩ := ih k (i + 1) (acc ++ [rs[i].f1 % 256, rs[i].f0]) (by omega) (by omega) (by simp; omega)
    refine ⟨k', by omega, ?_⟩
    simp only [PRd.frame_Pack.l1]
    rw [if_pos (by omega), if_pos (by omega), if_pos (by omega), hr]
    simp only [Option.bind_some]
    rw [if_pos (by simp; omega), w1.out, h2, hd]
    rw [List.append_assoc]
    rfl
set_option maxHeartbeats 400000 in
theorem fpack_l0 (G : List (List Int)) (hG : G.length ≤ 320) (hrow : ∀ r ∈ G, r.length ≤ 1000000) (d : Nat) : ∀ (k y : Nat) (acc : List Int), y + d = G.length → 400 * d < k → acc.length + 400 * d ≤ 500000 →
    ((∀ r ∈ G.drop y, r.length = 160) → PRd.frame_Pack.l0 k acc G G.length y = some (acc ++ (G.drop y).flatMap packRow, 0)) ∧
    ((¬ ∀ r ∈ G.drop y, r.length = 160) → PRd.frame_Pack.l0 k acc G G.length y = some ([], 4)) := by
  induction d with
  | zero =>
    intro k y acc hy hk ha
    obtain ⟨k, rfl⟩ : ∃ m, k = m + 1 := ⟨k - 1, by omega⟩
    have hd : G.drop y = [] := List.drop_of_length_le (by omega)
    refine ⟨fun _ => ?_, fun h => absurd (fun r hr => absurd hr (by rw [hd]; simp)) h⟩
    simp only [PRd.frame_Pack.l0]
    rw [if_neg (by omega), hd]; simp
  | succ d ih =>
    intro k y acc hy hk ha
    obtain ⟨k, rfl⟩ : ∃ m, k = m + 1 := ⟨k - 1, by omega⟩
    have hlt : y < G.length := by omega
    have hr : PRd.rd_L3 G (y : Int) = G[y] := by unfold PRd.rd_L3; rw [Int.toNat_natCast]; simp [List.getD_eq_getElem?_getD, hlt]
    have hd : G.drop y = G[y] :: G.drop (y + 1) := List.drop_eq_getElem_cons hlt
    rw [hd]
    have hmem : G[y] ∈ G := List.getElem_mem hlt
    have hrl := hrow _ hmem
    simp only [PRd.frame_Pack.l0]
    rw [if_pos (by omega), if_pos (by omega), if_pos (by omega), hr]
    generalize G[y] = row at *
    by_cases h160 : row.length = 160
    · rw [if_pos (by omega), cpack_f row hrl k (by omega)]
      simp only [Option.bind_some]
      rw [if_pos (by omega)]
      obtain ⟨hv, hf⟩ := pk_ok row
      have hle := (runs_le (pkM row) hv.1).1
      rw [hf, h160] at hle
      obtain ⟨k', h1, h2⟩ := fpack_l1 G y hG (by omega) (pkM row) hle (pkM row).length k 0 (acc ++ [((pkM row).length : Int) % 256]) (by omega) (by omega) (by simp; omega)
      have hz : ((0 : Nat) : Int) = 0 := rfl
      rw [hz] at h2
      rw [h2, List.drop_zero]
      have hl2 : (acc ++ [((pkM row).length : Int) % 256] ++ runBytes (pkM row)).length + 400 * d ≤ 500000 := by
        rw [List.length_append, List.length_append, runBytes_len]; simp; omega
      obtain ⟨g1, g2⟩ := ih k' (y + 1) _ (by omega) (by omega) hl2
      refine ⟨fun h => ?_, fun h => g2 (fun h' => h (fun r hr => ?_))⟩
      · rw [g1 (fun r hr => h r (by simp [hr]))]
        rw [List.flatMap_cons, List.append_assoc, List.append_assoc]
        rfl
      · rcases List.mem_cons.1 hr with rfl | hr
        · exact h160
        · exact h' r hr
    · rw [if_neg (by omega)]
      exact ⟨fun h => absurd (h row (by simp)) h160, fun _ => rfl⟩
theorem fpack_f (G : List (List Int)) (hG : G.length ≤ 320) (hrow : ∀ r ∈ G, r.length ≤ 1000000) :
    ((∀ r ∈ G, r.length = 160) → PRd.frame_Pack.f 200000 G = some (packM G, 0)) ∧ ((¬ ∀ r ∈ G, r.length = 160) → PRd.frame_Pack.f 200000 G = some ([], 4)) := by
  have := fpack_l0 G hG hrow G.length 200000 0 [((G.length : Int)) % 256, ((G.length : Int) / 256) % 256] (by omega) (by omega) (by simp; omega)
  rw [List.drop_zero] at this
  unfold PRd.frame_Pack.f
  rw [if_neg (by omega)]
  exact this
end Go.Proofs.Ytgepcdohgiiaaaa
