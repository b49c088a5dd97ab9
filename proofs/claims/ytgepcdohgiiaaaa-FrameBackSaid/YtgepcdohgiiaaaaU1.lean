/- Which picture bytes are: the plain law of a row. -/
import Derived.Test.YtgepcdohgiiaaaaG2
namespace Go.Proofs.Ytgepcdohgiiaaaa
open Go.RowKit Go.Proofs.YtgepcdohgiiaaaaW.PrintWords
open PRd (S91 rd_T91 z91)
set_option linter.unusedSimpArgs false
set_option linter.unusedVariables false

theorem w64 {n : Int} (h0 : -9223372036854775808 ≤ n) (h1 : n < 9223372036854775808) : wrap64 n = n := by unfold wrap64; omega
theorem rd_nat (xs : List Int) (i : Nat) : rd xs (i : Int) = xs.getD i 0 := by unfold rd; rw [Int.toNat_natCast]
theorem byte_at {xs : List Int} (h : Bytes xs) (i : Nat) : 0 ≤ xs.getD i 0 ∧ xs.getD i 0 ≤ 255 := by
  rw [List.getD_eq_getElem?_getD]
  cases hg : xs[i]? with
  | none => exact ⟨by decide, by decide⟩
  | some v => exact h v (List.mem_of_getElem? hg)

/-- Runs laid out, behind what is there. -/
def expM (out : List Int) : List S91 → Option (List Int)
  | [] => some out
  | r :: rs => if r.f1 < 1 then none else if 160 < (out.length : Int) + r.f1 then none else expM (out ++ List.replicate r.f1.toNat r.f0) rs
theorem expM_append (a b : List S91) : ∀ out, expM out (a ++ b) = (expM out a).bind fun o => expM o b := by
  induction a with
  | nil => intro out; rfl
  | cons r rs ih =>
    intro out
    simp only [List.cons_append, expM]
    split
    · rfl
    · split
      · rfl
      · exact ih _
theorem expM_le (a : List S91) : ∀ out o, out.length ≤ 160 → expM out a = some o → o.length ≤ 160 := by
  induction a with
  | nil => intro out o h e; simp only [expM, Option.some.injEq] at e; rw [← e]; exact h
  | cons r rs ih =>
    intro out o h e
    simp only [expM] at e
    split at e
    · cases e
    · split at e
      · cases e
      · refine ih _ _ ?_ e
        simp; omega

/-- cell.Unpack, from a run on. -/
theorem unpack_l0 (rs : List S91) (d : Nat) : ∀ (k i : Nat) (out : List Int), i + d = rs.length → d < k → rs.length ≤ 1000000 → out.length ≤ 160 →
    (∃ o, expM out (rs.drop i) = some o ∧ PRd.cell_Unpack_uint8.l0 k 160 out rs rs.length i = some (o, 0)) ∨
    (expM out (rs.drop i) = none ∧ ∃ e, e ≠ 0 ∧ PRd.cell_Unpack_uint8.l0 k 160 out rs rs.length i = some ([], e)) := by
  induction d with
  | zero =>
    intro k i out hi hk hl ho
    obtain ⟨k, rfl⟩ : ∃ m, k = m + 1 := ⟨k - 1, by omega⟩
    refine .inl ⟨out, by rw [List.drop_of_length_le (by omega)]; rfl, ?_⟩
    simp only [PRd.cell_Unpack_uint8.l0]; rw [if_neg (by omega)]
  | succ d ih =>
    intro k i out hi hk hl ho
    obtain ⟨k, rfl⟩ : ∃ m, k = m + 1 := ⟨k - 1, by omega⟩
    have hlt : i < rs.length := by omega
    have hr : rd_T91 rs (i : Int) = rs[i] := by unfold rd_T91; rw [Int.toNat_natCast]; simp [List.getD_eq_getElem?_getD, hlt]
    have hd : rs.drop i = rs[i] :: rs.drop (i + 1) := List.drop_eq_getElem_cons hlt
    have hw : wrap64 ((i : Int) + 1) = ((i + 1 : Nat) : Int) := by rw [w64 (by omega) (by omega)]; omega
    rw [hd]
    simp only [PRd.cell_Unpack_uint8.l0, expM]
    rw [if_pos (show (i : Int) < rs.length by omega), if_pos (show (0 : Int) ≤ i by omega), if_pos (show (i : Int) < rs.length by omega), hr]
    generalize rs[i] = r
    by_cases h1 : r.f1 < 1
    · rw [if_pos h1, if_pos h1]; exact .inr ⟨rfl, 6, by decide, rfl⟩
    · rw [if_neg h1, if_neg h1, if_neg (show ¬ (160 : Int) < 0 by decide), w64 (by omega) (by omega)]
      by_cases h2 : 160 < (out.length : Int) + r.f1
      · rw [if_pos (show r.f1 > 160 - (out.length : Int) by omega), if_pos h2]; exact .inr ⟨rfl, 13, by decide, rfl⟩
      · rw [if_neg (show ¬ r.f1 > 160 - (out.length : Int) by omega), if_neg h2]
        have hrep : PRd.slices_Repeat_uint8_uint8.f [r.f0] r.f1 = some (List.replicate r.f1.toNat r.f0) := by
          unfold PRd.slices_Repeat_uint8_uint8.f repeatF
          rw [if_pos ⟨rfl, by omega, by omega⟩]; rfl
        rw [hrep]
        simp only [Option.bind_some]
        rw [if_pos (by simp; omega), hw]
        exact ih k (i + 1) _ (by omega) (by omega) hl (by simp; omega)
theorem unpack_f (rs : List S91) (k : Nat) (hk : rs.length < k) (hl : rs.length ≤ 1000000) :
    (∃ o, expM [] rs = some o ∧ PRd.cell_Unpack_uint8.f k rs 160 = some (o, 0)) ∨ (expM [] rs = none ∧ ∃ e, e ≠ 0 ∧ PRd.cell_Unpack_uint8.f k rs 160 = some ([], e)) := by
  have := unpack_l0 rs rs.length k 0 [] (by omega) hk hl (by simp)
  rw [List.drop_zero] at this
  exact this

/-- The runs of a row's bytes. -/
def rl (b : List Int) (j : Nat) : List S91 := (List.range j).map fun i => ⟨b.getD (2 * i + 2) 0, b.getD (2 * i + 1) 0⟩
theorem rl_succ (b : List Int) (j : Nat) : rl b (j + 1) = rl b j ++ [⟨b.getD (2 * j + 2) 0, b.getD (2 * j + 1) 0⟩] := by simp [rl, List.range_succ]
theorem rl_len (b : List Int) (j : Nat) : (rl b j).length = j := by simp [rl]
theorem rl_last (b : List Int) (j : Nat) : rd_T91 (rl b (j + 1)) (j : Int) = ⟨b.getD (2 * j + 2) 0, b.getD (2 * j + 1) 0⟩ := by
  unfold rd_T91; rw [Int.toNat_natCast, rl_succ, List.getD_eq_getElem?_getD, List.getElem?_append_right (by rw [rl_len]; omega), rl_len]; simp
def adjB (b : List Int) (n : Nat) : Prop := ∀ i, 0 < i → i < n → b.getD (2 * i) 0 ≠ b.getD (2 * i + 2) 0
/-- A row of bytes, and what stands behind it. -/
def rowM (b : List Int) (o rest : List Int) : Prop :=
  1 ≤ b.length ∧ 1 + 2 * (b.getD 0 0).toNat ≤ b.length ∧ adjB b (b.getD 0 0).toNat ∧ expM [] (rl b (b.getD 0 0).toNat) = some o ∧ o.length = 160 ∧ rest = b.drop (1 + 2 * (b.getD 0 0).toNat)

theorem row_l0 (b : List Int) (hb : Bytes b) (n : Nat) (hn : 1 + 2 * n ≤ b.length) (hl : b.length ≤ 1000000) (d : Nat) : ∀ (k j : Nat), j + d = n → d + n + 1 < k → adjB b j →
    (∃ o, adjB b n ∧ expM [] (rl b n) = some o ∧ o.length = 160 ∧ PRd.frame_row.l0 k b ((1 + 2 * n : Nat) : Int) (rl b j) ((1 + 2 * j : Nat) : Int) = some (o, b.drop (1 + 2 * n))) ∨
    ((¬ (adjB b n ∧ ∃ o, expM [] (rl b n) = some o ∧ o.length = 160)) ∧ PRd.frame_row.l0 k b ((1 + 2 * n : Nat) : Int) (rl b j) ((1 + 2 * j : Nat) : Int) = some ([], [])) := by
  induction d with
  | zero =>
    intro k j hj hk ha
    obtain ⟨k, rfl⟩ : ∃ m, k = m + 1 := ⟨k - 1, by omega⟩
    obtain rfl : j = n := by omega
    simp only [PRd.frame_row.l0]
    rw [if_neg (by omega)]
    rcases unpack_f (rl b j) k (by rw [rl_len]; omega) (by rw [rl_len]; omega) with ⟨o, h1, h2⟩ | ⟨h1, e, he, h2⟩
    · rw [h2]
      simp only [Option.bind_some, if_true]
      by_cases h160 : o.length = 160
      · refine .inl ⟨o, ha, h1, h160, ?_⟩
        rw [if_pos (by omega), if_pos (by omega), if_pos (by omega), Int.toNat_natCast]
      · refine .inr ⟨fun ⟨_, o', h3, h4⟩ => ?_, ?_⟩
        · rw [h1] at h3; injection h3 with h3; exact h160 (by rw [h3]; exact h4)
        · rw [if_neg (by omega)]
    · rw [h2]
      simp only [Option.bind_some]
      rw [if_neg he]
      exact .inr ⟨fun ⟨_, o', h3, h4⟩ => (by rw [h1] at h3; cases h3), rfl⟩
  | succ d ih =>
    intro k j hj hk ha
    obtain ⟨k, rfl⟩ : ∃ m, k = m + 1 := ⟨k - 1, by omega⟩
    have hjn : j < n := by omega
    have w1 : wrap64 (((1 + 2 * j : Nat) : Int) + 1) = ((2 * j + 2 : Nat) : Int) := by rw [w64 (by omega) (by omega)]; omega
    have w2 : wrap64 (((1 + 2 * j : Nat) : Int) + 2) = ((1 + 2 * (j + 1) : Nat) : Int) := by rw [w64 (by omega) (by omega)]; omega
    have hbj := byte_at hb (1 + 2 * j)
    have hne : rl b j ++ [⟨rd b ((2 * j + 2 : Nat) : Int), wrap64 (rd b ((1 + 2 * j : Nat) : Int))⟩] = rl b (j + 1) := by
      rw [rl_succ, rd_nat, rd_nat, w64 (by omega) (by omega), Nat.add_comm 1 (2 * j)]
    simp only [PRd.frame_row.l0]
    rw [if_pos (show ((1 + 2 * j : Nat) : Int) < ((1 + 2 * n : Nat) : Int) by omega), rl_len, w1, w2, hne]
    by_cases hj0 : j = 0
    · subst hj0
      rw [if_neg (by omega), if_pos (by omega), if_pos (by omega), if_pos (by omega), if_pos (by omega), if_pos (by omega)]
      exact ih k 1 (by omega) (by omega) (fun i h1 h2 => by omega)
    · obtain ⟨i, rfl⟩ : ∃ i, j = i + 1 := ⟨j - 1, by omega⟩
      have w3 : wrap64 (((i + 1 : Nat) : Int) - 1) = (i : Int) := by rw [w64 (by omega) (by omega)]; omega
      rw [w3, rl_last, rd_nat]
      rw [if_pos (by omega), if_pos (by omega), if_pos (by omega), if_pos (by omega), if_pos (by omega)]
      by_cases he : b.getD (2 * i + 2) 0 = b.getD (2 * (i + 1) + 2) 0
      · rw [if_pos he]
        exact .inr ⟨fun ⟨h, _⟩ => h (i + 1) (by omega) hjn he, rfl⟩
      · rw [if_neg he, if_pos (by omega), if_pos (by omega), if_pos (by omega)]
        refine ih k (i + 1 + 1) (by omega) (by omega) (fun q h1 h2 => ?_)
        by_cases hq : q < i + 1
        · exact ha q h1 hq
        · obtain rfl : q = i + 1 := by omega
          exact he
theorem row_f (b : List Int) (hb : Bytes b) (hl : b.length ≤ 1000000) (k : Nat) (hk : 1000 ≤ k) :
    (∃ o rest, rowM b o rest ∧ PRd.frame_row.f k b = some (o, rest)) ∨ ((¬ ∃ o rest, rowM b o rest) ∧ PRd.frame_row.f k b = some ([], [])) := by
  obtain ⟨k, rfl⟩ : ∃ m, k = m + 1 := ⟨k - 1, by omega⟩
  unfold PRd.frame_row.f
  by_cases h1 : b.length < 1
  · rw [if_pos (by omega)]
    refine .inr ⟨fun ⟨o, r, h⟩ => by have := h.1; omega, ?_⟩
    simp only [PRd.frame_row.j0, if_true]
  · have hb0 := byte_at hb 0
    have hr0 : rd b 0 = b.getD 0 0 := rd_nat b 0
    obtain ⟨n, hn⟩ : ∃ n : Nat, b.getD 0 0 = n := ⟨(b.getD 0 0).toNat, by omega⟩
    have hw : wrap64 (1 + wrap64 (2 * wrap64 (rd b 0))) = ((1 + 2 * n : Nat) : Int) := by
      rw [hr0, hn, w64 (n := (n : Int)) (by omega) (by omega), w64 (n := 2 * (n : Int)) (by omega) (by omega), w64 (by omega) (by omega)]; omega
    rw [if_neg (by omega), if_pos (by omega), hw]
    have hnn : (b.getD 0 0).toNat = n := by omega
    by_cases h2 : b.length < 1 + 2 * n
    · rw [decide_eq_true (by omega)]
      refine .inr ⟨fun ⟨o, r, h⟩ => by have := h.2.1; rw [hnn] at this; omega, ?_⟩
      simp only [PRd.frame_row.j0, if_true]
    · rw [decide_eq_false (by omega)]
      simp only [PRd.frame_row.j0, Bool.false_eq_true, if_false]
      rw [if_pos (by omega), hw]
      rcases row_l0 b hb n (by omega) hl n k 0 (by omega) (by omega) (fun i _ h => by omega) with ⟨o, g1, g2, g3, g4⟩ | ⟨g1, g2⟩
      · refine .inl ⟨o, _, ⟨by omega, by rw [hnn]; omega, by rw [hnn]; exact g1, by rw [hnn]; exact g2, g3, by rw [hnn]⟩, ?_⟩
        exact g4
      · refine .inr ⟨fun ⟨o, r, h⟩ => g1 ?_, g2⟩
        obtain ⟨_, _, q1, q2, q3, _⟩ := h
        rw [hnn] at q1 q2
        exact ⟨q1, o, q2, q3⟩
theorem rowM_unique {b o rest o' rest' : List Int} (h : rowM b o rest) (h' : rowM b o' rest') : o = o' ∧ rest = rest' := by
  obtain ⟨_, _, _, h1, _, h2⟩ := h
  obtain ⟨_, _, _, g1, _, g2⟩ := h'
  rw [h1] at g1; injection g1 with g1
  exact ⟨g1, by rw [h2, g2]⟩
end Go.Proofs.Ytgepcdohgiiaaaa
