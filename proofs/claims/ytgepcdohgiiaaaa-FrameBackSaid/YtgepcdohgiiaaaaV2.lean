/- Pictures' bytes, there and back: the plain law. -/
import Derived.Test.YtgepcdohgiiaaaaV1
namespace Go.Proofs.Ytgepcdohgiiaaaa
open Go.RowKit Go.Proofs.YtgepcdohgiiaaaaW.PrintWords
open PRd (S91 rd_T91 z91)
set_option linter.unusedSimpArgs false
set_option linter.unusedVariables false

theorem flat_cons (r : S91) (rs : List S91) : flatM (r :: rs) = List.replicate r.f1.toNat r.f0 ++ flatM rs := by simp [flatM]
theorem exp_flat (rs : List S91) : ∀ out, (∀ r ∈ rs, 1 ≤ r.f1) → out.length + (flatM rs).length ≤ 160 → expM out rs = some (out ++ flatM rs) := by
  induction rs with
  | nil => intro out _ _; simp [expM, flatM]
  | cons r rs ih =>
    intro out h hl
    have h1 := h r (by simp)
    rw [flat_cons, List.length_append, List.length_replicate] at hl
    simp only [expM]
    rw [if_neg (by omega), if_neg (by omega), ih _ (fun x hx => h x (by simp [hx])) (by rw [List.length_append, List.length_replicate]; omega), flat_cons, List.append_assoc]
theorem exp_back (rs : List S91) : ∀ out o, expM out rs = some o → o = out ++ flatM rs ∧ ∀ r ∈ rs, 1 ≤ r.f1 := by
  induction rs with
  | nil => intro out o h; simp only [expM, Option.some.injEq] at h; exact ⟨by rw [← h]; simp [flatM], fun r hr => absurd hr (by simp)⟩
  | cons r rs ih =>
    intro out o h
    simp only [expM] at h
    split at h
    · cases h
    · split at h
      · cases h
      · obtain ⟨h1, h2⟩ := ih _ _ h
        refine ⟨by rw [h1, flat_cons, List.append_assoc], fun x hx => ?_⟩
        rcases List.mem_cons.1 hx with rfl | hx
        · omega
        · exact h2 x hx
theorem runs_le (rs : List S91) (h : ∀ r ∈ rs, 1 ≤ r.f1) : rs.length ≤ (flatM rs).length ∧ ∀ r ∈ rs, r.f1 ≤ (flatM rs).length := by
  induction rs with
  | nil => exact ⟨by simp, fun r hr => absurd hr (by simp)⟩
  | cons r rs ih =>
    obtain ⟨h1, h2⟩ := ih (fun x hx => h x (by simp [hx]))
    have hr := h r (by simp)
    rw [flat_cons, List.length_append, List.length_replicate]
    refine ⟨by simp; omega, fun x hx => ?_⟩
    rcases List.mem_cons.1 hx with rfl | hx
    · omega
    · have := h2 x hx; omega
def runBytes (rs : List S91) : List Int := rs.flatMap fun r => [r.f1 % 256, r.f0]
theorem runBytes_len (rs : List S91) : (runBytes rs).length = 2 * rs.length := by
  induction rs with
  | nil => rfl
  | cons r rs ih =>
    have : runBytes (r :: rs) = [r.f1 % 256, r.f0] ++ runBytes rs := by simp [runBytes]
    rw [this, List.length_append, ih]; simp; omega
theorem runBytes_get (rs : List S91) : ∀ i, i < rs.length → (runBytes rs).getD (2 * i) 0 = (rd_T91 rs (i : Int)).f1 % 256 ∧ (runBytes rs).getD (2 * i + 1) 0 = (rd_T91 rs (i : Int)).f0 := by
  induction rs with
  | nil => intro i hi; simp at hi
  | cons r rs ih =>
    intro i hi
    have e : runBytes (r :: rs) = (r.f1 % 256) :: r.f0 :: runBytes rs := by simp [runBytes]
    rw [e]
    cases i with
    | zero => exact ⟨rfl, rfl⟩
    | succ i =>
      have := ih i (by simpa using hi)
      have e2 : rd_T91 (r :: rs) ((i + 1 : Nat) : Int) = rd_T91 rs (i : Int) := by unfold rd_T91; rw [Int.toNat_natCast, Int.toNat_natCast]; rfl
      rw [e2, show 2 * (i + 1) = 2 * i + 1 + 1 from by omega]
      exact this
/-- A row's bytes. -/
def packRow (o : List Int) : List Int := ((pkM o).length : Int) % 256 :: runBytes (pkM o)
theorem packRow_reads {o rest : List Int} (h : o.length = 160) : rowM (packRow o ++ rest) o rest := by
  obtain ⟨hv, hf⟩ := pk_ok o
  obtain ⟨h1, h2⟩ := runs_le (pkM o) hv.1
  rw [hf, h] at h1 h2
  obtain ⟨n, hn⟩ : ∃ n, n = (pkM o).length := ⟨_, rfl⟩
  have hg0 : (packRow o ++ rest).getD 0 0 = (n : Int) := by
    show ((pkM o).length : Int) % 256 = _
    rw [← hn]; omega
  have hn0 : ((packRow o ++ rest).getD 0 0).toNat = n := by rw [hg0]; omega
  have hl : (packRow o ++ rest).length = 1 + 2 * n + rest.length := by
    rw [List.length_append]; unfold packRow; rw [List.length_cons, runBytes_len]; omega
  have hget : ∀ j, j < 2 * n → (packRow o ++ rest).getD (j + 1) 0 = (runBytes (pkM o)).getD j 0 := fun j hj => by
    unfold packRow
    rw [List.cons_append, List.getD_cons_succ, List.getD_eq_getElem?_getD, List.getElem?_append_left (by rw [runBytes_len]; omega), ← List.getD_eq_getElem?_getD]
  have hrl : rl (packRow o ++ rest) n = pkM o := by
    refine List.ext_getElem (by rw [rl_len, hn]) fun i g1 g2 => ?_
    rw [rl_len] at g1
    have hr : rd_T91 (pkM o) (i : Int) = (pkM o)[i] := by unfold rd_T91; rw [Int.toNat_natCast, List.getD_eq_getElem?_getD, List.getElem?_eq_getElem g2]; rfl
    obtain ⟨q1, q2⟩ := runBytes_get (pkM o) i g2
    rw [hr] at q1 q2
    have b1 := hv.1 _ (List.getElem_mem g2)
    have b2 := h2 _ (List.getElem_mem g2)
    simp only [rl, List.getElem_map, List.getElem_range]
    rw [show 2 * i + 2 = (2 * i + 1) + 1 from rfl, hget _ (by omega), hget _ (by omega), q1, q2]
    rw [show (pkM o)[i].f1 % 256 = (pkM o)[i].f1 from by omega]
  refine ⟨by omega, by rw [hn0]; omega, ?_, ?_, h, ?_⟩
  · rw [hn0]
    intro i h3 h4
    have := hv.2 (i - 1) (by omega)
    rw [show i - 1 + 1 = i from by omega] at this
    rw [show 2 * i = (2 * (i - 1) + 1) + 1 from by omega, hget _ (by omega), (runBytes_get _ (i - 1) (by omega)).2]
    rw [show 2 * (i - 1) + 1 + 1 + 2 = (2 * i + 1) + 1 from by omega, hget _ (by omega), (runBytes_get _ i (by omega)).2]
    exact this
  · rw [hn0, hrl, exp_flat _ _ hv.1 (by rw [hf, h]; simp), hf]; rfl
  · rw [hn0, List.drop_append_of_le_length (by unfold packRow; rw [List.length_cons, runBytes_len]; omega), List.drop_of_length_le (by unfold packRow; rw [List.length_cons, runBytes_len]; omega)]
    rfl
theorem row_back {b o rest : List Int} (hb : Bytes b) (h : rowM b o rest) : b = packRow o ++ rest := by
  obtain ⟨h1, h2, h3, h4, h5, h6⟩ := h
  have hb0 := byte_at hb 0
  obtain ⟨n, hn⟩ : ∃ n : Nat, b.getD 0 0 = n := ⟨(b.getD 0 0).toNat, by omega⟩
  rw [hn, Int.toNat_natCast] at h2 h3 h4 h6
  obtain ⟨g1, g2⟩ := exp_back _ _ _ h4
  rw [List.nil_append] at g1
  have hget : ∀ i, i < n → rd_T91 (rl b n) (i : Int) = ⟨b.getD (2 * i + 2) 0, b.getD (2 * i + 1) 0⟩ := fun i hi => by
    unfold rd_T91; rw [Int.toNat_natCast, List.getD_eq_getElem?_getD]; simp [rl, hi]
  have hv : Valid (rl b n) := ⟨g2, fun i hi => by
    rw [rl_len] at hi
    rw [hget i (by omega), hget (i + 1) hi]
    have := h3 (i + 1) (by omega) hi
    exact this⟩
  have hpk : pkM o = rl b n := by rw [g1]; exact pk_flat _ hv
  have hlen : (packRow o).length = 1 + 2 * n := by unfold packRow; rw [List.length_cons, runBytes_len, hpk, rl_len]; omega
  refine List.ext_getElem (by rw [List.length_append, hlen, h6, List.length_drop]; omega) fun i g3 g4 => ?_
  have hq : ∀ j (hj : j < b.length), b[j] = b.getD j 0 := fun j hj => by rw [List.getD_eq_getElem?_getD, List.getElem?_eq_getElem hj]; rfl
  by_cases hi : i < 1 + 2 * n
  · rw [List.getElem_append_left (by omega), hq i g3]
    have hp : ∀ j (hj : j < (packRow o).length), (packRow o)[j] = (packRow o).getD j 0 := fun j hj => by rw [List.getD_eq_getElem?_getD, List.getElem?_eq_getElem hj]; rfl
    rw [hp]
    unfold packRow
    rw [hpk, rl_len]
    rcases Nat.eq_zero_or_pos i with rfl | hpos
    · rw [hn]; show (n : Int) = (n : Int) % 256; omega
    · obtain ⟨j, rfl⟩ : ∃ j, i = j + 1 := ⟨i - 1, by omega⟩
      rw [List.getD_cons_succ]
      rcases Nat.mod_two_eq_zero_or_one j with e | e
      · obtain ⟨q, rfl⟩ : ∃ q, j = 2 * q := ⟨j / 2, by omega⟩
        rw [(runBytes_get _ q (by rw [rl_len]; omega)).1, hget q (by omega)]
        have := byte_at hb (2 * q + 1)
        simp only; omega
      · obtain ⟨q, rfl⟩ : ∃ q, j = 2 * q + 1 := ⟨j / 2, by omega⟩
        rw [(runBytes_get _ q (by rw [rl_len]; omega)).2, hget q (by omega)]
  · rw [List.getElem_append_right (by omega)]
    simp only [h6, List.getElem_drop, hlen]
    congr 1; omega
/-- A picture's bytes. -/
def packM (G : List (List Int)) : List Int := [(G.length : Int) % 256, (G.length : Int) / 256 % 256] ++ G.flatMap packRow
theorem rows_reads (G : List (List Int)) (h : ∀ r ∈ G, r.length = 160) : rowsM G.length (G.flatMap packRow) G := by
  induction G with
  | nil => exact ⟨rfl, rfl⟩
  | cons o G ih => exact ⟨o, _, G, by rw [List.flatMap_cons]; exact packRow_reads (h o (by simp)), ih (fun r hr => h r (by simp [hr])), rfl⟩
theorem pack_reads (G : List (List Int)) (h : ∀ r ∈ G, r.length = 160) (hl : G.length ≤ 320) : unpackM (packM G) G := by
  have hc : cntM (packM G) = G.length := by
    unfold cntM packM
    show (((G.length : Int) % 256) + 256 * ((G.length : Int) / 256 % 256)).toNat = _
    omega
  exact ⟨by unfold packM; simp, by omega, by rw [hc]; exact rows_reads G h⟩
theorem rows_back (n : Nat) : ∀ b G, Bytes b → rowsM n b G → b = G.flatMap packRow ∧ G.length = n ∧ ∀ r ∈ G, r.length = 160 := by
  induction n with
  | zero => rintro b G _ ⟨h, rfl⟩; exact ⟨List.eq_nil_of_length_eq_zero h, rfl, fun r hr => absurd hr (by simp)⟩
  | succ n ih =>
    rintro b G hb ⟨o, r, G', h1, h2, rfl⟩
    have e := row_back hb h1
    have hr : Bytes r := fun x hx => hb x (by rw [e]; simp [hx])
    obtain ⟨q1, q2, q3⟩ := ih _ _ hr h2
    refine ⟨by rw [e, List.flatMap_cons, ← q1], by simp [q2], fun x hx => ?_⟩
    rcases List.mem_cons.1 hx with rfl | hx
    · exact h1.2.2.2.2.1
    · exact q3 x hx
theorem pack_back {b : List Int} {G : List (List Int)} (hb : Bytes b) (h : unpackM b G) : packM G = b ∧ G.length ≤ 320 ∧ ∀ r ∈ G, r.length = 160 := by
  obtain ⟨h1, h2, h3⟩ := h
  obtain ⟨q1, q2, q3⟩ := rows_back _ _ _ (bytes_drop hb 2) h3
  refine ⟨?_, by omega, q3⟩
  unfold packM
  rw [← q1, q2]
  have b0 := byte_at hb 0
  have b1 := byte_at hb 1
  match b, h1 with
  | x :: y :: t, _ =>
    have e0 : (x :: y :: t).getD 0 0 = x := rfl
    have e1 : (x :: y :: t).getD 1 0 = y := rfl
    rw [e0] at b0
    rw [e1] at b1
    have hc : cntM (x :: y :: t) = (x + 256 * y).toNat := rfl
    rw [hc]
    show [((x + 256 * y).toNat : Int) % 256, ((x + 256 * y).toNat : Int) / 256 % 256] ++ t = _
    rw [show ((x + 256 * y).toNat : Int) % 256 = x from by omega, show ((x + 256 * y).toNat : Int) / 256 % 256 = y from by omega]
    rfl
end Go.Proofs.Ytgepcdohgiiaaaa
