/- Which picture bytes are: the document's answer, in plain words. -/
import Derived.Test.YtgepcdohgiiaaaaU1
import Derived.Test.YtgepcdohgiiaaaaPRdx4
import Derived.Lib.Hide
namespace Go.Proofs.Ytgepcdohgiiaaaa
open Go.RowKit Go.Proofs.YtgepcdohgiiaaaaW.PrintWords
open PRd (S91 rd_T91 z91)
set_option linter.unusedSimpArgs false
set_option linter.unusedVariables false

def rowsM : Nat → List Int → List (List Int) → Prop
  | 0, b, G => b.length = 0 ∧ G = []
  | n + 1, b, G => ∃ o rest G', rowM b o rest ∧ rowsM n rest G' ∧ G = o :: G'
def cntM (b : List Int) : Nat := (b.getD 0 0 + 256 * b.getD 1 0).toNat
def unpackM (b : List Int) (G : List (List Int)) : Prop := 2 ≤ b.length ∧ cntM b ≤ 320 ∧ rowsM (cntM b) (b.drop 2) G
theorem rowsM_unique (n : Nat) : ∀ b G G', rowsM n b G → rowsM n b G' → G = G' := by
  induction n with
  | zero => intro b G G' h h'; rw [h.2, h'.2]
  | succ n ih =>
    rintro b G G' ⟨o, r, H, h1, h2, rfl⟩ ⟨o', r', H', h1', h2', rfl⟩
    obtain ⟨rfl, rfl⟩ := rowM_unique h1 h1'
    rw [ih _ _ _ h2 h2']
theorem drop_getD (b : List Int) (p i : Nat) : (b.drop p).getD i 0 = b.getD (p + i) 0 := by simp [List.getD_eq_getElem?_getD, List.getElem?_drop]
theorem bytes_drop {b : List Int} (h : Bytes b) (p : Nat) : Bytes (b.drop p) := fun x hx => h x (List.mem_of_mem_drop hx)
theorem expM_last (rs : List S91) (r : S91) (o : List Int) (h : expM [] (rs ++ [r]) = some o) : ∃ o', expM [] rs = some o' ∧ 1 ≤ r.f1 ∧ (o'.length : Int) + r.f1 ≤ 160 ∧ o = o' ++ List.replicate r.f1.toNat r.f0 := by
  rw [expM_append] at h
  cases h1 : expM [] rs with
  | none => rw [h1] at h; cases h
  | some o' =>
    rw [h1] at h
    simp only [Option.bind_some, expM] at h
    split at h
    · cases h
    · split at h
      · cases h
      · injection h with h
        exact ⟨o', rfl, by omega, by omega, h.symm⟩
theorem expM_snoc (rs : List S91) (r : S91) (o : List Int) (h : expM [] rs = some o) (h1 : 1 ≤ r.f1) (h2 : (o.length : Int) + r.f1 ≤ 160) : expM [] (rs ++ [r]) = some (o ++ List.replicate r.f1.toNat r.f0) := by
  rw [expM_append, h]
  simp only [Option.bind_some, expM]
  rw [if_neg (by omega), if_neg (by omega)]
/-- A prefix of runs that cannot be laid out. -/
theorem exp_pre (b : List Int) (j n : Nat) (hj : j ≤ n) : ∀ (o : List Int), expM [] (rl b n) = some o → ∃ o', expM [] (rl b j) = some o' := by
  induction n with
  | zero => intro o h; obtain rfl : j = 0 := (by omega); exact ⟨o, h⟩
  | succ n ih =>
    intro o h
    by_cases e : j = n + 1
    · subst e; exact ⟨o, h⟩
    · rw [rl_succ] at h
      obtain ⟨o', h1, _⟩ := expM_last _ _ _ h
      exact ih (by omega) o' h1

set_option maxHeartbeats 400000 in
theorem ref_l2 (b : List Int) (hb : Bytes b) (hl : b.length ≤ 1000000) (acc : List (List Int)) (x y n j : Nat) (hx : x + 1 < b.length) (hj : j ≤ 1000) (c : Nat) (hc : b.getD x 0 = (c : Int)) (d : Nat) : ∀ (k i : Nat) (row : List Int), i + d = c → d < k → row.length + d ≤ 1000 →
    ∃ k', k' + d + 1 = k ∧ PRd.woodgrainref24_Unpack.l2 k b acc (x : Int) (y : Int) (n : Int) row (j : Int) (i : Int) = PRd.woodgrainref24_Unpack.l1 k' b acc ((x + 2 : Nat) : Int) (y : Int) (n : Int) (row ++ List.replicate d (b.getD (x + 1) 0)) ((j + 1 : Nat) : Int) := by
  have hbx := byte_at hb x
  have w1 : wrap64 ((x : Int) + 1) = ((x + 1 : Nat) : Int) := by rw [w64 (by omega) (by omega)]; omega
  have w2 : wrap64 ((x : Int) + 2) = ((x + 2 : Nat) : Int) := by rw [w64 (by omega) (by omega)]; omega
  have w3 : wrap64 ((j : Int) + 1) = ((j + 1 : Nat) : Int) := by rw [w64 (by omega) (by omega)]; omega
  have w4 : wrap64 (rd b (x : Int)) = (c : Int) := by rw [rd_nat, w64 (by omega) (by omega), hc]
  have W1 := Lib.hid w1
  have W2 := Lib.hid w2
  have W3 := Lib.hid w3
  have W4 := Lib.hid w4
  have hc5 : c ≤ 255 := by omega
  clear w1 w2 w3 w4 hbx hc
  induction d with
  | zero =>
    intro k i row hi hk hr
    obtain ⟨k, rfl⟩ : ∃ m, k = m + 1 := ⟨k - 1, by omega⟩
    refine ⟨k, by omega, ?_⟩
    simp only [PRd.woodgrainref24_Unpack.l2]
    rw [if_pos (by omega), if_pos (by omega), W4.out, if_neg (by omega), W2.out, W3.out]
    simp
  | succ d ih =>
    intro k i row hi hk hr
    obtain ⟨k, rfl⟩ : ∃ m, k = m + 1 := ⟨k - 1, by omega⟩
    have w5 : wrap64 ((i : Int) + 1) = ((i + 1 : Nat) : Int) := by rw [w64 (by omega) (by omega)]; omega
    obtain ⟨k', h1, h2⟩ := ih k (i + 1) (row ++ [b.getD (x + 1) 0]) (by omega) (by omega) (by simp; omega)
    refine ⟨k', by omega, ?_⟩
    simp only [PRd.woodgrainref24_Unpack.l2]
    rw [if_pos (by omega), if_pos (by omega), W4.out, if_pos (by omega), W1.out, if_pos (by omega), if_pos (by omega), if_pos (by omega), rd_nat, w5, h2]
    rw [List.append_assoc, List.singleton_append, ← List.replicate_succ]

set_option maxHeartbeats 400000 in
theorem ref_l1 (b : List Int) (hb : Bytes b) (hl : b.length ≤ 1000000) (acc : List (List Int)) (ha : acc.length ≤ 1000) (p y n m : Nat) (hp : p < b.length) (hn : n ≤ 255) (hy : y ≤ 1000) (d : Nat) : ∀ (k j : Nat) (row : List Int), j + d = n → adjB (b.drop p) j → expM [] (rl (b.drop p) j) = some row → row.length ≤ 160 → 1000 * m + 3 * d + (160 - row.length) + 5 ≤ k →
    p + 1 + 2 * j ≤ b.length →
    (∃ o k', 1000 * m < k' ∧ 1 + 2 * n ≤ (b.drop p).length ∧ adjB (b.drop p) n ∧ expM [] (rl (b.drop p) n) = some o ∧ o.length = 160 ∧
      PRd.woodgrainref24_Unpack.l1 k b acc ((p + 1 + 2 * j : Nat) : Int) (y : Int) (n : Int) row (j : Int) = PRd.woodgrainref24_Unpack.l0 k' b (acc ++ [o]) ((p + 1 + 2 * n : Nat) : Int) ((y + 1 : Nat) : Int)) ∨
    ((¬ (1 + 2 * n ≤ (b.drop p).length ∧ adjB (b.drop p) n ∧ ∃ o, expM [] (rl (b.drop p) n) = some o ∧ o.length = 160)) ∧
      PRd.woodgrainref24_Unpack.l1 k b acc ((p + 1 + 2 * j : Nat) : Int) (y : Int) (n : Int) row (j : Int) = some ([], 9)) := by
  induction d with
  | zero =>
    intro k j row hj hadj hexp hrow hk hle
    obtain ⟨k, rfl⟩ : ∃ m, k = m + 1 := ⟨k - 1, by omega⟩
    obtain rfl : j = n := by omega
    have w1 : wrap64 ((y : Int) + 1) = ((y + 1 : Nat) : Int) := by rw [w64 (by omega) (by omega)]; omega
    simp only [PRd.woodgrainref24_Unpack.l1]
    rw [if_neg (by omega)]
    by_cases h160 : row.length = 160
    · rw [if_pos (by omega), if_pos (by omega), w1]
      exact .inl ⟨row, k, by omega, by rw [List.length_drop]; omega, hadj, hexp, h160, rfl⟩
    · rw [if_neg (by omega)]
      exact .inr ⟨fun ⟨_, _, o, h1, h2⟩ => (by rw [hexp] at h1; injection h1 with h1; exact h160 (by rw [h1]; exact h2)), rfl⟩
  | succ d ih =>
    intro k j row hj hadj hexp hrow hk hle
    obtain ⟨k, rfl⟩ : ∃ m, k = m + 2 := ⟨k - 2, by omega⟩
    obtain ⟨x, hx⟩ : ∃ x, x = p + 1 + 2 * j := ⟨_, rfl⟩
    rw [← hx]
    have w1 : wrap64 ((x : Int) + 1) = ((x + 1 : Nat) : Int) := by rw [w64 (by omega) (by omega)]; omega
    have hbx := byte_at hb x
    obtain ⟨c, hc⟩ : ∃ c : Nat, b.getD x 0 = (c : Int) := ⟨(b.getD x 0).toNat, by omega⟩
    have hc255 : c ≤ 255 := by omega
    have HC := Lib.hid hc
    have w4 : wrap64 (rd b (x : Int)) = (c : Int) := by rw [rd_nat, w64 (by omega) (by omega), hc]
    have w5 : wrap64 ((row.length : Int) + (c : Int)) = (row.length : Int) + (c : Int) := w64 (by omega) (by omega)
    have hf1 : (b.drop p).getD (2 * j + 1) 0 = (c : Int) := by rw [← hc, drop_getD]; congr 1; omega
    clear hbx hc
    have hf0 : (b.drop p).getD (2 * j + 2) 0 = b.getD (x + 1) 0 := by rw [drop_getD]; congr 1; omega
    have hjn : j + 1 ≤ n := by omega
    have hsucc : rl (b.drop p) (j + 1) = rl (b.drop p) j ++ [⟨b.getD (x + 1) 0, (c : Int)⟩] := by rw [rl_succ, hf1, hf0]
    have HF0 := Lib.hid hf0
    have W1 := Lib.hid w1
    have W4 := Lib.hid w4
    have W5 := Lib.hid w5
    clear w1 w4 w5
    have HSU := Lib.hid hsucc
    have HEX := Lib.hid hexp
    clear hf0 hf1 hsucc hexp
    rw [show PRd.woodgrainref24_Unpack.l1 (k + 2) = PRd.woodgrainref24_Unpack.l1 ((k + 1) + 1) from rfl]
    have hj3 : PRd.woodgrainref24_Unpack.j3 (k + 1) b acc (x : Int) (y : Int) (n : Int) row (j : Int) true = some ([], 9) := by simp only [PRd.woodgrainref24_Unpack.j3, if_true]
    simp only [PRd.woodgrainref24_Unpack.l1]
    rw [if_pos (by omega), W1.out]
    by_cases h1 : b.length ≤ x + 1
    · rw [if_pos (by omega), hj3]
      exact .inr ⟨fun ⟨h, _⟩ => (by rw [List.length_drop] at h; omega), rfl⟩
    · rw [if_neg (by omega), if_pos (by omega), if_pos (by omega), W4.out, W5.out, rd_nat, HC.out]
      by_cases h2 : (c : Int) = 0
      · rw [if_pos h2, hj3]
        refine .inr ⟨fun ⟨_, _, o, h, _⟩ => ?_, rfl⟩
        obtain ⟨o', g⟩ := exp_pre _ (j + 1) n hjn o h
        rw [HSU.out] at g
        obtain ⟨_, _, q, _⟩ := expM_last _ _ _ g
        simp only at q; omega
      · rw [if_neg h2]
        by_cases h3 : (row.length : Int) + (c : Int) > 160
        · rw [if_pos h3, hj3]
          refine .inr ⟨fun ⟨_, _, o, h, _⟩ => ?_, rfl⟩
          obtain ⟨o', g⟩ := exp_pre _ (j + 1) n hjn o h
          rw [HSU.out] at g
          obtain ⟨o2, q0, q, q2, _⟩ := expM_last _ _ _ g
          rw [HEX.out] at q0; injection q0 with q0
          simp only at q2; rw [← q0] at q2; omega
        · rw [if_neg h3]
          have hgo : ∀ (hadj' : adjB (b.drop p) (j + 1)), (∃ o k', 1000 * m < k' ∧ 1 + 2 * n ≤ (b.drop p).length ∧ adjB (b.drop p) n ∧ expM [] (rl (b.drop p) n) = some o ∧ o.length = 160 ∧
              PRd.woodgrainref24_Unpack.j3 (k + 1) b acc (x : Int) (y : Int) (n : Int) row (j : Int) false = PRd.woodgrainref24_Unpack.l0 k' b (acc ++ [o]) ((p + 1 + 2 * n : Nat) : Int) ((y + 1 : Nat) : Int)) ∨
            ((¬ (1 + 2 * n ≤ (b.drop p).length ∧ adjB (b.drop p) n ∧ ∃ o, expM [] (rl (b.drop p) n) = some o ∧ o.length = 160)) ∧
              PRd.woodgrainref24_Unpack.j3 (k + 1) b acc (x : Int) (y : Int) (n : Int) row (j : Int) false = some ([], 9)) := by
            intro hadj'
            simp only [PRd.woodgrainref24_Unpack.j3, Bool.false_eq_true, if_false]
            obtain ⟨k', e1, e2⟩ := ref_l2 b hb hl acc x y n j (by omega) (by omega) c HC.out c k 0 row (by omega) (by omega) (by omega)
            have hz : ((0 : Nat) : Int) = 0 := rfl
            rw [hz] at e2
            rw [e2]
            have hexp' := expM_snoc _ ⟨b.getD (x + 1) 0, (c : Int)⟩ row HEX.out (by simp only; omega) (by simp only; omega)
            rw [← HSU.out] at hexp'
            have := ih k' (j + 1) _ (by omega) hadj' hexp' (by simp; omega) (by simp; omega) (by omega)
            rw [show p + 1 + 2 * (j + 1) = x + 2 from by omega] at this
            exact this
          by_cases hj0 : j = 0
          · rw [if_neg (by omega)]
            exact hgo (fun i h1 h2 => by omega)
          · rw [if_pos (by omega)]
            obtain ⟨i, rfl⟩ : ∃ i, j = i + 1 := ⟨j - 1, by omega⟩
            have hexp := HEX.out
            rw [rl_succ] at hexp
            obtain ⟨o', q0, q1, q2, q3⟩ := expM_last _ _ _ hexp
            simp only at q1 q2 q3
            clear hexp q0
            have Q1 := Lib.hid q1
            have Q2 := Lib.hid q2
            have Q3 := Lib.hid q3
            clear q1 q2 q3
            have hrl : 1 ≤ row.length := by
              have q1 := Q1.out
              rw [Q3.out, List.length_append, List.length_replicate]
              omega
            have w6 : wrap64 ((row.length : Int) - 1) = ((row.length - 1 : Nat) : Int) := by rw [w64 (by omega) (by omega)]; omega
            have hlast : row.getD (row.length - 1) 0 = (b.drop p).getD (2 * (i + 1)) 0 := by
              have q1 := Q1.out
              have e : row.length = o'.length + ((b.drop p).getD (2 * i + 1) 0).toNat := by rw [Q3.out, List.length_append, List.length_replicate]
              rw [e]
              rw [Q3.out, List.getD_eq_getElem?_getD, List.getElem?_append_right (by omega), List.getElem?_replicate, if_pos (by omega), Option.getD_some, show 2 * (i + 1) = 2 * i + 2 from by omega]
            have HLA := Lib.hid hlast
            clear hlast
            have W6 := Lib.hid w6
            clear w6
            rw [W6.out, if_pos (by omega), if_pos (by omega), if_pos (by omega), if_pos (by omega), rd_nat, rd_nat, HLA.out]
            by_cases he : (b.drop p).getD (2 * (i + 1)) 0 = b.getD (x + 1) 0
            · rw [show ((b.drop p).getD (2 * (i + 1)) 0 == b.getD (x + 1) 0) = true from by rw [beq_iff_eq]; exact he, hj3]
              refine .inr ⟨fun ⟨_, h, _⟩ => h (i + 1) (by omega) (by omega) ?_, rfl⟩
              rw [HF0.out]; exact he
            · rw [show ((b.drop p).getD (2 * (i + 1)) 0 == b.getD (x + 1) 0) = false from by rw [beq_eq_false_iff_ne]; exact he]
              refine hgo (fun q h1 h2 => ?_)
              by_cases hq : q < i + 1
              · exact hadj q h1 hq
              · obtain rfl : q = i + 1 := by omega
                rw [HF0.out]; exact he
set_option maxHeartbeats 400000 in
theorem ref_l0 (b : List Int) (hb : Bytes b) (hl : b.length ≤ 1000000) (h2 : 2 ≤ b.length) (hc : cntM b ≤ 320) (d : Nat) : ∀ (k y p : Nat) (acc : List (List Int)), y + d = cntM b → acc.length = y → 1000 * d < k → p ≤ b.length →
    (∃ G, rowsM d (b.drop p) G ∧ PRd.woodgrainref24_Unpack.l0 k b acc (p : Int) (y : Int) = some (acc ++ G, 0)) ∨
    ((¬ ∃ G, rowsM d (b.drop p) G) ∧ PRd.woodgrainref24_Unpack.l0 k b acc (p : Int) (y : Int) = some ([], 9)) := by
  have hb0 := byte_at hb 0
  have hb1 := byte_at hb 1
  have hcnt : wrap64 (wrap64 (rd b 0) + wrap64 (256 * wrap64 (rd b 1))) = (cntM b : Int) := by
    have r0 : rd b 0 = b.getD 0 0 := rd_nat b 0
    have r1 : rd b 1 = b.getD 1 0 := rd_nat b 1
    rw [r0, r1, w64 (n := b.getD 0 0) (by omega) (by omega), w64 (n := b.getD 1 0) (by omega) (by omega), w64 (n := 256 * b.getD 1 0) (by omega) (by omega), w64 (by omega) (by omega)]
    unfold cntM; omega
  have HCN := Lib.hid hcnt
  clear hcnt hb0 hb1
  induction d with
  | zero =>
    intro k y p acc hy ha hk hp
    obtain ⟨k, rfl⟩ : ∃ m, k = m + 1 := ⟨k - 1, by omega⟩
    simp only [PRd.woodgrainref24_Unpack.l0]
    rw [if_pos (by omega), if_pos (by omega), HCN.out, if_neg (by omega)]
    by_cases e : p = b.length
    · rw [if_pos (by omega)]
      exact .inl ⟨[], ⟨by rw [List.length_drop]; omega, rfl⟩, by simp⟩
    · rw [if_neg (by omega)]
      exact .inr ⟨fun ⟨G, h, _⟩ => (by rw [List.length_drop] at h; omega), rfl⟩
  | succ d ih =>
    intro k y p acc hy ha hk hp
    obtain ⟨k, rfl⟩ : ∃ m, k = m + 1 := ⟨k - 1, by omega⟩
    simp only [PRd.woodgrainref24_Unpack.l0]
    rw [if_pos (by omega), if_pos (by omega), HCN.out, if_pos (by omega)]
    by_cases e : b.length ≤ p
    · rw [if_pos (by omega)]
      exact .inr ⟨fun ⟨G, o, r, G', h, _⟩ => (by have := h.1; rw [List.length_drop] at this; omega), rfl⟩
    · have hbp := byte_at hb p
      have w1 : wrap64 ((p : Int) + 1) = ((p + 1 : Nat) : Int) := by rw [w64 (by omega) (by omega)]; omega
      have w4 : wrap64 (rd b (p : Int)) = b.getD p 0 := by rw [rd_nat, w64 (by omega) (by omega)]
      obtain ⟨n, hn⟩ : ∃ n : Nat, b.getD p 0 = n := ⟨(b.getD p 0).toNat, by omega⟩
      have hn0 : ((b.drop p).getD 0 0).toNat = n := by rw [drop_getD]; simp only [Nat.add_zero]; omega
      have hn255 : n ≤ 255 := by omega
      have W1 := Lib.hid w1
      have W4 := Lib.hid w4
      have HN := Lib.hid hn
      have HN0 := Lib.hid hn0
      clear w1 w4 hn hn0 hbp
      rw [if_neg (by omega), if_pos (by omega), if_pos (by omega), W1.out, W4.out, HN.out]
      rcases ref_l1 b hb hl acc (by omega) p y n d (by omega) (by omega) (by omega) n k 0 [] (by omega) (fun i _ h => by omega) rfl (by simp) (by simp; omega) (by omega) with ⟨o, k', h0, h1, h2', h3, h4, h5⟩ | ⟨h1, h2'⟩
      · rw [show p + 1 + 2 * 0 = p + 1 from by omega] at h5
        have hz : ((0 : Nat) : Int) = 0 := rfl
        rw [hz] at h5
        rw [h5]
        have hrow : rowM (b.drop p) o (b.drop (p + 1 + 2 * n)) := ⟨by rw [List.length_drop]; omega, by rw [HN0.out]; exact h1, by rw [HN0.out]; exact h2', by rw [HN0.out]; exact h3, h4, by rw [HN0.out, List.drop_drop]; congr 1; omega⟩
        rcases ih k' (y + 1) (p + 1 + 2 * n) (acc ++ [o]) (by omega) (by simp; omega) h0 (by rw [List.length_drop] at h1; omega) with ⟨G, g1, g2⟩ | ⟨g1, g2⟩
        · exact .inl ⟨o :: G, ⟨o, _, G, hrow, g1, rfl⟩, by rw [g2, List.append_assoc]; rfl⟩
        · refine .inr ⟨fun ⟨G, o', r, G', q1, q2, _⟩ => g1 ?_, g2⟩
          obtain ⟨rfl, rfl⟩ := rowM_unique hrow q1
          exact ⟨G', q2⟩
      · rw [show p + 1 + 2 * 0 = p + 1 from by omega] at h2'
        have hz : ((0 : Nat) : Int) = 0 := rfl
        rw [hz] at h2'
        rw [h2']
        refine .inr ⟨fun ⟨G, o', r, G', q1, q2, _⟩ => h1 ?_, rfl⟩
        obtain ⟨_, e1, e2, e3, e4, _⟩ := q1
        rw [HN0.out] at e1 e2 e3
        exact ⟨e1, e2, o', e3, e4⟩
set_option maxHeartbeats 400000 in
/-- The document's answer. -/
theorem ref_f (b : List Int) (hb : Bytes b) (hl : b.length ≤ 1000000) :
    (∃ G, unpackM b G ∧ PRd.woodgrainref24_Unpack.f 400000 b = some (G, 0)) ∨ ((¬ ∃ G, unpackM b G) ∧ PRd.woodgrainref24_Unpack.f 400000 b = some ([], 9)) := by
  have hb0 := byte_at hb 0
  have hb1 := byte_at hb 1
  have hcnt : wrap64 (wrap64 (rd b 0) + wrap64 (256 * wrap64 (rd b 1))) = (cntM b : Int) := by
    have r0 : rd b 0 = b.getD 0 0 := rd_nat b 0
    have r1 : rd b 1 = b.getD 1 0 := rd_nat b 1
    rw [r0, r1, w64 (n := b.getD 0 0) (by omega) (by omega), w64 (n := b.getD 1 0) (by omega) (by omega), w64 (n := 256 * b.getD 1 0) (by omega) (by omega), w64 (by omega) (by omega)]
    unfold cntM; omega
  have HCN := Lib.hid hcnt
  clear hcnt hb0 hb1
  generalize hK : (400000 : Nat) = K
  obtain ⟨K', rfl⟩ : ∃ K', K = K' + 1 := ⟨K - 1, by omega⟩
  unfold PRd.woodgrainref24_Unpack.f
  by_cases h2 : b.length < 2
  · rw [if_pos (by omega)]
    exact .inr ⟨fun ⟨G, h, _⟩ => (by omega), by simp only [PRd.woodgrainref24_Unpack.j0, if_true]⟩
  · rw [if_neg (by omega), if_pos (by omega), if_pos (by omega), HCN.out]
    by_cases h3 : 320 < cntM b
    · rw [decide_eq_true (by omega)]
      exact .inr ⟨fun ⟨G, _, h, _⟩ => (by omega), by simp only [PRd.woodgrainref24_Unpack.j0, if_true]⟩
    · rw [decide_eq_false (by omega)]
      simp only [PRd.woodgrainref24_Unpack.j0, Bool.false_eq_true, if_false]
      rcases ref_l0 b hb hl (by omega) (by omega) (cntM b) K' 0 2 [] (by omega) rfl (by omega) (by omega) with ⟨G, g1, g2⟩ | ⟨g1, g2⟩
      · exact .inl ⟨G, ⟨by omega, by omega, g1⟩, by rw [List.nil_append] at g2; exact g2⟩
      · exact .inr ⟨fun ⟨G, _, _, h⟩ => g1 ⟨G, h⟩, g2⟩
end Go.Proofs.Ytgepcdohgiiaaaa
