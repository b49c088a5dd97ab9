/- Runs of a row, there and back: the plain law. -/
import Derived.Test.YtgepcdohgiiaaaaU2
namespace Go.Proofs.Ytgepcdohgiiaaaa
open Go.RowKit Go.Proofs.YtgepcdohgiiaaaaW.PrintWords
open PRd (S91 rd_T91 z91)
set_option linter.unusedSimpArgs false
set_option linter.unusedVariables false

/-- cell.Pack, one element more. -/
def pkStep (rs : List S91) (x : Int) : List S91 :=
  match rs.getLast? with
  | some r => if r.f0 = x then rs.dropLast ++ [⟨x, r.f1 + 1⟩] else rs ++ [⟨x, 1⟩]
  | none => [⟨x, 1⟩]
def pkM (l : List Int) : List S91 := l.foldl pkStep []
theorem pk_snoc (rs : List S91) (r : S91) (x : Int) : pkStep (rs ++ [r]) x = if r.f0 = x then rs ++ [⟨x, r.f1 + 1⟩] else rs ++ [r] ++ [⟨x, 1⟩] := by
  simp [pkStep]
/-- Runs that are as Pack makes them. -/
def Valid (rs : List S91) : Prop := (∀ r ∈ rs, 1 ≤ r.f1) ∧ ∀ i, i + 1 < rs.length → (rd_T91 rs (i : Int)).f0 ≠ (rd_T91 rs ((i + 1 : Nat) : Int)).f0
def flatM (rs : List S91) : List Int := rs.flatMap fun r => List.replicate r.f1.toNat r.f0
theorem flat_snoc (rs : List S91) (r : S91) : flatM (rs ++ [r]) = flatM rs ++ List.replicate r.f1.toNat r.f0 := by simp [flatM]
theorem rdT_append_left (a b : List S91) (i : Nat) (h : i < a.length) : rd_T91 (a ++ b) (i : Int) = rd_T91 a (i : Int) := by
  unfold rd_T91; rw [Int.toNat_natCast, List.getD_eq_getElem?_getD, List.getElem?_append_left h, ← List.getD_eq_getElem?_getD]
theorem rdT_last (a : List S91) (r : S91) : rd_T91 (a ++ [r]) (a.length : Int) = r := by
  unfold rd_T91; rw [Int.toNat_natCast, List.getD_eq_getElem?_getD, List.getElem?_append_right (Nat.le_refl _), Nat.sub_self]; rfl
theorem valid_init {rs : List S91} {r : S91} (h : Valid (rs ++ [r])) : Valid rs :=
  ⟨fun x hx => h.1 x (by simp [hx]), fun i hi => by
    have := h.2 i (by simp; omega)
    rwa [rdT_append_left _ _ _ (by omega), rdT_append_left _ _ _ (by omega)] at this⟩
theorem valid_last {rs : List S91} {q r : S91} (h : Valid (rs ++ [q] ++ [r])) : q.f0 ≠ r.f0 := by
  have := h.2 rs.length (by simp)
  rw [rdT_append_left _ _ _ (by simp), rdT_last] at this
  rw [show rs.length + 1 = (rs ++ [q]).length from by simp, rdT_last] at this
  exact this
theorem valid_snoc {rs : List S91} {q r : S91} (h : Valid (rs ++ [q])) (h1 : 1 ≤ r.f1) (h2 : q.f0 ≠ r.f0) : Valid (rs ++ [q] ++ [r]) := by
  refine ⟨fun x hx => ?_, fun i hi => ?_⟩
  · rcases List.mem_append.1 hx with hx | hx
    · exact h.1 x hx
    · simp at hx; rw [hx]; exact h1
  · by_cases e : i + 1 < (rs ++ [q]).length
    · rw [rdT_append_left _ _ _ (by omega), rdT_append_left _ _ _ e]; exact h.2 i e
    · have e2 : i = rs.length := by simp at hi e; omega
      subst e2
      rw [rdT_append_left _ _ _ (by simp), rdT_last, show rs.length + 1 = (rs ++ [q]).length from by simp, rdT_last]
      exact h2
theorem valid_one {r : S91} (h : 1 ≤ r.f1) : Valid [r] := ⟨fun x hx => by simp at hx; rw [hx]; exact h, fun i hi => by simp at hi⟩
theorem valid_more {rs : List S91} {r : S91} (h : Valid (rs ++ [r])) {n : Int} (hn : 1 ≤ n) : Valid (rs ++ [⟨r.f0, n⟩]) := by
  rcases List.eq_nil_or_concat rs with rfl | ⟨L, q, rfl⟩
  · exact valid_one hn
  · rw [List.concat_eq_append] at h ⊢
    have hne : q.f0 ≠ r.f0 := valid_last h
    exact valid_snoc (valid_init h) hn hne
/-- Pack's runs are valid, and lead back. -/
theorem pk_ok (l : List Int) : Valid (pkM l) ∧ flatM (pkM l) = l := by
  have : ∀ l' rs, Valid rs → Valid (l'.foldl pkStep rs) ∧ flatM (l'.foldl pkStep rs) = flatM rs ++ l' := by
    intro l'
    induction l' with
    | nil => intro rs h; exact ⟨h, by simp⟩
    | cons x l' ih =>
      intro rs h
      simp only [List.foldl_cons]
      have hs : Valid (pkStep rs x) ∧ flatM (pkStep rs x) = flatM rs ++ [x] := by
        rcases List.eq_nil_or_concat rs with rfl | ⟨L, q, rfl⟩
        · exact ⟨valid_one (by simp), by simp [pkStep, flatM]⟩
        · rw [List.concat_eq_append] at h ⊢
          rw [pk_snoc]
          have hq := h.1 q (by simp)
          split
          · rename_i e
            subst e
            refine ⟨valid_more h (by omega), ?_⟩
            rw [flat_snoc, flat_snoc, List.append_assoc]
            congr 1
            simp only
            rw [show (q.f1 + 1).toNat = q.f1.toNat + 1 from by omega, List.replicate_succ']
          · rename_i e
            exact ⟨valid_snoc h (by simp) e, by rw [flat_snoc]; rfl⟩
      obtain ⟨h1, h2⟩ := ih _ hs.1
      exact ⟨h1, by rw [h2, hs.2, List.append_assoc]; rfl⟩
  have := this l [] ⟨fun x hx => absurd hx (by simp), fun i hi => by simp at hi⟩
  exact ⟨this.1, by rw [show pkM l = l.foldl pkStep [] from rfl, this.2]; rfl⟩
theorem pk_rep (v : Int) (n : Nat) : ∀ (rs : List S91) (c : Int), (List.replicate n v).foldl pkStep (rs ++ [⟨v, c⟩]) = rs ++ [⟨v, c + n⟩] := by
  induction n with
  | zero => intro rs c; simp
  | succ n ih =>
    intro rs c
    rw [List.replicate_succ, List.foldl_cons, pk_snoc, if_pos rfl, ih]
    simp only
    rw [show c + 1 + (n : Int) = c + ((n + 1 : Nat) : Int) from by omega]
/-- Valid runs are those of the row that they tell. -/
theorem pk_flat (rs : List S91) : Valid rs → pkM (flatM rs) = rs := by
  have : ∀ n (rs : List S91), rs.length = n → Valid rs → pkM (flatM rs) = rs := by
    intro n
    induction n with
    | zero => intro rs hn _; obtain rfl := List.eq_nil_of_length_eq_zero hn; rfl
    | succ n ih =>
      intro rs hn hv
      rcases List.eq_nil_or_concat rs with rfl | ⟨L, r, rfl⟩
      · simp at hn
      · rw [List.concat_eq_append] at hn hv ⊢
        have hr := hv.1 r (by simp)
        have hL := ih L (by simpa using hn) (valid_init hv)
        rw [flat_snoc]
        unfold pkM at hL ⊢
        rw [List.foldl_append, hL]
        obtain ⟨c, hc⟩ : ∃ c : Nat, r.f1.toNat = c + 1 := ⟨r.f1.toNat - 1, by omega⟩
        rw [hc, List.replicate_succ, List.foldl_cons]
        have e : pkStep L r.f0 = L ++ [⟨r.f0, 1⟩] := by
          rcases List.eq_nil_or_concat L with rfl | ⟨L', q, rfl⟩
          · simp [pkStep]
          · rw [List.concat_eq_append] at hv ⊢
            rw [pk_snoc, if_neg (valid_last hv)]
        rw [e, pk_rep]
        congr 2
        cases r
        simp only at hc ⊢
        congr 1
        omega
  exact this _ rs rfl
end Go.Proofs.Ytgepcdohgiiaaaa
