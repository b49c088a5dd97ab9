/- Frames of the document: what stands in memory. -/
import Derived.Test.YtgepcdohgiiaaaaR1
namespace Go.Proofs.Ytgepcdohgiiaaaa
open Go.RowKit Go.Shelf
open Go.Proofs.YtgepcdohgiiaaaaW.PrintWords (own_slice Kd nums step_append_cells)
set_option linter.unusedSimpArgs false
set_option linter.unusedVariables false

/-- All rows of an earlier world stand as they were. -/
def Agree (w0 w : World) : Prop := ∀ (b : Nat) (cs : Array Value) (t : TypeId) (fr : Nat × Nat), w0.heap[b]? = some (.cells cs t fr) → (t = 5 ∨ t = 45) → w.heap[b]? = some (.cells cs t fr)
theorem Agree.refl (w : World) : Agree w w := fun _ _ _ _ h _ => h
theorem Agree.kept {w0 w w' : World} (h : Agree w0 w) (hk : CellsKept w w') : Agree w0 w' := fun b cs t fr hb ht => hk b cs t fr (h b cs t fr hb ht)
theorem Agree.below {w0 w w' : World} {m : Nat} (h : Agree w0 w) (hm : w0.heap.size ≤ m) (hb : Below m w w') : Agree w0 w' := fun b cs t fr hc ht =>
  (hb.block b (by have := lt_of_block hc; omega)).trans (h b cs t fr hc ht)
theorem Agree.grown {w0 w w' : World} {base e size n : Nat} {v : Value} {xs : List Value} (h : Agree w0 w) (ho : w.ownsRow base e size v n xs) (he : e ≠ 5 ∧ e ≠ 45) (gr : w.grownBy w' v.ownBlock) : Agree w0 w' := fun b cs t fr hc ht => by
  have hb := h b cs t fr hc ht
  refine (gr.block b (lt_of_block hb) (fun e' => own_ne_block ho hb ?_ e'.symm)).trans hb
  rcases ht with rfl | rfl
  · exact he.1.symm
  · exact he.2.symm
theorem own_agree {w0 w : World} (h : Agree w0 w) {base e size n : Nat} {v : Value} {xs : List Value} (he : e = 5 ∨ e = 45) (ho : w0.ownsRow base e size v n xs) : w.ownsRow base e size v n xs := by
  obtain ⟨h1, h2⟩ := ho
  refine ⟨h1, ?_⟩
  rcases h2 with h2 | ⟨g, cap, cur, hv, hg, hh, r⟩
  · exact .inl h2
  · exact .inr ⟨g, cap, cur, hv, hg, h _ _ _ _ hh he, r⟩
theorem FrameIs.agree {w0 w : World} (h : Agree w0 w) {v : Value} {G : List (List Int)} (hf : FrameIs w0 v G) : FrameIs w v G := by
  obtain ⟨vs, h1, h2, h3⟩ := hf
  exact ⟨vs, own_agree h (.inr rfl) h1, h2, fun i hi => own_agree h (.inl rfl) (h3 i hi)⟩
def Low (w : World) (m : Nat) (v : Value) (G : List (List Int)) : Prop := ∃ w0, w0.heap.size ≤ m ∧ FrameIs w0 v G ∧ Agree w0 w
theorem Low.is {w : World} {m : Nat} {v : Value} {G : List (List Int)} (h : Low w m v G) : FrameIs w v G := by
  obtain ⟨w0, _, hf, ha⟩ := h; exact hf.agree ha
theorem Low.kept {w w' : World} {m m' : Nat} {v : Value} {G : List (List Int)} (h : Low w m v G) (hk : CellsKept w w') (hm : m ≤ m') : Low w' m' v G := by
  obtain ⟨w0, h1, hf, ha⟩ := h; exact ⟨w0, by omega, hf, ha.kept hk⟩
theorem Low.below {w w' : World} {m : Nat} {v : Value} {G : List (List Int)} (h : Low w m v G) (hb : Below m w w') : Low w' m v G := by
  obtain ⟨w0, h1, hf, ha⟩ := h; exact ⟨w0, h1, hf, ha.below h1 hb⟩
theorem Low.grown {w w' : World} {m m' : Nat} {v : Value} {G : List (List Int)} (h : Low w m v G) (hm : m ≤ m') {base e size n : Nat} {u : Value} {xs : List Value} (ho : w.ownsRow base e size u n xs) (he : e ≠ 5 ∧ e ≠ 45) (gr : w.grownBy w' u.ownBlock) : Low w' m' v G := by
  obtain ⟨w0, h1, hf, ha⟩ := h; exact ⟨w0, by omega, hf, ha.grown ho he gr⟩

theorem rowV_own {w : World} {b : Nat} {r : List Int} (h : w.heap[b]? = some (.cells (nums .u8 r).toArray 5 (0, 0))) (hl : r.length = 160) : w.ownsRow 0 5 1 (rowV 160 b) 160 (nums .u8 r) := by
  refine ⟨by simp [nums, hl], .inr ⟨b, 160, _, rfl, Nat.zero_le _, h, Nat.le_refl _, by decide, by simp [nums, hl], ?_⟩⟩
  simp only [List.toList_toArray]
  exact List.take_of_length_le (by simp [nums, hl])
theorem FrameIs.of_rows {w : World} {m : Nat} {bs : List Nat} {G : List (List Int)} {v : Value} (ho : w.ownsRow m 45 1 v G.length (bs.map (rowV 160))) (hr : RowsAt w m 160 bs G) : FrameIs w v G := by
  refine ⟨bs.map (rowV 160), own_weaken' ho (Nat.zero_le _), by rw [List.length_map]; exact hr.len, fun i hi => ?_⟩
  have hib : i < bs.length := by rw [hr.len]; exact hi
  have e : (bs.map (rowV 160)).getD i undef = rowV 160 (bs.getD i 0) := by simp [List.getD_eq_getElem?_getD, List.getElem?_eq_getElem hib]
  rw [e]
  exact rowV_own (hr.row i hi).1 (hr.row i hi).2

/-- What the document's loop keeps. -/
structure RefM where
  outs : List (List (List Int))
  ats : List Int
  rows : List (List Int)
  sync : Bool
  lost : Bool
structure IsRef (w : World) (B m : Nat) (vs : List Value) (bs : List Nat) (S : RefM) (vo va vr : Value) : Prop where
  base : B ≤ m
  size : m ≤ w.heap.size
  out : w.ownsRow B 27 1 vo S.outs.length vs
  frames : ∀ i, i < S.outs.length → Low w m (vs.getD i undef) (S.outs.getD i [])
  at_ : w.ownsRow B 3 1 va S.ats.length (nums .i64 S.ats)
  rows_ : w.ownsRow m 45 1 vr S.rows.length (bs.map (rowV 160))
  row : RowsAt w m 160 bs S.rows

theorem IsRef.kept {w w' : World} {B m : Nat} {vs : List Value} {bs : List Nat} {S : RefM} {vo va vr : Value} (h : IsRef w B m vs bs S vo va vr) (hk : CellsKept w w') (hs : w.heap.size ≤ w'.heap.size) : IsRef w' B m vs bs S vo va vr :=
  ⟨h.base, Nat.le_trans h.size hs, own_cells hk h.out, fun i hi => (h.frames i hi).kept hk (Nat.le_refl _), own_cells hk h.at_, own_cells hk h.rows_, h.row.cells hk⟩
/-- Sync and lost are not in memory. -/
theorem IsRef.flags {w : World} {B m : Nat} {vs : List Value} {bs : List Nat} {S : RefM} {vo va vr : Value} (h : IsRef w B m vs bs S vo va vr) (s l : Bool) : IsRef w B m vs bs { S with sync := s, lost := l } vo va vr :=
  ⟨h.base, h.size, h.out, h.frames, h.at_, h.rows_, h.row⟩

theorem IsRef.snoc {w1 w2 : World} {B m g : Nat} {vs : List Value} {bs : List Nat} {S : RefM} {vo va vr v1 : Value} {r : List Int} (h : IsRef w1 B m vs bs S vo va vr)
    (hrow : w1.heap[g]? = some (.cells (nums .u8 r).toArray 5 (0, 0))) (hl : r.length = 160) (hg : m ≤ g) (hgn : g ∉ bs) (gr : w1.grownBy w2 vr.ownBlock)
    (HO2 : w2.ownsRow m 45 1 v1 (S.rows.length + 1) (bs.map (rowV 160) ++ [rowV 160 g])) : IsRef w2 B m vs (bs ++ [g]) { S with rows := S.rows ++ [r] } vo va v1 := by
  have hbel : Below m w1 w2 := (Below.refl m w1).grown gr h.size (fun k hk => by
    rcases h.rows_.2 with ⟨rfl, _⟩ | ⟨g', cap, cur, rfl, hb, _⟩
    · simp [Value.ownBlock] at hk
    · have : g' = k := by simpa [Value.ownBlock] using hk
      omega)
  have n2 := own_ne_block h.rows_ hrow (by omega)
  have hrow2 := (gr.block g (lt_of_block hrow) (fun e => n2 e.symm)).trans hrow
  have HR2 : RowsAt w2 m 160 bs S.rows := h.row.grown gr (fun b hm => by
    obtain ⟨_, r', hr'⟩ := h.row.mem b hm
    exact fun e => own_ne_block h.rows_ hr' (by omega) e.symm)
  refine ⟨h.base, by have := hbel.size; have := h.size; omega, h.out.kept gr (own_type_ne' h.out h.rows_ (by decide)), fun i hi => (h.frames i hi).below hbel, h.at_.kept gr (own_type_ne' h.at_ h.rows_ (by decide)), ?_, ?_⟩
  · rw [List.map_append, List.length_append]; exact HO2
  · exact HR2.snoc hg hgn hrow2 hl

/-- A picture told. -/
theorem IsRef.told {w1 w2 : World} {B m : Nat} {vs : List Value} {bs : List Nat} {S : RefM} {vo va vr v1 : Value} (h : IsRef w1 B m vs bs S vo va vr) (hB : B ≤ w1.heap.size) (gr : w1.grownBy w2 vo.ownBlock)
    (HO2 : w2.ownsRow B 27 1 v1 (S.outs.length + 1) (vs ++ [vr])) : IsRef w2 B w2.heap.size (vs ++ [vr]) [] { S with outs := S.outs ++ [S.rows], rows := [] } v1 va (.slice none 0 0) := by
  have hs : w1.heap.size ≤ w2.heap.size := gr.size
  have hvl : vs.length = S.outs.length := by have := h.out.1; omega
  refine ⟨by omega, Nat.le_refl _, by rw [List.length_append]; exact HO2, fun i hi => ?_, h.at_.kept gr (own_type_ne' h.at_ h.out (by decide)), World.ownsRow_nil _ _ _ _, ⟨rfl, by simp, by simp, by simp⟩⟩
  rw [List.length_append, List.length_singleton] at hi
  by_cases hlt : i < S.outs.length
  · have e1 : (vs ++ [vr]).getD i undef = vs.getD i undef := by simp [List.getD_eq_getElem?_getD, List.getElem?_append_left (show i < vs.length by omega)]
    have e2 : (S.outs ++ [S.rows]).getD i [] = S.outs.getD i [] := by simp [List.getD_eq_getElem?_getD, List.getElem?_append_left hlt]
    rw [e1, e2]
    exact (h.frames i hlt).grown (by have := h.size; omega) h.out (by omega) gr
  · have hi' : i = S.outs.length := by omega
    subst hi'
    have e1 : (vs ++ [vr]).getD S.outs.length undef = vr := by rw [← hvl]; simp [List.getD_eq_getElem?_getD]
    have e2 : (S.outs ++ [S.rows]).getD S.outs.length [] = S.rows := by simp [List.getD_eq_getElem?_getD]
    rw [e1, e2]
    exact ⟨w1, hs, FrameIs.of_rows h.rows_ h.row, (Agree.refl w1).grown h.out (by omega) gr⟩
theorem IsRef.at {w1 w2 : World} {B m : Nat} {vs : List Value} {bs : List Nat} {S : RefM} {vo va vr v1 : Value} {i : Int} (h : IsRef w1 B m vs bs S vo va vr) (gr : w1.grownBy w2 va.ownBlock)
    (HO2 : w2.ownsRow B 3 1 v1 (S.ats.length + 1) (nums .i64 S.ats ++ [.int .i64 i])) : IsRef w2 B m vs bs { S with ats := S.ats ++ [i] } vo v1 vr := by
  refine ⟨h.base, Nat.le_trans h.size gr.size, h.out.kept gr (own_type_ne' h.out h.at_ (by decide)), fun j hj => (h.frames j hj).grown (Nat.le_refl _) h.at_ (by omega) gr, ?_, h.rows_.kept gr (own_type_ne' h.rows_ h.at_ (by decide)), ?_⟩
  · have e : nums .i64 (S.ats ++ [i]) = nums .i64 S.ats ++ [.int .i64 i] := by simp [nums]
    rw [List.length_append, e]; exact HO2
  · exact h.row.grown gr (fun b hm => by
      obtain ⟨_, r', hr'⟩ := h.row.mem b hm
      exact fun e => own_ne_block h.at_ hr' (by omega) e.symm)
/-- A pixel set. -/
theorem IsRef.px {w : World} {B m : Nat} {vs : List Value} {bs : List Nat} {S : RefM} {vo va vr : Value} (h : IsRef w B m vs bs S vo va vr) (x y : Nat) (v : Int) (hy : y < S.rows.length) :
    m ≤ bs.getD y 0 ∧ IsRef (w.setCell ⟨bs.getD y 0, x, none⟩ (.int .u8 v)) B m vs bs { S with rows := setPx S.rows x y v } vo va vr := by
  have hm : bs.getD y 0 ∈ bs := by
    rw [List.getD_eq_getElem?_getD, List.getElem?_eq_getElem (by rw [h.row.len]; exact hy)]
    exact List.getElem_mem _
  have hb := h.row.base _ hm
  obtain ⟨_, r, hblk⟩ := h.row.mem _ hm
  refine ⟨hb, h.base, by simpa using h.size, ownsRow_setCell_other h.out (own_ne_block h.out hblk (by omega)) _, fun i hi => (h.frames i hi).below ((Below.refl m w).setCell hb _), ownsRow_setCell_other h.at_ (own_ne_block h.at_ hblk (by omega)) _, ?_, h.row.setPx hy v⟩
  rw [show (setPx S.rows x y v).length = S.rows.length from by simp [setPx]]
  exact ownsRow_setCell_other h.rows_ (own_ne_block h.rows_ hblk (by omega)) _
end Go.Proofs.Ytgepcdohgiiaaaa
