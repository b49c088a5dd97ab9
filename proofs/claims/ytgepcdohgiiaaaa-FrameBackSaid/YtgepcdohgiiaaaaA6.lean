/- The maker's rows: Rows. -/
import Derived.Test.YtgepcdohgiiaaaaA5
namespace Go.Proofs.Ytgepcdohgiiaaaa
open Go.RowKit Go.Shelf
open Go.Proofs.YtgepcdohgiiaaaaW.PrintWords (nums own_slice step_append_cells ReadsInt)
set_option linter.unusedSimpArgs false
set_option linter.unusedVariables false
attribute [local go_sem] Oper.semAt_some

set_option maxHeartbeats 800000 in
theorem all_in (w : World) (p : Option Addr) :
    Calls Try.prog 37 #[.pointer p] w fun e w' => e = .returned (.func (.func 52) #[] #[.pointer (some ⟨w.heap.size, 0, none⟩)]) ∧ w.alloc (.cells #[.pointer p] 30) = w' := by
  go_enter Try.func37, Try.ntmps37
  go_wp2
  go_ret
  exact ⟨by simp, rfl⟩

/-- Cells live on. -/
def CellsKept (w w' : World) : Prop := ∀ (b : Nat) (cs : Array Value) (t : TypeId) (fr : Nat × Nat), w.heap[b]? = some (.cells cs t fr) → w'.heap[b]? = some (.cells cs t fr)
theorem CellsKept.of_below {w w' : World} (h : Below w.heap.size w w') : CellsKept w w' := fun b cs t fr hb => (h.block b (lt_of_block hb)).trans hb
theorem own_cells {w w' : World} (hk : CellsKept w w') {base e size n : Nat} {v : Value} {xs : List Value} (h : w.ownsRow base e size v n xs) : w'.ownsRow base e size v n xs := by
  obtain ⟨h1, h2⟩ := h
  refine ⟨h1, ?_⟩
  rcases h2 with h2 | ⟨g, cap, cur, hv, hg, hh, r⟩
  · exact .inl h2
  · exact .inr ⟨g, cap, cur, hv, hg, hk _ _ _ _ hh, r⟩
theorem RowsAt.cells {w w' : World} (hk : CellsKept w w') {B n : Nat} {bs : List Nat} {G : List (List Int)} (h : RowsAt w B n bs G) : RowsAt w' B n bs G :=
  ⟨h.len, h.nodup, h.base, fun i hi => ⟨hk _ _ _ _ (h.row i hi).1, (h.row i hi).2⟩⟩
theorem IsGrid.cellsKept {w w' : World} (hk : CellsKept w w') {B gb n : Nat} {G : List (List Int)} (h : IsGrid w B gb n G) : IsGrid w' B gb n G := by
  obtain ⟨v, bs, hB, hg, ho, hr⟩ := h
  exact ⟨v, bs, hB, hk _ _ _ _ hg, own_cells hk ho, hr.cells hk⟩
theorem cell_kept' {w w' : World} (hk : CellsKept w w') {a : Addr} {v : Value} (h : w.cell? a = some v) : w'.cell? a = some v := by
  unfold World.cell? at h ⊢
  split at h
  · rename_i c e fr hb
    rw [hk _ _ _ _ hb]; exact h
  · cases h
theorem ReadsAll.cellsKept {w w' : World} (hk : CellsKept w w') {B box mb gb rows : Nat} {lost sync : Bool} {G : List (List Int)} (h : ReadsAll B box mb gb rows lost sync G w) : ReadsAll B box mb gb rows lost sync G w' :=
  ⟨cell_kept' hk h.1, hk _ _ _ _ h.2.1, h.2.2.cellsKept hk⟩

/-- Rows of a slice of slices, each its own. -/
def GivenRows (W : World) (vs : List Value) (G : List (List Int)) (k : Nat) : Prop :=
  vs.length = k ∧ ∀ i, i < k → W.ownsRow 0 5 1 (vs.getD i undef) 160 (nums .u8 (G.getD i []))
theorem GivenRows.cellsKept {w w' : World} (hk : CellsKept w w') {vs : List Value} {G : List (List Int)} {k : Nat} (h : GivenRows w vs G k) : GivenRows w' vs G k :=
  ⟨h.1, fun i hi => own_cells hk (h.2 i hi)⟩
theorem GivenRows.snoc {w : World} {vs : List Value} {G : List (List Int)} {k : Nat} (h : GivenRows w vs G k) {v : Value} (hv : w.ownsRow 0 5 1 v 160 (nums .u8 (G.getD k []))) : GivenRows w (vs ++ [v]) G (k + 1) := by
  refine ⟨by simp [h.1], fun i hi => ?_⟩
  by_cases e : i = k
  · subst e
    have : (vs ++ [v]).getD i undef = v := by rw [← h.1]; simp [List.getD_eq_getElem?_getD]
    rw [this]; exact hv
  · have hlt : i < vs.length := by rw [h.1]; omega
    have : (vs ++ [v]).getD i undef = vs.getD i undef := by simp [List.getD_eq_getElem?_getD, List.getElem?_append_left hlt]
    rw [this]; exact h.2 i (by omega)

theorem own_base' {w : World} {base : Nat} {e : TypeId} {size n : Nat} {v : Value} {xs : List Value} (h : w.ownsRow base e size v n xs) : ∀ k, v.ownBlock = some k → base ≤ k :=
  Go.Proofs.YtgepcdohgiiaaaaW.PrintWords.own_base h
theorem own_type_ne' {w : World} {b b' : Nat} {e e' : TypeId} {s s' n n' : Nat} {v v' : Value} {xs xs' : List Value} (h : w.ownsRow b e s v n xs) (h' : w.ownsRow b' e' s' v' n' xs') (hne : e ≠ e') : v.ownBlock = none ∨ v.ownBlock ≠ v'.ownBlock :=
  Go.Proofs.YtgepcdohgiiaaaaW.PrintWords.own_type_ne h h' hne
theorem own_cells_obj {w : World} {base : Nat} {e : TypeId} {size n : Nat} {v : Value} {xs : List Value} (h : w.ownsRow base e size v n xs) : ∀ (j : Nat) (o : Obj), v.ownBlock = some j → w.heap[j]? = some o → o.isCells = true := by
  intro j o hj ho
  rcases h.2 with ⟨rfl, _⟩ | ⟨g, cap, cur, rfl, _, hh, _⟩
  · simp [Value.ownBlock] at hj
  · have : g = j := by simpa [Value.ownBlock] using hj
    subst this
    rw [hh] at ho; cases ho; rfl
theorem cell_one_new (W : World) (x : Value) (t : TypeId) : ∀ (j : Nat) (u : Value), [x][j]? = some u → (W.alloc (.cells #[x] t)).cell? ((⟨W.heap.size, 0, none⟩ : Addr).add j) = some u := by
  intro j u hj
  match j, hj with
  | 0, hj => simp at hj; subst hj; rw [addr_zero]; exact cell_of_one (alloc_new W _)

def RowsInv (w : World) (mb : Nat) (G : List (List Int)) (rb fb box : Nat) (k : Nat) (W : World) : Prop :=
  ∃ v vs, W.heap[fb]? = some (.cells #[v] 33 (0, 0)) ∧ W.heap[rb]? = some (.cells #[.slice none 0 0] 33 (0, 0)) ∧ W.ownsRow w.heap.size 45 1 v k vs ∧ GivenRows W vs G k ∧
    W.heap[box]? = some (.cells #[.pointer (some ⟨mb, 0, none⟩)] 30 (0, 0)) ∧ Below w.heap.size w W

set_option maxHeartbeats 4000000 in
set_option maxRecDepth 100000 in
theorem rows_in (w : World) (B mb gb rows : Nat) (lost sync : Bool) (G : List (List Int)) (hrows : rows ≤ G.length) (hmax : rows ≤ 320)
    (hm : w.heap[mb]? = some (.cells (makerCells gb rows lost sync) 76 (0, 0))) (hG : IsGrid w B gb 160 G) :
    Calls Try.prog 18 #[.pointer (some ⟨mb, 0, none⟩)] w fun e w' => ∃ v vs, e = .returned (.agg #[v]) ∧ w'.ownsRow w.heap.size 45 1 v rows vs ∧ GivenRows w' vs G rows ∧ Below w.heap.size w w' := by
  obtain ⟨i0, hi, hz0, hz1, hz2⟩ := info_parts Try.info45
  have hml := lt_of_block hm
  refine (callsIn_wide (n := 5)).1 ?_
  refine callsIn_of_wp_marks Try.func18 rfl trivial ?_ rfl
  simp only [Try.ntmps18, List.size_toArray, List.length_cons, List.length_nil, Nat.reduceAdd, Nat.reduceSub, Array.replicate_succ, Array.replicate_zero, List.push_toArray, List.append_toArray, List.nil_append, List.cons_append]
  gi_wp2_with (refine ⟨trivial, ?_⟩; gi_at_call 37; refine callsIn_wide.2 ((all_in _ _).mono ?_); rintro e w1 ⟨rfl, rfl⟩)
  obtain ⟨W0, hW0⟩ : ∃ W0, W0 = ((w.alloc (Obj.cells #[Value.slice none 0 0] 33)).alloc (Obj.cells #[Value.slice none 0 0] 33)).alloc (Obj.cells #[Value.pointer (some { block := mb, off := 0 })] 30) := ⟨_, rfl⟩
  rw [← hW0]
  have hB0 : Below w.heap.size w W0 := by rw [hW0]; exact (((Below.refl _ _).alloc (Nat.le_refl _) _).alloc (by simp) _).alloc (by simp <;> omega) _
  have hI0 : RowsInv w mb G w.heap.size (w.heap.size + 1) (w.heap.size + 1 + 1) 0 W0 := by
    refine ⟨.slice none 0 0, [], ?_, ?_, World.ownsRow_nil _ _ _ _, ⟨rfl, by omega⟩, ?_, hB0⟩
    · rw [hW0, Below.heap_alloc _ _ _ (by simp)]; simpa using alloc_new (w.alloc (Obj.cells #[Value.slice none 0 0] 33)) (Obj.cells #[Value.slice none 0 0] 33)
    · rw [hW0, Below.heap_alloc _ _ _ (by simp; omega), Below.heap_alloc _ _ _ (by simp)]; exact alloc_new w _
    · have := alloc_new ((w.alloc (Obj.cells #[Value.slice none 0 0] 33)).alloc (Obj.cells #[Value.slice none 0 0] 33)) (Obj.cells #[Value.pointer (some { block := mb, off := 0 })] 30)
      rw [← hW0] at this
      simpa using this
  have hszW0 : W0.heap.size = w.heap.size + 1 + 1 + 1 := by rw [hW0]; simp
  clear hW0
  refine wp_range rfl (enters_of Try.func52 (by kernel_rfl) rfl) (all_iter _ B (w.heap.size + 1 + 1) mb gb rows lost sync G hrows hmax) ?hps ?hV
    (RowsInv w mb G w.heap.size (w.heap.size + 1) (w.heap.size + 1 + 1)) (fun _ _ => False) ?hI (fun _ _ _ h _ => h) ?hK hI0
    (fun xs => { tmps := #[Value.pointer (some { block := mb, off := 0 }), undef, Value.pointer (some { block := w.heap.size, off := 0 }), Value.pointer (some { block := w.heap.size + 1, off := 0 }), xs.getD 0 undef,
          Value.pointer (some { block := mb, off := 0 }), Value.bool false, undef, Value.pointer (some { block := mb, off := 0 }),
          Value.func (Fn.func 52) #[] #[Value.pointer (some { block := w.heap.size + 1 + 1, off := 0 })], xs.getD 0 undef, undef, undef, undef, undef, undef, undef, undef], defers := [] })
    ?assign ?body ?done (fun _ _ _ _ h _ => h.elim)
  case hps => rintro k vs W ⟨v, rfl, _⟩; rfl
  case hV => rintro k vs W W' ⟨v, rfl, ho⟩ hk; exact ⟨v, rfl, own_cells hk.cells ho⟩
  case hI =>
    rintro k W W' ⟨v, vs, h1, h2, h3, h4, h5, h6⟩ hk
    exact ⟨v, vs, hk.cells _ _ _ _ h1, hk.cells _ _ _ _ h2, own_cells hk.cells h3, h4.cellsKept hk.cells, hk.cells _ _ _ _ h5, hk.below (by rw [hszW0]; omega) h6⟩
  case hK => rintro k W ⟨v, vs, h1, h2, h3, h4, h5, h6⟩; exact ⟨cell_of_one h5, (h6.block mb hml).trans hm, hG.cellsKept (CellsKept.of_below h6)⟩
  case assign =>
    rintro l k vs W K ⟨v, rfl, _⟩ hK
    gi_wp2
    exact hK
  case body =>
    rintro l k vs W hl hk ⟨v, rs, h1, h2, h3, h4, h5, h6⟩ ⟨x, rfl, hx⟩
    obtain ⟨A, c, rfl⟩ := own_slice h3
    obtain ⟨Ax, cx, rfl⟩ := own_slice hx
    have hc1 := cell_of_one h1
    have hf1 := free_of_one h1
    have HO := Lib.hid h3
    have H1 := Lib.hid h1
    have H2 := Lib.hid h2
    clear h1 h2 h3
    gi_wp2_with (gi_at_builtin; refine wpListIn_append_own _ rfl (.tmp 12) (.tmp 14) 27 rfl w.heap.size 45 i0 (.slice none 0 0) 1 24 Try.underlying27 hi hz0 hz1 hz2 rfl (by decide) (.slice A k c) k rs rfl (HO.out.alloc _) ⟨W.heap.size, 0, none⟩ 1 1 [.slice Ax 160 cx] rfl rfl ?c1 ?c2 ?b1 ?b2 ?b3 ?_)
    case c1 => exact cell_one_new W _ 45
    case c2 => intro u hu; simp at hu; subst hu; rfl
    case b1 => simp only [maxLen]; omega
    case b2 => omega
    case b3 => have := h6.size; simp; omega
    intro v' w1 ho2 hg2 _
    have n33 := own_ne_block HO.out H1.out (by omega)
    have n33r := own_ne_block HO.out H2.out (by omega)
    have n30 := own_ne_block HO.out h5 (by omega)
    have gr : W.grownBy w1 (Value.slice A k c).ownBlock := World.grownBy.trans (World.grownBy_alloc W _ _) hg2
    have h1' := (gr.block _ (lt_of_block H1.out) (fun e => n33 e.symm)).trans H1.out
    have h2' := (gr.block _ (lt_of_block H2.out) (fun e => n33r e.symm)).trans H2.out
    have h5' := (gr.block _ (lt_of_block h5) (fun e => n30 e.symm)).trans h5
    have h6' : Below w.heap.size w w1 := h6.grown gr h6.size (own_base' HO.out)
    have hx' : w1.ownsRow 0 5 1 (.slice Ax 160 cx) 160 (nums .u8 (G.getD k [])) := hx.kept gr (own_type_ne' hx HO.out (by decide))
    have h4' : GivenRows w1 rs G k := ⟨h4.1, fun i hi => (h4.2 i hi).kept gr (own_type_ne' (h4.2 i hi) HO.out (by decide))⟩
    have h4s := h4'.snoc hx'
    have ko : KeepsOthers W w1 := KeepsOthers.of_grownBy gr (own_cells_obj HO.out)
    obtain ⟨A', c', rfl⟩ := own_slice ho2
    have HO2 := Lib.hid ho2
    have H1' := Lib.hid h1'
    have H2' := Lib.hid h2'
    have H5' := Lib.hid h5'
    have hc1' := cell_of_one h1'
    have hf1' := free_of_one h1'
    clear ho2 h1' h2' h5' h5 hc1 hf1
    gi_wp2
    refine ⟨ko.trans (KeepsOthers.setCell _ _ _), _, _, one_setCell H1'.out, ?_, ownsRow_setCell_other HO2.out (own_ne_block HO2.out H1'.out (by omega)) _, ?_, ?_, h6'.setCell (by simp) _⟩
    · rw [Below.heap_setCell _ _ _ _ (by simp)]; exact H2'.out
    · exact ⟨h4s.1, fun i hi => ownsRow_setCell_other (h4s.2 i hi) (own_ne_block (h4s.2 i hi) H1'.out (by omega)) _⟩
    · rw [Below.heap_setCell _ _ _ _ (by simp)]; exact H5'.out
  case done =>
    rintro D W hD ⟨v, vs, h1, h2, h3, h4, h5, h6⟩ hK
    obtain ⟨A, c, rfl⟩ := own_slice h3
    have hc1 := cell_of_one h1
    have hc2 := cell_of_one h2
    have hf2 := free_of_one h2
    have HO := Lib.hid h3
    have H1 := Lib.hid h1
    have H2 := Lib.hid h2
    clear h1 h2 h3
    gi_wp2
    have hK' : (W.setCell ⟨w.heap.size, 0, none⟩ (.slice A rows c)).heap[D]? = some (.deferred (some [])) := (KeepsOthers.setCell _ _ _).same D _ hK rfl
    refine ⟨by simp, .inl ⟨_, _, rfl, run_takeDeferred hK', ?_⟩⟩
    have kc : CellsKept (W.setCell ⟨w.heap.size, 0, none⟩ (.slice A rows c)) ((W.setCell ⟨w.heap.size, 0, none⟩ (.slice A rows c)).putObj D (.deferred none)) := (KeepsCells.putObj (B := 0) _ hK' rfl (Nat.zero_le _)).cells
    have hres := kc _ _ _ _ (one_setCell (u := .slice A rows c) H2.out)
    have hrc := cell_of_one hres
    refine ⟨.agg #[.slice A rows c], by simp [results, Try.results18, go_sem, hrc], _, vs, rfl, ?_, ?_, ?_⟩
    · exact own_cells kc (ownsRow_setCell_other HO.out (own_ne_block HO.out H2.out (by omega)) _)
    · exact ⟨h4.1, fun i hi => own_cells kc (ownsRow_setCell_other (h4.2 i hi) (own_ne_block (h4.2 i hi) H2.out (by omega)) _)⟩
    · exact (h6.setCell (by simp) _).trans ⟨rfl, rfl, rfl, by simp, fun b hb => World.putObj_heap_other (by omega)⟩
end Go.Proofs.Ytgepcdohgiiaaaa
