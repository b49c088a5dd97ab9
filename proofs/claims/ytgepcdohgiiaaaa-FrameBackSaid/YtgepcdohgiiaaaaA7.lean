/- The maker: New, begin. -/
import Derived.Test.YtgepcdohgiiaaaaA6
namespace Go.Proofs.Ytgepcdohgiiaaaa
open Go.RowKit Go.Shelf
open Go.Proofs.YtgepcdohgiiaaaaW.PrintWords (nums own_slice step_append_cells ReadsInt)
set_option linter.unusedSimpArgs false
set_option linter.unusedVariables false

/-- A maker, told without memory. -/
structure MakerM where
  grid : List (List Int)
  rows : Nat
  lost : Bool
  sync : Bool
def blankG : List (List Int) := List.replicate 320 (List.replicate 160 0)
def newM : MakerM := ⟨blankG, 0, false, false⟩

def IsMaker (w : World) (B mb : Nat) (m : MakerM) : Prop :=
  ∃ gb, B ≤ mb ∧ w.heap[mb]? = some (.cells (makerCells gb m.rows m.lost m.sync) 76 (0, 0)) ∧ IsGrid w B gb 160 m.grid ∧ m.grid.length = 320 ∧ m.rows ≤ 320

/-- A picture's rows in memory. -/
def FrameIs (w : World) (v : Value) (G : List (List Int)) : Prop := ∃ vs, w.ownsRow 0 45 1 v G.length vs ∧ GivenRows w vs G G.length

theorem IsGrid.keptBut {w w' : World} {B gb n mb t : Nat} (ht : t ≠ 111 ∧ t ≠ 45 ∧ t ≠ 5) {cs : Array Value} {fr : Nat × Nat} {G : List (List Int)} (h : IsGrid w B gb n G) (hm : w.heap[mb]? = some (.cells cs t fr))
    (hk : ∀ (b : Nat) (cs : Array Value) (t : TypeId) (fr : Nat × Nat), b ≠ mb → w.heap[b]? = some (.cells cs t fr) → w'.heap[b]? = some (.cells cs t fr)) : IsGrid w' B gb n G := by
  obtain ⟨v, bs, hB, hg, ho, hr⟩ := h
  refine ⟨v, bs, hB, hk _ _ _ _ (block_ne hg hm (fun e => ht.1 e.symm)) hg, ?_, ?_⟩
  · obtain ⟨h1, h2⟩ := ho
    refine ⟨h1, ?_⟩
    rcases h2 with h2 | ⟨g, cap, cur, hv, hg', hh, r⟩
    · exact .inl h2
    · exact .inr ⟨g, cap, cur, hv, hg', hk _ _ _ _ (block_ne hh hm (fun e => ht.2.1 e.symm)) hh, r⟩
  · exact ⟨hr.len, hr.nodup, hr.base, fun i hi => ⟨hk _ _ _ _ (block_ne (hr.row i hi).1 hm (fun e => ht.2.2 e.symm)) (hr.row i hi).1, (hr.row i hi).2⟩⟩

set_option maxHeartbeats 800000 in
theorem blank_in (w : World) : Calls Try.prog 34 #[] w fun e w' => ∃ gb, e = .returned (.pointer (some ⟨gb, 0, none⟩)) ∧ IsGrid w' w.heap.size gb 160 blankG ∧ Below w.heap.size w w' := by
  have hng : Calls Try.prog 50 #[.int .i64 160, .int .i64 320, .int .u8 0] w fun e w' => ∃ gb, e = .returned (.pointer (some ⟨gb, 0, none⟩)) ∧ IsGrid w' w.heap.size gb 160 blankG ∧ Below w.heap.size w w' :=
    newGrid w 160 320 0 (by omega) (by omega) (by omega) (by omega)
  go_enter Try.func34, Try.ntmps34
  go_wp2_with (go_at_call 50; refine hng.mono ?_; rintro e w1 ⟨gb, rfl, hg, hb⟩)
  go_ret
  exact ⟨gb, rfl, hg, hb⟩

set_option maxHeartbeats 800000 in
theorem new_in (w : World) : Calls Try.prog 15 #[] w fun e w' => ∃ mb, e = .returned (.pointer (some ⟨mb, 0, none⟩)) ∧ IsMaker w' w.heap.size mb newM ∧ Below w.heap.size w w' := by
  have hu := Try.underlying76
  go_enter Try.func15, Try.ntmps15
  go_wp2_with (go_at_call 34; refine (blank_in _).mono ?_; rintro e w1 ⟨gb, rfl, hg, hb⟩)
  go_ret
  refine ⟨_, rfl, ⟨gb, hb.size, ?_, ?_, List.length_replicate, Nat.zero_le _⟩, hb.alloc hb.size _⟩
  · exact alloc_new w1 _
  · exact hg.cellsKept (CellsKept.of_below ((Below.refl _ _).alloc (Nat.le_refl _) _))

/-- A row begun. -/
def beginM (m : MakerM) (s : Bool) : MakerM × Option (List (List Int)) :=
  if s && !m.sync && decide (0 < m.rows) then (⟨blankG, 1, false, s⟩, some (m.grid.take m.rows))
  else if m.rows = 320 then (⟨m.grid, m.rows, true, s⟩, none) else (⟨m.grid, m.rows + 1, false, s⟩, none)

theorem grown_set (w : World) (a : Addr) (v : Value) : w.grownBy (w.setCell a v) (some a.block) :=
  ⟨rfl, rfl, rfl, by simp, fun k _ hk => Below.heap_setCell _ _ _ _ (fun e => hk (by rw [e]))⟩
theorem IsGrid.grown {w w' : World} {B gb n mb t : Nat} (ht : t ≠ 111 ∧ t ≠ 45 ∧ t ≠ 5) {cs : Array Value} {fr : Nat × Nat} {G : List (List Int)} (h : IsGrid w B gb n G) (hm : w.heap[mb]? = some (.cells cs t fr))
    (gr : w.grownBy w' (some mb)) : IsGrid w' B gb n G :=
  h.keptBut ht hm fun b cs t fr hne hb => (gr.block b (lt_of_block hb) (fun e => hne (by cases e; rfl))).trans hb
theorem IsGrid.low {w : World} {B B' gb n : Nat} {G : List (List Int)} (h : IsGrid w B gb n G) (hB : B' ≤ B) : IsGrid w B' gb n G := by
  obtain ⟨v, bs, h1, h2, h3, h4⟩ := h
  exact ⟨v, bs, by omega, h2, own_weaken' h3 hB, h4.low hB⟩
theorem own_grown {w w' : World} {base e size n mb t : Nat} {v : Value} {xs : List Value} {cs : Array Value} {fr : Nat × Nat} (h : w.ownsRow base e size v n xs) (hm : w.heap[mb]? = some (.cells cs t fr)) (ht : t ≠ e)
    (gr : w.grownBy w' (some mb)) : w'.ownsRow base e size v n xs := h.kept gr (.inr (own_ne_block h hm ht))
theorem FrameIs.grown {w w' : World} {mb t : Nat} (ht : t ≠ 111 ∧ t ≠ 45 ∧ t ≠ 5) {cs : Array Value} {fr : Nat × Nat} {v : Value} {G : List (List Int)} (h : FrameIs w v G) (hm : w.heap[mb]? = some (.cells cs t fr))
    (gr : w.grownBy w' (some mb)) : FrameIs w' v G := by
  obtain ⟨vs, h1, h2, h3⟩ := h
  exact ⟨vs, own_grown h1 hm ht.2.1 gr, h2, fun i hi => own_grown (h3 i hi) hm ht.2.2 gr⟩
theorem FrameIs.cellsKept {w w' : World} (hk : CellsKept w w') {v : Value} {G : List (List Int)} (h : FrameIs w v G) : FrameIs w' v G := by
  obtain ⟨vs, h1, h2⟩ := h
  exact ⟨vs, own_cells hk h1, h2.cellsKept hk⟩
theorem grown_below {B b : Nat} {w w' : World} (gr : w.grownBy w' (some b)) (hB : B ≤ b) (hw : B ≤ w.heap.size) : Below B w w' :=
  (Below.refl B w).grown gr hw (fun k e => by cases e; exact hB)
theorem maker5 {w : World} {gb mb r : Nat} {l s : Bool} (HC : w.heap[mb]? = some (.cells (makerCells gb r l s) 76 (0, 0))) (gb2 : Nat) :
    w.grownBy (((((w.setCell ⟨mb, 0, none⟩ (.pointer (some ⟨gb2, 0, none⟩))).setCell ⟨mb, 1, none⟩ (.int .i64 0)).setCell ⟨mb, 3, none⟩ (.bool true)).setCell ⟨mb, 2, none⟩ (.bool false)).setCell ⟨mb, 1, none⟩ (.int .i64 1)) (some mb) ∧
    (((((w.setCell ⟨mb, 0, none⟩ (.pointer (some ⟨gb2, 0, none⟩))).setCell ⟨mb, 1, none⟩ (.int .i64 0)).setCell ⟨mb, 3, none⟩ (.bool true)).setCell ⟨mb, 2, none⟩ (.bool false)).setCell ⟨mb, 1, none⟩ (.int .i64 1)).heap[mb]? = some (.cells (makerCells gb2 1 false true) 76 (0, 0)) := by
  have e1 := heap_setCell_same w mb 0 _ _ (.pointer (some ⟨gb2, 0, none⟩)) HC
  have e2 := heap_setCell_same _ mb 1 _ _ (.int .i64 0) e1
  have e3 := heap_setCell_same _ mb 3 _ _ (.bool true) e2
  have e4 := heap_setCell_same _ mb 2 _ _ (.bool false) e3
  have e5 := heap_setCell_same _ mb 1 _ _ (.int .i64 1) e4
  refine ⟨World.grownBy.trans (World.grownBy.trans (World.grownBy.trans (World.grownBy.trans (grown_set _ _ _) (grown_set _ _ _)) (grown_set _ _ _)) (grown_set _ _ _)) (grown_set _ _ _), ?_⟩
  rw [e5]
  simp [makerCells]
theorem begin_close {w W' : World} {B gb mb r r' : Nat} {l s l' s' : Bool} {G : List (List Int)} (hB : B ≤ mb) (HC : w.heap[mb]? = some (.cells (makerCells gb r l s) 76 (0, 0)))
    (hg : IsGrid w B gb 160 G) (hl : G.length = 320) (gr : w.grownBy W' (some mb)) (hc' : W'.heap[mb]? = some (.cells (makerCells gb r' l' s') 76 (0, 0))) (hr' : r' ≤ 320) :
    IsMaker W' B mb ⟨G, r', l', s'⟩ ∧ w.grownBy W' (some mb) := by
  have hml := lt_of_block HC
  refine ⟨⟨gb, hB, hc', hg.keptBut (by decide) HC ?_, hl, hr'⟩, gr⟩
  · intro b cs t fr hne hb
    exact (gr.block b (lt_of_block hb) (fun e => hne (by cases e; rfl))).trans hb
theorem maker2 {w : World} {gb mb r : Nat} {l s : Bool} (HC : w.heap[mb]? = some (.cells (makerCells gb r l s) 76 (0, 0))) (l' s' : Bool) (o : Obj) :
    w.grownBy (((w.setCell ⟨mb, 3, none⟩ (.bool s')).setCell ⟨mb, 2, none⟩ (.bool l')).alloc o) (some mb) ∧
    (((w.setCell ⟨mb, 3, none⟩ (.bool s')).setCell ⟨mb, 2, none⟩ (.bool l')).alloc o).heap[mb]? = some (.cells (makerCells gb r l' s') 76 (0, 0)) := by
  have hml := lt_of_block HC
  have e1 := heap_setCell_same w mb 3 _ _ (.bool s') HC
  have e2 := heap_setCell_same _ mb 2 _ _ (.bool l') e1
  refine ⟨World.grownBy.trans (World.grownBy.trans (grown_set _ _ _) (grown_set _ _ _)) (World.grownBy_alloc _ _ _), ?_⟩
  rw [Below.heap_alloc _ _ _ (by simp; omega), e2]
  simp [makerCells]
theorem maker3 {w : World} {gb mb r : Nat} {l s : Bool} (HC : w.heap[mb]? = some (.cells (makerCells gb r l s) 76 (0, 0))) (l' s' : Bool) (r' : Nat) (o : Obj) :
    w.grownBy ((((w.setCell ⟨mb, 3, none⟩ (.bool s')).setCell ⟨mb, 2, none⟩ (.bool l')).setCell ⟨mb, 1, none⟩ (.int .i64 r')).alloc o) (some mb) ∧
    ((((w.setCell ⟨mb, 3, none⟩ (.bool s')).setCell ⟨mb, 2, none⟩ (.bool l')).setCell ⟨mb, 1, none⟩ (.int .i64 r')).alloc o).heap[mb]? = some (.cells (makerCells gb r' l' s') 76 (0, 0)) := by
  have hml := lt_of_block HC
  have e1 := heap_setCell_same w mb 3 _ _ (.bool s') HC
  have e2 := heap_setCell_same _ mb 2 _ _ (.bool l') e1
  have e3 := heap_setCell_same _ mb 1 _ _ (.int .i64 r') e2
  refine ⟨World.grownBy.trans (World.grownBy.trans (World.grownBy.trans (grown_set _ _ _) (grown_set _ _ _)) (grown_set _ _ _)) (World.grownBy_alloc _ _ _), ?_⟩
  rw [Below.heap_alloc _ _ _ (by simp; omega), e3]
  simp [makerCells]

set_option maxHeartbeats 4000000 in
set_option maxRecDepth 100000 in
/-- begin, where no picture is told. -/
theorem begin_no (w : World) (B mb : Nat) (m : MakerM) (s : Bool) (hm : IsMaker w B mb m) (ht : (s && !m.sync && decide (0 < m.rows)) = false) :
    Calls Try.prog 35 #[.pointer (some ⟨mb, 0, none⟩), .bool s] w fun e w' =>
      e = .returned (.tuple #[.agg #[.slice none 0 0], .bool false]) ∧ IsMaker w' B mb (beginM m s).1 ∧ w.grownBy w' (some mb) := by
  obtain ⟨G, rows, lost, sync⟩ := m
  obtain ⟨gb, hB, hc, hg, hl, hr⟩ := hm
  simp only at hB hc hg hl hr ht
  have hml := lt_of_block hc
  have c0 := (cell_row hc 0).1
  have c1 := (cell_row hc 1).1
  have c2 := (cell_row hc 2).1
  have c3 := (cell_row hc 3).1
  have f0 := (cell_row hc 0).2
  have f1 := (cell_row hc 1).2
  have f2 := (cell_row hc 2).2
  have f3 := (cell_row hc 3).2
  simp [makerCells] at c0 c1 c2 c3
  have hne : mb ≠ w.heap.size := by omega
  have HC := Lib.hid hc
  clear hc
  have hr0 : (0 : Int) ≤ rows := by omega
  have hr1 : (rows : Int) ≤ 320 := by omega
  have hres : (beginM ⟨G, rows, lost, sync⟩ s).1 = if rows = 320 then ⟨G, rows, true, s⟩ else ⟨G, rows + 1, false, s⟩ := by
    unfold beginM; simp only [ht]; simp only [Bool.false_eq_true, if_false]; split <;> rfl
  rw [hres]
  clear hres
  by_cases he : rows = 320
  · rw [if_pos he]
    have hb : ((rows : Int) == 320) = true := by rw [beq_iff_eq]; omega
    have hs : s = false ∨ sync = true := by
      cases s <;> cases sync <;> simp_all
    have e : ∀ W', w.grownBy W' (some mb) ∧ W'.heap[mb]? = some (.cells (makerCells gb rows true s) 76 (0, 0)) → IsMaker W' B mb ⟨G, rows, true, s⟩ ∧ w.grownBy W' (some mb) :=
      fun W' ⟨h1, h2⟩ => begin_close hB HC.out hg hl h1 h2 hr
    have HE := Lib.hid e
    clear e ht
    have he' : (rows : Int) = 320 := by omega
    clear he
    rcases hs with rfl | rfl
    · go_enter Try.func35, Try.ntmps35
      go_wp2
      refine bodyPost_ret (v := .tuple #[.agg #[.slice none 0 0], .bool false]) (by simp [results, Try.results35, go_sem]) rfl ⟨rfl, HE.out _ (maker2 HC.out _ _ _)⟩
    · cases s
      all_goals
        go_enter Try.func35, Try.ntmps35
        go_wp2
        refine bodyPost_ret (v := .tuple #[.agg #[.slice none 0 0], .bool false]) (by simp [results, Try.results35, go_sem]) rfl ⟨rfl, HE.out _ (maker2 HC.out _ _ _)⟩
  · rw [if_neg he]
    have hb : ((rows : Int) == 320) = false := by rw [beq_eq_false_iff_ne]; omega
    have hs : s = false ∨ sync = true ∨ rows = 0 := by
      cases s <;> cases sync <;> simp_all
    have e : ∀ W', w.grownBy W' (some mb) ∧ W'.heap[mb]? = some (.cells (makerCells gb (rows + 1) false s) 76 (0, 0)) → IsMaker W' B mb ⟨G, rows + 1, false, s⟩ ∧ w.grownBy W' (some mb) :=
      fun W' ⟨h1, h2⟩ => begin_close hB HC.out hg hl h1 h2 (by omega)
    have HE := Lib.hid e
    have hlt : (rows : Int) < 320 := by omega
    clear e ht he
    rcases hs with rfl | rfl | rfl
    · go_enter Try.func35, Try.ntmps35
      go_wp2
      refine bodyPost_ret (v := .tuple #[.agg #[.slice none 0 0], .bool false]) (by simp [results, Try.results35, go_sem]) rfl ⟨rfl, HE.out _ (maker3 HC.out _ _ _ _)⟩
    · cases s
      all_goals
        go_enter Try.func35, Try.ntmps35
        go_wp2
        refine bodyPost_ret (v := .tuple #[.agg #[.slice none 0 0], .bool false]) (by simp [results, Try.results35, go_sem]) rfl ⟨rfl, HE.out _ (maker3 HC.out _ _ _ _)⟩
    · cases s <;> cases sync
      all_goals
        go_enter Try.func35, Try.ntmps35
        go_wp2
        refine bodyPost_ret (v := .tuple #[.agg #[.slice none 0 0], .bool false]) (by simp [results, Try.results35, go_sem]) rfl ⟨rfl, HE.out _ (maker3 HC.out _ _ _ _)⟩

set_option maxHeartbeats 4000000 in
set_option maxRecDepth 100000 in
/-- begin, where a picture is told. -/
theorem begin_yes (w : World) (B mb : Nat) (m : MakerM) (hm : IsMaker w B mb m) (hBw : B ≤ w.heap.size) (hs : m.sync = false) (hr0 : 0 < m.rows) :
    Calls Try.prog 35 #[.pointer (some ⟨mb, 0, none⟩), .bool true] w fun e w' => ∃ v,
      e = .returned (.tuple #[.agg #[v], .bool true]) ∧ FrameIs w' v (m.grid.take m.rows) ∧ IsMaker w' B mb (beginM m true).1 ∧ w.grownBy w' (some mb) := by
  obtain ⟨G, rows, lost, sync⟩ := m
  obtain ⟨gb, hB, hc, hg, hl, hr⟩ := hm
  simp only at hB hc hg hl hr hs hr0
  subst hs
  have hml := lt_of_block hc
  have c0 := (cell_row hc 0).1
  have c1 := (cell_row hc 1).1
  have c2 := (cell_row hc 2).1
  have c3 := (cell_row hc 3).1
  have f0 := (cell_row hc 0).2
  have f1 := (cell_row hc 1).2
  have f2 := (cell_row hc 2).2
  have f3 := (cell_row hc 3).2
  simp [makerCells] at c0 c1 c2 c3
  have hne : mb ≠ w.heap.size := by omega
  have HC := Lib.hid hc
  clear hc
  have hr2 : (0 : Int) < rows := by omega
  have hr1 : (rows : Int) ≤ 320 := by omega
  have hbel0 : Below w.heap.size w (w.alloc (Obj.cells #[Value.slice none 0 0] 33)) := (Below.refl _ _).alloc (Nat.le_refl _) _
  have HM0 := Lib.hid ((hbel0.block mb hml).trans HC.out)
  have hg0 := hg.cellsKept (CellsKept.of_below hbel0)
  have HR0 := Lib.hid (alloc_new w (Obj.cells #[Value.slice none 0 0] 33))
  go_enter Try.func35, Try.ntmps35
  go_wp2_with fail
  refine (rows_in _ B mb gb rows lost false G (by omega) hr HM0.out hg0).mono ?_
  rintro e w1 ⟨v, vs, rfl, ho, hgr, hb1⟩
  have HM1 := Lib.hid ((hb1.block mb (by simp; omega)).trans HM0.out)
  have HR1 := Lib.hid ((hb1.block w.heap.size (by simp)).trans HR0.out)
  have cr := cell_of_one HR1.out
  have fr := free_of_one HR1.out
  have d0 := (cell_row HM1.out 0).1
  have d1 := (cell_row HM1.out 1).1
  have d2 := (cell_row HM1.out 2).1
  have d3 := (cell_row HM1.out 3).1
  have g0 := (cell_row HM1.out 0).2
  have g1 := (cell_row HM1.out 1).2
  have g2 := (cell_row HM1.out 2).2
  have g3 := (cell_row HM1.out 3).2
  simp [makerCells] at d0 d1 d2 d3
  obtain ⟨A, c, rfl⟩ := own_slice ho
  have HO := Lib.hid ho
  clear ho
  go_wp2_with fail
  refine (blank_in _).mono ?_
  rintro e w2 ⟨gb2, rfl, hg2, hb2⟩
  have hsz1 : w.heap.size + 1 ≤ w1.heap.size := by simpa using hb1.size
  have hnr : mb ≠ w.heap.size := hne
  have HM1' : (w1.setCell ⟨w.heap.size, 0, none⟩ (.slice A rows c)).heap[mb]? = some (.cells (makerCells gb rows lost false) 76 (0, 0)) := by
    rw [Below.heap_setCell _ _ _ _ hne]; exact HM1.out
  have HM2 := Lib.hid ((hb2.block mb (by simp; omega)).trans HM1')
  have HR2 := Lib.hid ((hb2.block w.heap.size (by simp; omega)).trans (one_setCell (u := .slice A rows c) HR1.out))
  clear HM1' hne
  have cr2 := cell_of_one HR2.out
  have fr2 := free_of_one HR2.out
  have e0 := (cell_row HM2.out 0).1
  have e1 := (cell_row HM2.out 1).1
  have e2 := (cell_row HM2.out 2).1
  have e3 := (cell_row HM2.out 3).1
  have h0 := (cell_row HM2.out 0).2
  have h1 := (cell_row HM2.out 1).2
  have h2 := (cell_row HM2.out 2).2
  have h3 := (cell_row HM2.out 3).2
  simp [makerCells] at e0 e1 e2 e3
  go_wp2
  obtain ⟨gr2, hm2⟩ := maker5 HM2.out gb2
  generalize ((((w2.setCell ⟨mb, 0, none⟩ (.pointer (some ⟨gb2, 0, none⟩))).setCell ⟨mb, 1, none⟩ (.int .i64 0)).setCell ⟨mb, 3, none⟩ (.bool true)).setCell ⟨mb, 2, none⟩ (.bool false)).setCell ⟨mb, 1, none⟩ (.int .i64 1) = W2 at *
  have hr2 : W2.heap[w.heap.size]? = some (.cells #[.slice A rows c] 33 (0, 0)) := (gr2.block _ (by have := hb2.size; simp at this; omega) (fun e => hnr (by cases e; rfl))).trans HR2.out
  have hrf := one_setCell (u := .slice A rows c) hr2
  have gr3 := grown_set W2 ⟨w.heap.size, 0, none⟩ (.slice A rows c)
  have hrc := cell_of_one hrf
  have F1 : FrameIs w1 (.slice A rows c) (G.take rows) := by
    have hlen : (G.take rows).length = rows := by rw [List.length_take]; omega
    refine ⟨vs, ?_, ?_⟩
    · rw [hlen]; exact own_weaken' HO.out (Nat.zero_le _)
    · rw [hlen]
      refine ⟨hgr.1, fun i hi => ?_⟩
      have : (G.take rows).getD i [] = G.getD i [] := by simp [List.getD_eq_getElem?_getD, List.getElem?_take, hi]
      rw [this]; exact hgr.2 i hi
  have F2 := (F1.grown (by decide) HR1.out (grown_set w1 ⟨w.heap.size, 0, none⟩ (.slice A rows c))).cellsKept (CellsKept.of_below hb2)
  have F3 := (F2.grown (by decide) HM2.out gr2).grown (by decide) hr2 gr3
  refine bodyPost_ret (v := .tuple #[.agg #[.slice A rows c], .bool true]) (by simp [results, Try.results35, go_sem, hrc]) rfl ⟨_, rfl, F3, ?_, ?_⟩
  · have hbm : (beginM ⟨G, rows, lost, false⟩ true).1 = ⟨blankG, 1, false, true⟩ := by simp [beginM, hr0]
    rw [hbm]
    refine ⟨gb2, hB, ?_, ?_, List.length_replicate, (by show (1 : Nat) ≤ 320; omega)⟩
    · rw [Below.heap_setCell _ _ _ _ hnr]; exact hm2
    · exact ((hg2.low (by simp; omega)).grown (by decide) HM2.out gr2).grown (by decide) hr2 gr3
  · have b1 : Below w.heap.size w w1 := hbel0.trans (hb1.mono (by simp))
    have b2 : Below w.heap.size w1 w2 := ((Below.refl _ _).setCell (p := ⟨w.heap.size, 0, none⟩) (Nat.le_refl _) _).trans (hb2.mono (by simp; omega))
    have b3 := b1.trans b2
    refine ⟨gr2.os.trans b3.os, gr2.tape.trans b3.tape, gr2.output.trans b3.output, ?_, fun k hk hne => ?_⟩
    · have := gr2.size; have := b3.size; simp; omega
    · rw [Below.heap_setCell _ _ _ _ (by simp; omega)]
      exact (gr2.block k (by have := b3.size; omega) hne).trans (b3.block k hk)
end Go.Proofs.Ytgepcdohgiiaaaa
