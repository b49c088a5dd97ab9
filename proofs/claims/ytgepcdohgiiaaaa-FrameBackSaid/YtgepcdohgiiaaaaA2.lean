/- The grid: NewGrid, at, Set, Row. -/
import Derived.Test.YtgepcdohgiiaaaaA1
namespace Go.Proofs.Ytgepcdohgiiaaaa
open Go.RowKit
open Go.Proofs.YtgepcdohgiiaaaaW.PrintWords (nums own_slice step_append_cells)
set_option linter.unusedSimpArgs false
set_option linter.unusedVariables false

theorem Try.info45 : (Try.prog.info? 45).map (fun i => (i.zero, i.size, i.bytes)) = some (some (.slice none 0 0), 1, 24) := by kernel_rfl

def rowV (n b : Nat) : Value := .slice (some ⟨b, 0, none⟩) n n
/-- Rows in blocks of their own from B on. -/
structure RowsAt (w : World) (B n : Nat) (bs : List Nat) (G : List (List Int)) : Prop where
  len : bs.length = G.length
  nodup : bs.Nodup
  base : ∀ b ∈ bs, B ≤ b
  row : ∀ i, i < G.length → w.heap[bs.getD i 0]? = some (.cells (nums .u8 (G.getD i [])).toArray 5 (0, 0)) ∧ (G.getD i []).length = n

theorem RowsAt.mem {w : World} {B n : Nat} {bs : List Nat} {G : List (List Int)} (h : RowsAt w B n bs G) : ∀ b ∈ bs, b < w.heap.size ∧ ∃ r, w.heap[b]? = some (.cells (nums .u8 r).toArray 5 (0, 0)) := by
  intro b hb
  obtain ⟨i, hi, rfl⟩ := List.getElem_of_mem hb
  have := (h.row i (by rw [← h.len]; exact hi)).1
  rw [List.getD_eq_getElem?_getD, List.getElem?_eq_getElem hi] at this
  exact ⟨lt_of_block this, _, this⟩
/-- The rows live on where their blocks read as before. -/
theorem RowsAt.kept {w w' : World} {B n : Nat} {bs : List Nat} {G : List (List Int)} (h : RowsAt w B n bs G) (hk : ∀ b ∈ bs, w'.heap[b]? = w.heap[b]?) : RowsAt w' B n bs G :=
  ⟨h.len, h.nodup, h.base, fun i hi => by
    have hm : bs.getD i 0 ∈ bs := by
      rw [List.getD_eq_getElem?_getD, List.getElem?_eq_getElem (by rw [h.len]; exact hi)]
      exact List.getElem_mem _
    rw [hk _ hm]; exact h.row i hi⟩
theorem RowsAt.below {w w' : World} {B n : Nat} {bs : List Nat} {G : List (List Int)} (h : RowsAt w B n bs G) (hb : Below w.heap.size w w') : RowsAt w' B n bs G :=
  h.kept fun b hm => hb.block b (h.mem b hm).1
theorem RowsAt.grown {w w' : World} {B n : Nat} {bs : List Nat} {G : List (List Int)} (h : RowsAt w B n bs G) {row : Option Nat} (hg : w.grownBy w' row) (hr : ∀ b ∈ bs, some b ≠ row) : RowsAt w' B n bs G :=
  h.kept fun b hm => hg.block b (h.mem b hm).1 (hr b hm)
theorem RowsAt.snoc {w : World} {B n : Nat} {bs : List Nat} {G : List (List Int)} (h : RowsAt w B n bs G) {b : Nat} {r : List Int} (hb : B ≤ b) (hn : b ∉ bs)
    (hr : w.heap[b]? = some (.cells (nums .u8 r).toArray 5 (0, 0))) (hl : r.length = n) : RowsAt w B n (bs ++ [b]) (G ++ [r]) := by
  refine ⟨by simp [h.len], ?_, ?_, fun i hi => ?_⟩
  · rw [List.nodup_append]
    exact ⟨h.nodup, by simp, by intro a ha b' hb' e; simp at hb'; subst hb'; subst e; exact hn ha⟩
  · intro a ha
    rcases List.mem_append.1 ha with ha | ha
    · exact h.base a ha
    · simp at ha; subst ha; exact hb
  · rcases Nat.lt_or_ge i G.length with hlt | hge
    · have e1 : (bs ++ [b]).getD i 0 = bs.getD i 0 := by simp [List.getD_eq_getElem?_getD, List.getElem?_append_left (show i < bs.length by rw [h.len]; exact hlt)]
      have e2 : (G ++ [r]).getD i [] = G.getD i [] := by simp [List.getD_eq_getElem?_getD, List.getElem?_append_left hlt]
      rw [e1, e2]; exact h.row i hlt
    · have hi' : i = G.length := by simp at hi; omega
      subst hi'
      have e1 : (bs ++ [b]).getD G.length 0 = b := by rw [← h.len]; simp [List.getD_eq_getElem?_getD]
      have e2 : (G ++ [r]).getD G.length [] = r := by simp [List.getD_eq_getElem?_getD]
      rw [e1, e2]; exact ⟨hr, hl⟩

/-- A grid in memory of the call's own. -/
def IsGrid (w : World) (B gb n : Nat) (G : List (List Int)) : Prop :=
  ∃ v bs, B ≤ gb ∧ w.heap[gb]? = some (.cells #[v] 111 (0, 0)) ∧ w.ownsRow B 45 1 v G.length (bs.map (rowV n)) ∧ RowsAt w B n bs G

theorem RowsAt.low {w : World} {B B' n : Nat} {bs : List Nat} {G : List (List Int)} (h : RowsAt w B n bs G) (hb : B' ≤ B) : RowsAt w B' n bs G :=
  ⟨h.len, h.nodup, fun b hm => Nat.le_trans hb (h.base b hm), h.row⟩
theorem own_weaken' {w : World} {base base' : Nat} {e : TypeId} {size n : Nat} {v : Value} {xs : List Value} (h : w.ownsRow base e size v n xs) (hb : base' ≤ base) : w.ownsRow base' e size v n xs :=
  Go.Proofs.YtgepcdohgiiaaaaW.PrintWords.own_weaken h hb
theorem partRow_nums (n : Nat) (v : Int) : partRow n n v = nums .u8 (List.replicate n v) := by simp [partRow, nums]

theorem bcell {W w1 : World} (hb : Below W.heap.size W w1) : (∀ b o, b < W.heap.size → w1.cell? ⟨b, o, none⟩ = W.cell? ⟨b, o, none⟩) ∧ (∀ b o, b < W.heap.size → w1.frozen? ⟨b, o, none⟩ = W.frozen? ⟨b, o, none⟩) :=
  ⟨fun b o h => hb.cell (p := ⟨b, o, none⟩) h, fun b o h => hb.frozen (p := ⟨b, o, none⟩) h⟩

theorem own_ne_block {w : World} {B e size n : Nat} {v : Value} {xs : List Value} (h : w.ownsRow B e size v n xs) {b t : Nat} {cs : Array Value} {fr : Nat × Nat}
    (hb : w.heap[b]? = some (.cells cs t fr)) (hne : t ≠ e) : v.ownBlock ≠ some b := by
  intro hk
  rcases h.2 with ⟨rfl, _⟩ | ⟨g, cap, cur, rfl, _, hh, _⟩
  · simp [Value.ownBlock] at hk
  · have : g = b := by simpa [Value.ownBlock] using hk
    subst this
    rw [hh] at hb
    injection hb with hb
    injection hb with _ ht _
    exact hne ht.symm
theorem block_ne {w : World} {a b t u : Nat} {cs ds : Array Value} {f1 f2 : Nat × Nat} (ha : w.heap[a]? = some (.cells cs t f1)) (hb : w.heap[b]? = some (.cells ds u f2)) (hne : t ≠ u) : a ≠ b := by
  intro e; subst e
  rw [ha] at hb
  injection hb with hb
  injection hb with _ ht _
  exact hne ht
theorem RowsAt.setCell {w : World} {B n : Nat} {bs : List Nat} {G : List (List Int)} (h : RowsAt w B n bs G) {a : Addr} (ha : a.block ∉ bs) (v : Value) : RowsAt (w.setCell a v) B n bs G :=
  h.kept fun b hm => Below.heap_setCell _ _ _ _ (fun e => ha (e ▸ hm))
theorem RowsAt.notin {w : World} {B n : Nat} {bs : List Nat} {G : List (List Int)} (h : RowsAt w B n bs G) {b t : Nat} {cs : Array Value} {fr : Nat × Nat} (hb : w.heap[b]? = some (.cells cs t fr)) (hne : t ≠ 5) : b ∉ bs := by
  intro hm
  obtain ⟨_, r, hr⟩ := h.mem b hm
  exact block_ne hb hr hne rfl
theorem grid_snoc {w1 w2 : World} {B gb n k g : Nat} {v v1 : Value} {bs : List Nat} {G : List (List Int)} {r : List Int}
    (HG : w1.heap[gb]? = some (.cells #[v] 111 (0, 0))) (HO : w1.ownsRow B 45 1 v k (bs.map (rowV n))) (HR : RowsAt w1 B n bs G)
    (hrow : w1.heap[g]? = some (.cells (nums .u8 r).toArray 5 (0, 0))) (hB : B ≤ g) (hgn : g ∉ bs) (hl : r.length = n)
    (hg : w1.grownBy w2 v.ownBlock) (HO2 : w2.ownsRow B 45 1 v1 (k + 1) (bs.map (rowV n) ++ [rowV n g])) :
    w2.heap[gb]? = some (.cells #[v] 111 (0, 0)) ∧ (w2.setCell ⟨gb, 0, none⟩ v1).heap[gb]? = some (.cells #[v1] 111 (0, 0)) ∧
      (w2.setCell ⟨gb, 0, none⟩ v1).ownsRow B 45 1 v1 (k + 1) ((bs ++ [g]).map (rowV n)) ∧ RowsAt (w2.setCell ⟨gb, 0, none⟩ v1) B n (bs ++ [g]) (G ++ [r]) := by
  have n1 := own_ne_block HO HG (by omega)
  have n2 := own_ne_block HO hrow (by omega)
  have HG2 := (hg.block gb (lt_of_block HG) (fun e => n1 e.symm)).trans HG
  have hrow2 := (hg.block g (lt_of_block hrow) (fun e => n2 e.symm)).trans hrow
  have HR2 : RowsAt w2 B n bs G := HR.grown hg (fun b hm => by
    obtain ⟨_, r', hr'⟩ := HR.mem b hm
    exact fun e => own_ne_block HO hr' (by omega) e.symm)
  have n3 := own_ne_block HO2 HG2 (by omega)
  refine ⟨HG2, one_setCell HG2, ?_, ?_⟩
  · rw [List.map_append]
    exact ownsRow_setCell_other HO2 n3 _
  · refine (HR2.snoc hB hgn hrow2 hl).setCell ?_ _
    exact (HR2.snoc hB hgn hrow2 hl).notin HG2 (by omega)

set_option maxHeartbeats 2000000 in
set_option maxRecDepth 100000 in
theorem newGrid (w : World) (wd h : Nat) (fill : Int) (hw1 : 1 ≤ wd) (hh1 : 1 ≤ h) (hw2 : wd ≤ 1024) (hh2 : h ≤ 1024) :
    Calls Try.prog 50 #[.int .i64 wd, .int .i64 h, .int .u8 fill] w fun e w' =>
      ∃ gb, e = .returned (.pointer (some ⟨gb, 0, none⟩)) ∧ IsGrid w' w.heap.size gb wd (List.replicate h (List.replicate wd fill)) ∧ Below w.heap.size w w' := by
  have hu111 := Try.underlying111
  have a1 : ¬ ((wd : Int) < 1) := by omega
  have a2 : ¬ ((h : Int) < 1) := by omega
  have a3 : ¬ ((1024 : Int) < wd) := by omega
  have a4 : ¬ ((1024 : Int) < h) := by omega
  go_enter Try.func50, Try.ntmps50
  go_wp2
  obtain ⟨W0, hW0⟩ : ∃ W0, W0 = w.alloc (.cells #[Value.slice none 0 0] 111) := ⟨_, rfl⟩
  obtain ⟨gb, hgb⟩ : ∃ gb, gb = w.heap.size := ⟨_, rfl⟩
  have hB0 : Below w.heap.size w W0 := by rw [hW0]; exact (Below.refl _ _).alloc (Nat.le_refl _) _
  have hG0 : W0.heap[gb]? = some (.cells #[Value.slice none 0 0] 111 (0, 0)) := by rw [hW0, hgb]; exact alloc_new w _
  rw [← hW0, ← hgb]
  have HG0 := Lib.hid hG0
  have HGB := Lib.hid hgb
  have HW0 := Lib.hid hW0
  have hgble : w.heap.size ≤ gb := by omega
  clear hG0 hgb hW0
  go_loopw [25] (fun i wr => ∃ (k : Nat) (v : Value) (bs : List Nat), k ≤ h ∧ i = .int .i64 k ∧ Hid (wr.heap[gb]? = some (.cells #[v] 111 (0, 0))) ∧
      Hid (wr.ownsRow w.heap.size 45 1 v k (bs.map (rowV wd))) ∧ RowsAt wr w.heap.size wd bs (List.replicate k (List.replicate wd fill)) ∧ Below w.heap.size w wr)
    (fun i _ => h - (intOf i).toNat)
  case atStart =>
    exact ⟨0, .slice none 0 0, [], by omega, by first | rfl | go_num, HG0, World.ownsRow_nil _ _ _ _, ⟨rfl, by simp, by simp, by simp⟩, hB0⟩
  case round =>
    obtain ⟨k, v, bs, hk, rfl, HG, HO, HR, hB⟩ := hrel
    have hgl : gb < wr.heap.size := lt_of_block HG.out
    by_cases hlt : k < h
    · have hlt' : (k : Int) < h := by omega
      have hc := cell_of_one HG.out
      have hf := free_of_one HG.out
      obtain ⟨A, c, rfl⟩ := own_slice HO.out
      go_wp2_with fail
      go_region_law (first | (refine step_append_cells (w0 := w) w.heap.size rfl (.tmp 31) (.tmp 36) 27 45 (.slice none 0 0) 1 24 rfl Try.underlying27 Try.info45 rfl (by decide) (by decide) (.slice A k c) k (bs.map (rowV wd)) [rowV wd g] (by simp [Act.eval, Act.put]) (by simp [Act.eval, Act.put]) rfl (by simp [rowV, Value.oneCell']) HO1.out HB1 HB1.size (by omega) ?_; intro v1 w2 HO2 HB2 hgr hat; obtain ⟨HG2, HG3, HO3, HR3⟩ := grid_snoc HG1.out HO1.out HR1 hrow hgle hgn (by simp) hgr HO2; obtain ⟨A1, c1, rfl⟩ := own_slice HO2; have hc2 := cell_of_one HG2; have hf2 := free_of_one HG2) | (go_simp; go_at_call 57; refine (repeat_one _ _ _ fill wd hw1 (by omega) (by simp)).mono ?_; rintro e w1 ⟨g, rfl, hgg, hrow0, hb1⟩; obtain ⟨hc1, hf1⟩ := bcell hb1; have hrow := hrow0; rw [partRow_nums] at hrow; have HO1 := Lib.hid (Go.Proofs.YtgepcdohgiiaaaaW.PrintWords.pw_own_below (HO.out.drew.alloc _) hb1); have HG1 := Lib.hid ((hb1.block gb (by simp <;> omega)).trans ((Below.heap_alloc _ _ _ hgl).trans HG.out)); have hgl1 := lt_of_block HG1.out; have hcw := cell_of_one HG1.out; have hfw := free_of_one HG1.out; have HB1 := (hB.drew.alloc hB.size _).trans (hb1.mono (by have := hB.size; simp <;> omega)); have hgl2 : wr.heap.size + 1 ≤ g := (by simpa using hgg); have hgle : w.heap.size ≤ g := (by have := hB.size; omega); have hgn : g ∉ bs := fun hm => (by have := (HR.mem g hm).1; omega); have HR1 := (HR.below (((Below.refl _ _).drew).alloc (Nat.le_refl _) _)).below hb1 ))
      all_goals
        have hk1 : IntKind.i64.wrap ((k : Int) + 1) = (k : Int) + 1 := by rw [IntKind.wrap_i64]; omega
        go_simp
        go_wp2
        clear hk1
        go_roundw
        case rel => exact ⟨k + 1, _, bs ++ [g], by omega, by first | rfl | go_num | simp, HG3, HO3, by rw [List.replicate_succ']; exact HR3, HB2.setCell hgble _⟩
        case measure => simp [intOf]; omega
    · have hge : ¬ ((k : Int) < h) := by omega
      obtain rfl : k = h := by omega
      go_wp2
      go_ret
      exact ⟨gb, rfl, ⟨_, bs, hgble, HG.out, by simpa using HO.out, HR⟩, hB⟩
end Go.Proofs.Ytgepcdohgiiaaaa
