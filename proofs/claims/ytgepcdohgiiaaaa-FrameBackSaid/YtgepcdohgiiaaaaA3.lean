/- The grid: at, Set, Row. -/
import Derived.Test.YtgepcdohgiiaaaaA2
namespace Go.Proofs.Ytgepcdohgiiaaaa
open Go.RowKit
open Go.Proofs.YtgepcdohgiiaaaaW.PrintWords (nums own_slice step_append_cells)
set_option linter.unusedSimpArgs false
set_option linter.unusedVariables false

theorem nodup_inj {l : List Nat} (h : l.Nodup) {i j : Nat} (hi : i < l.length) (hj : j < l.length) (e : l[i] = l[j]) : i = j := by
  rcases Nat.lt_trichotomy i j with hlt | he | hgt
  · exact absurd e (List.pairwise_iff_getElem.1 h i j hi hj hlt)
  · exact he
  · exact absurd e.symm (List.pairwise_iff_getElem.1 h j i hj hi hgt)
theorem cell_row {w : World} {b t : Nat} {cs : Array Value} (h : w.heap[b]? = some (.cells cs t (0, 0))) (i : Nat) : w.cell? ⟨b, i, none⟩ = cs[i]? ∧ w.frozen? ⟨b, i, none⟩ = false := by
  constructor
  · simp [World.cell?, h]
  · simp [World.frozen?, h]
theorem nums_get (k : IntKind) (xs : List Int) (i : Nat) (h : i < xs.length) : (nums k xs).toArray[i]? = some (.int k (xs.getD i 0)) := by
  simp [nums, List.getD_eq_getElem?_getD, h]
theorem RowsAt.cellAt {w : World} {B n : Nat} {bs : List Nat} {G : List (List Int)} (h : RowsAt w B n bs G) {y x : Nat} (hy : y < G.length) (hx : x < n) :
    w.cell? ⟨bs.getD y 0, x, none⟩ = some (.int .u8 ((G.getD y []).getD x 0)) ∧ w.frozen? ⟨bs.getD y 0, x, none⟩ = false := by
  obtain ⟨h1, h2⟩ := h.row y hy
  have := cell_row h1 x
  rw [nums_get _ _ _ (by omega)] at this
  exact this

set_option maxHeartbeats 800000 in
set_option maxRecDepth 100000 in
theorem at_in (w : World) (gb rb h hc wd wc y x rowb : Nat) (hw : wd ≤ 9223372036854775807) (hh : h ≤ 9223372036854775807)
    (hx : x < wd) (hy : y < h)
    (h0 : w.cell? ⟨gb, 0, none⟩ = some (.slice (some ⟨rb, 0, none⟩) h hc))
    (h1 : w.cell? ⟨rb, y, none⟩ = some (.slice (some ⟨rowb, 0, none⟩) wd wc)) :
    Calls Try.prog 51 #[.pointer (some ⟨gb, 0, none⟩), .int .i64 x, .int .i64 y] w fun e w' =>
      e = .returned (.tuple #[.pointer (some ⟨rowb, x, none⟩), .int .i64 0]) ∧ w = w' := by
  have hx0 : (0:Int) ≤ x := by omega
  have hy0 : (0:Int) ≤ y := by omega
  have hx1 : (x : Int) < wd := by omega
  have hy1 : (y : Int) < h := by omega
  go_enter Try.func51, Try.ntmps51
  go_wp2
  go_ret2
  exact ⟨by simp, rfl⟩

/-- A grid that is not there. -/
theorem at_nil (w : World) (x y : Int) :
    Calls Try.prog 51 #[.pointer none, .int .i64 x, .int .i64 y] w fun e w' => e = .returned (.tuple #[.pointer none, .int .i64 1]) ∧ w = w' := by
  go_enter Try.func51, Try.ntmps51
  go_wp2
  go_ret2
  exact ⟨rfl, rfl⟩

/-- A pixel set. -/
def setPx (G : List (List Int)) (x y : Nat) (v : Int) : List (List Int) := G.set y ((G.getD y []).set x v)

theorem getD_set_same {α : Type} (l : List α) (i : Nat) (v d : α) (h : i < l.length) : (l.set i v).getD i d = v := by simp [List.getD_eq_getElem?_getD, h]
theorem getD_set_other {α : Type} (l : List α) (i j : Nat) (v d : α) (h : i ≠ j) : (l.set i v).getD j d = l.getD j d := by simp [List.getD_eq_getElem?_getD, List.getElem?_set, h]
theorem nums_set (k : IntKind) (xs : List Int) (i : Nat) (v : Int) : (nums k xs).toArray.setIfInBounds i (.int k v) = (nums k (xs.set i v)).toArray := by
  simp [nums, List.map_set]
theorem RowsAt.setPx {w : World} {B n : Nat} {bs : List Nat} {G : List (List Int)} (h : RowsAt w B n bs G) {y x : Nat} (hy : y < G.length) (v : Int) :
    RowsAt (w.setCell ⟨bs.getD y 0, x, none⟩ (.int .u8 v)) B n bs (setPx G x y v) := by
  refine ⟨by simp [Ytgepcdohgiiaaaa.setPx, h.len], h.nodup, h.base, fun i hi => ?_⟩
  have hi' : i < G.length := by simpa [Ytgepcdohgiiaaaa.setPx] using hi
  obtain ⟨hr, hl⟩ := h.row i hi'
  by_cases e : y = i
  · subst e
    have hs : (Ytgepcdohgiiaaaa.setPx G x y v).getD y [] = (G.getD y []).set x v := getD_set_same _ _ _ _ hy
    rw [hs]
    refine ⟨?_, by simpa using hl⟩
    rw [heap_setCell_same w _ x _ _ _ hr, nums_set]
  · have hs : (Ytgepcdohgiiaaaa.setPx G x y v).getD i [] = G.getD i [] := getD_set_other _ _ _ _ _ e
    rw [hs]
    refine ⟨?_, hl⟩
    rw [Below.heap_setCell _ _ _ _ ?_]
    · exact hr
    · intro hk
      have hk' : bs.getD i 0 = bs.getD y 0 := hk
      have hyb : y < bs.length := by rw [h.len]; exact hy
      have hib : i < bs.length := by rw [h.len]; exact hi'
      simp only [List.getD_eq_getElem?_getD, List.getElem?_eq_getElem hyb, List.getElem?_eq_getElem hib, Option.getD_some] at hk'
      exact e (nodup_inj h.nodup hyb hib hk'.symm)

/-- What a grid tells the walk. -/
theorem IsGrid.open {w : World} {B gb n : Nat} {G : List (List Int)} (h : IsGrid w B gb n G) (hG : 0 < G.length) :
    ∃ rb cap bs, w.cell? ⟨gb, 0, none⟩ = some (.slice (some ⟨rb, 0, none⟩) G.length cap) ∧ w.frozen? ⟨gb, 0, none⟩ = false ∧ RowsAt w B n bs G ∧ G.length ≤ 9223372036854775807 ∧
      (∀ i, i < G.length → w.cell? ⟨rb, i, none⟩ = some (rowV n (bs.getD i 0))) ∧
      ∀ x y v, y < G.length → B ≤ bs.getD y 0 ∧ IsGrid (w.setCell ⟨bs.getD y 0, x, none⟩ (.int .u8 v)) B gb n (setPx G x y v) := by
  obtain ⟨v, bs, hB, hg, ho, hr⟩ := h
  have hc := cell_of_one hg
  have hf := free_of_one hg
  have hset : ∀ x y u, y < G.length → B ≤ bs.getD y 0 ∧ IsGrid (w.setCell ⟨bs.getD y 0, x, none⟩ (.int .u8 u)) B gb n (setPx G x y u) := by
    intro x y u hy
    have hm : bs.getD y 0 ∈ bs := by
      rw [List.getD_eq_getElem?_getD, List.getElem?_eq_getElem (by rw [hr.len]; exact hy)]
      exact List.getElem_mem _
    obtain ⟨_, r, hb⟩ := hr.mem _ hm
    refine ⟨hr.base _ hm, v, bs, hB, ?_, ?_, hr.setPx hy u⟩
    · rw [Below.heap_setCell _ _ _ _ (block_ne hg hb (by omega))]; exact hg
    · rw [show (setPx G x y u).length = G.length from by simp [setPx]]
      exact ownsRow_setCell_other ho (own_ne_block ho hb (by omega)) _
  rcases ho.2 with ⟨_, h0⟩ | ⟨rb, cap, cur, rfl, _, hh, h1, h2, h3, h4⟩
  · omega
  · refine ⟨rb, cap, bs, hc, hf, hr, by simp only [maxLen] at h2; omega, fun i hi => ?_, hset⟩
    have hm : (bs.map (rowV n))[i]? = some (rowV n (bs.getD i 0)) := by
      have hb : i < bs.length := by rw [hr.len]; exact hi
      simp [List.getD_eq_getElem?_getD, hb]
    have := World.ownsRow.cellAt (show w.ownsRow B 45 1 (.slice (some ⟨rb, 0, none⟩) G.length cap) G.length (bs.map (rowV n)) from ho) i (by omega)
    rw [this, hm]

set_option maxHeartbeats 800000 in
set_option maxRecDepth 100000 in
/-- Set. -/
theorem set_in (w : World) (B gb n : Nat) (G : List (List Int)) (x y : Nat) (v : Int) (hG : IsGrid w B gb n G) (hn : n ≤ 9223372036854775807) (hx : x < n) (hy : y < G.length) :
    Calls Try.prog 36 #[.pointer (some ⟨gb, 0, none⟩), .int .i64 x, .int .i64 y, .int .u8 v] w fun e w' =>
      e = .returned (.int .i64 0) ∧ ∃ b cs, B ≤ b ∧ w' = w.setCell ⟨b, x, none⟩ (.int .u8 v) ∧ IsGrid w' B gb n (setPx G x y v) ∧ w.heap[b]? = some (.cells cs 5 (0, 0)) := by
  obtain ⟨rb, cap, bs, h0, hf0, hr, hl, h1, hset⟩ := hG.open (by omega)
  have h1' := h1 y hy
  obtain ⟨hp, hpf⟩ := hr.cellAt hy hx
  obtain ⟨hb, hres⟩ := hset x y v hy
  have hblk := (hr.row y hy).1
  generalize bs.getD y 0 = b at *
  have HR := Lib.hid hres
  have HK := Lib.hid hblk
  clear hset h1 hres hblk
  go_enter Try.func36, Try.ntmps36
  go_wp2_with (go_at_call 51; refine (at_in _ gb rb G.length cap n n y x b hn hl hx hy (by assumption) h1').mono ?_; rintro e w' ⟨rfl, rfl⟩)
  go_ret
  exact ⟨rfl, b, _, hb, rfl, HR.out, HK.out⟩

theorem set_nil (w : World) (x y v : Int) :
    Calls Try.prog 36 #[.pointer none, .int .i64 x, .int .i64 y, .int .u8 v] w fun e w' => e = .returned (.int .i64 1) ∧ w = w' := by
  go_enter Try.func36, Try.ntmps36
  go_wp2_with (go_at_call 51; refine (at_nil _ x y).mono ?_; rintro e w' ⟨rfl, rfl⟩)
  go_ret
  exact ⟨rfl, rfl⟩
end Go.Proofs.Ytgepcdohgiiaaaa
