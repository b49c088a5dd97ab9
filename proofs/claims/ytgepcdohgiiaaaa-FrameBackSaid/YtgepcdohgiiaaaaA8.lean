/- The maker: Feed. -/
import Derived.Test.YtgepcdohgiiaaaaA7
import Derived.StillTailTactics
namespace Go.Proofs.Ytgepcdohgiiaaaa
open Go.RowKit Go.Shelf
open Go.Proofs.YtgepcdohgiiaaaaW.PrintWords (nums own_slice step_append_cells ReadsInt)
set_option linter.unusedSimpArgs false
set_option linter.unusedVariables false

set_option maxHeartbeats 800000 in
set_option maxRecDepth 100000 in
theorem at_neg (w : World) (gb : Nat) (x y : Int) (hy : y < 0) (hx : 0 ≤ x) :
    Calls Try.prog 51 #[.pointer (some ⟨gb, 0, none⟩), .int .i64 x, .int .i64 y] w fun e w' => e = .returned (.tuple #[.pointer none, .int .i64 6]) ∧ w = w' := by
  go_enter Try.func51, Try.ntmps51
  go_wp2
  go_ret2
  exact ⟨rfl, rfl⟩
set_option maxHeartbeats 800000 in
set_option maxRecDepth 100000 in
theorem at_far (w : World) (gb rb h hc wd wc x y rowb : Nat) (hw : wd ≤ 9223372036854775807) (hh : h ≤ 9223372036854775807)
    (hx : wd ≤ x) (hy : y < h)
    (h0 : w.cell? ⟨gb, 0, none⟩ = some (.slice (some ⟨rb, 0, none⟩) h hc))
    (h1 : w.cell? ⟨rb, y, none⟩ = some (.slice (some ⟨rowb, 0, none⟩) wd wc)) :
    Calls Try.prog 51 #[.pointer (some ⟨gb, 0, none⟩), .int .i64 x, .int .i64 y] w fun e w' =>
      e = .returned (.tuple #[.pointer none, .int .i64 6]) ∧ w = w' := by
  have hx0 : (0:Int) ≤ x := by omega
  have hy0 : (0:Int) ≤ y := by omega
  have hx1 : (wd : Int) ≤ x := by omega
  have hy1 : (y : Int) < h := by omega
  go_enter Try.func51, Try.ntmps51
  go_wp2
  go_ret2
  exact ⟨rfl, rfl⟩
set_option maxHeartbeats 800000 in
theorem set_neg (w : World) (gb : Nat) (x y v : Int) (hy : y < 0) (hx : 0 ≤ x) :
    Calls Try.prog 36 #[.pointer (some ⟨gb, 0, none⟩), .int .i64 x, .int .i64 y, .int .u8 v] w fun e w' => e = .returned (.int .i64 6) ∧ w = w' := by
  go_enter Try.func36, Try.ntmps36
  go_wp2_with (go_at_call 51; refine (at_neg _ gb x y hy hx).mono ?_; rintro e w' ⟨rfl, rfl⟩)
  go_ret
  exact ⟨rfl, rfl⟩
set_option maxHeartbeats 800000 in
theorem set_far (w : World) (B gb n : Nat) (G : List (List Int)) (x y : Nat) (v : Int) (hG : IsGrid w B gb n G) (hn : n ≤ 9223372036854775807) (hx : n ≤ x) (hy : y < G.length) :
    Calls Try.prog 36 #[.pointer (some ⟨gb, 0, none⟩), .int .i64 x, .int .i64 y, .int .u8 v] w fun e w' => e = .returned (.int .i64 6) ∧ w = w' := by
  obtain ⟨rb, cap, bs, h0, hf0, hr, hl, h1, hset⟩ := hG.open (by omega)
  have h1' := h1 y hy
  clear hset h1
  go_enter Try.func36, Try.ntmps36
  go_wp2_with (go_at_call 51; refine (at_far _ gb rb G.length cap n n x y _ hn hl hx hy (by assumption) h1').mono ?_; rintro e w' ⟨rfl, rfl⟩)
  go_ret
  exact ⟨rfl, rfl⟩

theorem IsMaker.cellsKept {w w' : World} (hk : CellsKept w w') {B mb : Nat} {m : MakerM} (h : IsMaker w B mb m) : IsMaker w' B mb m := by
  obtain ⟨gb, h1, h2, h3, h4⟩ := h
  exact ⟨gb, h1, hk _ _ _ _ h2, h3.cellsKept hk, h4⟩
theorem IsMaker.grown {w w' : World} {b t : Nat} (ht : t ≠ 76 ∧ t ≠ 111 ∧ t ≠ 45 ∧ t ≠ 5) {cs : Array Value} {fr : Nat × Nat} {B mb : Nat} {m : MakerM} (h : IsMaker w B mb m) (hb : w.heap[b]? = some (.cells cs t fr))
    (gr : w.grownBy w' (some b)) : IsMaker w' B mb m := by
  obtain ⟨gb, h1, h2, h3, h4⟩ := h
  exact ⟨gb, h1, (gr.block _ (lt_of_block h2) (fun e => block_ne h2 hb (fun e => ht.1 e.symm) (by cases e; rfl))).trans h2, h3.grown ht.2 hb gr, h4⟩
/-- A record. -/
structure RecM where
  clock : Int
  pixel : Int
  blank : Bool
  sync : Bool
  audio : Int
  addr : Int
  write : Bool
  data : Int
def RecM.cells (r : RecM) : Array Value := #[.int .u8 r.clock, .int .u8 r.pixel, .bool r.blank, .bool r.sync, .int .u8 r.audio, .int .u16 r.addr, .bool r.write, .int .u8 r.data]

/-- Set's whole word. -/
def pxM (m : MakerM) (clock pixel : Int) : MakerM :=
  if 68 ≤ clock ∧ m.lost = false ∧ 0 < m.rows ∧ clock < 228 then { m with grid := setPx m.grid (clock - 68).toNat (m.rows - 1) pixel } else m
def feedM (m : MakerM) (r : RecM) : MakerM × Option (List (List Int)) :=
  if r.clock = 0 then beginM m r.sync else (pxM m r.clock r.pixel, none)

set_option maxHeartbeats 4000000 in
set_option maxRecDepth 100000 in
/-- Feed: a record that begins no row, and sets none. -/
theorem feed_none (w : World) (B mb : Nat) (m : MakerM) (r : RecM) (hm : IsMaker w B mb m) (hB : B ≤ w.heap.size) (h0 : r.clock ≠ 0) (h1 : r.clock < 68 ∨ m.lost = true) :
    Calls Try.prog 16 #[.pointer (some ⟨mb, 0, none⟩), .agg r.cells] w fun e w' =>
      e = .returned (.tuple #[.agg #[.slice none 0 0], .bool false]) ∧ IsMaker w' B mb m ∧ Below B w w' := by
  obtain ⟨G, rows, lost, sync⟩ := m
  obtain ⟨clock, pixel, blank, rs, audio, addr, wr, data⟩ := r
  have hm0 := hm
  obtain ⟨gb, hBm, hc, hg, hl, hr⟩ := hm
  simp only at hc hg hl hr h0 h1
  have hml := lt_of_block hc
  have c2 := (cell_row hc 2).1
  simp [makerCells] at c2
  have HM := Lib.hid hm0
  clear hm0 hc
  have hu40 := Try.underlying40
  have hb0 : (clock == 0) = false := by simpa using h0
  simp only [RecM.cells]
  have hge : decide (68 ≤ clock) = false ∨ (decide (68 ≤ clock) = true ∧ lost = true) := by
    by_cases h : 68 ≤ clock
    · exact .inr ⟨by simpa using h, by rcases h1 with h1 | h1; · omega
                                       · exact h1⟩
    · exact .inl (by simpa using h)
  clear h0 h1
  rcases hge with hge | ⟨hge, rfl⟩
  · go_enter Try.func16, Try.ntmps16
    go_wp2
    refine bodyPost_ret (v := .tuple #[.agg #[.slice none 0 0], .bool false]) (by simp [results, Try.results16, go_sem]) rfl ⟨rfl, ?_, ?_⟩
    · exact HM.out.cellsKept (CellsKept.of_below (((Below.refl _ _).alloc (Nat.le_refl _) _).alloc (by simp) _))
    · exact (((Below.refl _ _).alloc hB _).alloc (by simp; omega) _)
  · go_enter Try.func16, Try.ntmps16
    go_wp2
    refine bodyPost_ret (v := .tuple #[.agg #[.slice none 0 0], .bool false]) (by simp [results, Try.results16, go_sem]) rfl ⟨rfl, ?_, ?_⟩
    · exact HM.out.cellsKept (CellsKept.of_below (((Below.refl _ _).alloc (Nat.le_refl _) _).alloc (by simp) _))
    · exact (((Below.refl _ _).alloc hB _).alloc (by simp; omega) _)

/-- What Set does to a maker. -/
theorem set_all (W : World) (B mb gb : Nat) (G : List (List Int)) (rows : Nat) (sync : Bool) (clock pixel : Int) (hB : B ≤ mb)
    (hc : W.heap[mb]? = some (.cells (makerCells gb rows false sync) 76 (0, 0))) (hg : IsGrid W B gb 160 G) (hl : G.length = 320) (hr : rows ≤ 320) (h68 : 68 ≤ clock) (h255 : clock ≤ 255) :
    Calls Try.prog 36 #[.pointer (some ⟨gb, 0, none⟩), .int .i64 (clock - 68), .int .i64 ((rows : Int) - 1), .int .u8 pixel] W fun e w' =>
      (∃ n, e = .returned (.int .i64 n)) ∧ IsMaker w' B mb (pxM ⟨G, rows, false, sync⟩ clock pixel) ∧ Below B W w' ∧ ∀ (b : Nat) (cs : Array Value), W.heap[b]? = some (Obj.cells cs 33 (0, 0)) → w'.heap[b]? = some (Obj.cells cs 33 (0, 0)) := by
  have hm : IsMaker W B mb ⟨G, rows, false, sync⟩ := ⟨gb, hB, hc, hg, hl, hr⟩
  by_cases h0 : rows = 0
  · refine (set_neg W gb (clock - 68) ((rows : Int) - 1) pixel (by omega) (by omega)).mono ?_
    rintro e w' ⟨rfl, rfl⟩
    refine ⟨⟨_, rfl⟩, ?_, Below.refl _ _, fun _ _ h => h⟩
    unfold pxM; rw [if_neg (fun h => by have h1 := h.2.2.1; have h2 := h.2.2.2; simp only at h1; omega)]; exact hm
  · obtain ⟨x, hx⟩ : ∃ x : Nat, clock - 68 = (x : Int) := ⟨(clock - 68).toNat, by omega⟩
    obtain ⟨y, hy⟩ : ∃ y : Nat, (rows : Int) - 1 = (y : Int) := ⟨rows - 1, by omega⟩
    rw [hx, hy]
    by_cases h2 : clock < 228
    · refine (set_in W B gb 160 G x y pixel hg (by omega) (by omega) (by omega)).mono ?_
      rintro e w' ⟨rfl, b, cs, hbB, rfl, hg', hblk⟩
      have e1 : (clock - 68).toNat = x := by omega
      have e2 : rows - 1 = y := by omega
      refine ⟨⟨_, rfl⟩, ?_, (Below.refl _ _).setCell hbB _, ?_⟩
      · unfold pxM; rw [if_pos (show 68 ≤ clock ∧ false = false ∧ 0 < rows ∧ clock < 228 from ⟨h68, rfl, by omega, h2⟩)]
        simp only [e1, e2]
        refine ⟨gb, hB, ?_, hg', by simp [setPx, hl], hr⟩
        rw [Below.heap_setCell _ _ _ _ (block_ne hc hblk (by omega))]; exact hc
      · intro b' cs' hb'
        rw [Below.heap_setCell _ _ _ _ (block_ne hb' hblk (by omega))]; exact hb'
    · refine (set_far W B gb 160 G x y pixel hg (by omega) (by omega) (by omega)).mono ?_
      rintro e w' ⟨rfl, rfl⟩
      refine ⟨⟨_, rfl⟩, ?_, Below.refl _ _, fun _ _ h => h⟩
      unfold pxM; rw [if_neg (fun h => by have h1 := h.2.2.1; have h2 := h.2.2.2; simp only at h1; omega)]; exact hm

set_option maxHeartbeats 4000000 in
set_option maxRecDepth 100000 in
/-- Feed: a record that sets a pixel, or would. -/
theorem feed_px (w : World) (B mb : Nat) (m : MakerM) (r : RecM) (hm : IsMaker w B mb m) (hB : B ≤ w.heap.size) (h68 : 68 ≤ r.clock) (h255 : r.clock ≤ 255) (hlost : m.lost = false) :
    Calls Try.prog 16 #[.pointer (some ⟨mb, 0, none⟩), .agg r.cells] w fun e w' =>
      e = .returned (.tuple #[.agg #[.slice none 0 0], .bool false]) ∧ IsMaker w' B mb (pxM m r.clock r.pixel) ∧ Below B w w' := by
  obtain ⟨G, rows, lost, sync⟩ := m
  obtain ⟨clock, pixel, blank, rs, audio, addr, wr, data⟩ := r
  have hm0 := hm
  obtain ⟨gb, hBm, hc, hg, hl, hr⟩ := hm
  simp only at hc hg hl hr h68 h255 hlost
  subst hlost
  have hml := lt_of_block hc
  have c0 := (cell_row hc 0).1
  have c1 := (cell_row hc 1).1
  have c2 := (cell_row hc 2).1
  simp [makerCells] at c0 c1 c2
  have HM := Lib.hid hm0
  have HC := Lib.hid hc
  clear hm0 hc
  have hu40 := Try.underlying40
  have hb0 : (clock == 0) = false := by rw [beq_eq_false_iff_ne]; omega
  have hge : decide (68 ≤ clock) = true := by simpa using h68
  have hbel : Below w.heap.size w ((w.alloc (.cells #[.int .u8 clock, .int .u8 pixel, .bool blank, .bool rs, .int .u8 audio, .int .u16 addr, .bool wr, .int .u8 data] 40)).alloc (.cells #[.slice none 0 0] 33)) := ((Below.refl _ _).alloc (Nat.le_refl _) _).alloc (by simp) _
  simp only [RecM.cells]
  have hs0 : IntKind.i64.wrap clock = clock := by rw [IntKind.wrap_i64]; omega
  have hs1 : IntKind.i64.wrap (clock - 68) = clock - 68 := by rw [IntKind.wrap_i64]; omega
  have hs2 : IntKind.i64.wrap ((rows : Int) - 1) = (rows : Int) - 1 := by rw [IntKind.wrap_i64]; omega
  go_enter Try.func16, Try.ntmps16
  go_wp2_with fail
  obtain ⟨W, hW⟩ : ∃ W, W = ((w.alloc (.cells #[.int .u8 clock, .int .u8 pixel, .bool blank, .bool rs, .int .u8 audio, .int .u16 addr, .bool wr, .int .u8 data] 40)).alloc (.cells #[.slice none 0 0] 33)) := ⟨_, rfl⟩
  rw [← hW] at hbel ⊢
  have r1 : W.cell? ⟨w.heap.size, 0, none⟩ = some (.int .u8 clock) := by rw [hW]; simp [go_sem]
  have r2 : W.cell? ⟨w.heap.size, 1, none⟩ = some (.int .u8 pixel) := by rw [hW]; simp [go_sem]
  have r3 : W.cell? ⟨w.heap.size + 1, 0, none⟩ = some (.slice none 0 0) := by rw [hW]; simp [go_sem]
  have hsz : W.heap.size = w.heap.size + 1 + 1 := by rw [hW]; simp
  have d0 : W.cell? ⟨mb, 0, none⟩ = some (.pointer (some ⟨gb, 0, none⟩)) := (hbel.cell (p := ⟨mb, 0, none⟩) hml).trans c0
  have d1 : W.cell? ⟨mb, 1, none⟩ = some (.int .i64 rows) := (hbel.cell (p := ⟨mb, 1, none⟩) hml).trans c1
  have hrb : W.heap[w.heap.size + 1]? = some (.cells #[.slice none 0 0] 33 (0, 0)) := by
    rw [hW]; simpa using alloc_new (w.alloc (.cells #[.int .u8 clock, .int .u8 pixel, .bool blank, .bool rs, .int .u8 audio, .int .u16 addr, .bool wr, .int .u8 data] 40)) (.cells #[.slice none 0 0] 33)
  clear hW c0 c1 c2
  have hMW := Lib.hid ((hbel.block mb hml).trans HC.out)
  have hgW := hg.cellsKept (CellsKept.of_below hbel)
  have hrW := Lib.hid (show W.heap[w.heap.size + 1]? = some (.cells #[.slice none 0 0] 33 (0, 0)) from hrb)
  go_still_tail 15, (by kernel_rfl)
  change wpList _ _ _ _ _ W.drew
  go_wp2_with fail
  refine (set_all W.drew B mb gb G rows sync clock pixel hBm hMW.out (IsGrid.cellsKept (w := W) (w' := W.drew) (fun _ _ _ _ h => h) hgW) hl hr h68 h255).mono ?_
  rintro e w2 ⟨⟨nn, rfl⟩, hm2, hb2, hk2⟩
  have hr2 := hk2 _ _ hrW.out
  have HR2 := Lib.hid hr2
  have hrc := cell_of_one hr2
  have hrf := free_of_one hr2
  clear hr2 hk2
  go_wp2
  refine bodyPost_ret (v := .tuple #[.agg #[.slice none 0 0], .bool false]) (by simp [results, Try.results16, go_sem, hrc]) rfl ⟨rfl, ?_, ?_⟩
  · exact hm2.grown (by decide) HR2.out (grown_set _ ⟨w.heap.size + 1, 0, none⟩ _)
  · exact ((hbel.mono hB).trans (Below.trans (Below.drew (Below.refl B W)) hb2)).setCell (p := ⟨w.heap.size + 1, 0, none⟩) (by simp; omega) _

set_option maxHeartbeats 4000000 in
set_option maxRecDepth 100000 in
/-- begin, in one. -/
theorem begin_all (w : World) (B mb : Nat) (m : MakerM) (s : Bool) (hm : IsMaker w B mb m) (hB : B ≤ w.heap.size) :
    Calls Try.prog 35 #[.pointer (some ⟨mb, 0, none⟩), .bool s] w fun e w' => ∃ v A n c, v = .slice A n c ∧
      e = .returned (.tuple #[.agg #[v], .bool (beginM m s).2.isSome]) ∧ FrameIs w' v ((beginM m s).2.getD []) ∧ IsMaker w' B mb (beginM m s).1 ∧ w.grownBy w' (some mb) := by
  by_cases ht : (s && !m.sync && decide (0 < m.rows)) = true
  · have h1 : s = true ∧ m.sync = false ∧ 0 < m.rows := by
      cases s <;> cases hs : m.sync <;> simp_all
    obtain ⟨rfl, hs, hr⟩ := h1
    have e : (beginM m true).2 = some (m.grid.take m.rows) := by simp [beginM, hs, hr]
    rw [e]
    refine (begin_yes w B mb m hm hB hs hr).mono ?_
    rintro e w' ⟨v, rfl, hf, hm', hg⟩
    obtain ⟨vs, ho, hgr⟩ := hf
    obtain ⟨A, c, rfl⟩ := own_slice ho
    exact ⟨_, A, _, c, rfl, rfl, ⟨vs, ho, hgr⟩, hm', hg⟩
  · have ht' : (s && !m.sync && decide (0 < m.rows)) = false := by simpa using ht
    have e : (beginM m s).2 = none := by unfold beginM; rw [ht']; simp only [Bool.false_eq_true, if_false]; split <;> rfl
    rw [e]
    refine (begin_no w B mb m s hm ht').mono ?_
    rintro e w' ⟨rfl, hm', hg⟩
    exact ⟨_, none, 0, 0, rfl, rfl, ⟨[], World.ownsRow_nil _ _ _ _, rfl, fun i hi => absurd hi (by simp)⟩, hm', hg⟩

set_option maxHeartbeats 4000000 in
set_option maxRecDepth 100000 in
/-- Feed: a record that begins a row. -/
theorem feed_row (w : World) (B mb : Nat) (m : MakerM) (r : RecM) (hm : IsMaker w B mb m) (hB : B ≤ w.heap.size) (h0 : r.clock = 0) :
    Calls Try.prog 16 #[.pointer (some ⟨mb, 0, none⟩), .agg r.cells] w fun e w' =>
      ∃ v, e = .returned (.tuple #[.agg #[v], .bool (beginM m r.sync).2.isSome]) ∧ FrameIs w' v ((beginM m r.sync).2.getD []) ∧ IsMaker w' B mb (beginM m r.sync).1 ∧ Below B w w' := by
  obtain ⟨clock, pixel, blank, rs, audio, addr, wr, data⟩ := r
  simp only at h0
  subst h0
  have hu40 := Try.underlying40
  have hml : mb < w.heap.size := by obtain ⟨gb, _, h, _⟩ := hm; exact lt_of_block h
  have hBm : B ≤ mb := by obtain ⟨gb, h, _⟩ := hm; exact h
  simp only [RecM.cells]
  have hbel : Below w.heap.size w ((w.alloc (.cells #[.int .u8 0, .int .u8 pixel, .bool blank, .bool rs, .int .u8 audio, .int .u16 addr, .bool wr, .int .u8 data] 40)).alloc (.cells #[.slice none 0 0] 33)) := ((Below.refl _ _).alloc (Nat.le_refl _) _).alloc (by simp) _
  have hmW := hm.cellsKept (CellsKept.of_below hbel)
  go_enter Try.func16, Try.ntmps16
  go_wp2_with fail
  obtain ⟨W, hW⟩ : ∃ W, W = ((w.alloc (.cells #[.int .u8 0, .int .u8 pixel, .bool blank, .bool rs, .int .u8 audio, .int .u16 addr, .bool wr, .int .u8 data] 40)).alloc (.cells #[.slice none 0 0] 33)) := ⟨_, rfl⟩
  rw [← hW] at hbel hmW ⊢
  have hra : W.heap[w.heap.size]? = some (.cells #[.int .u8 0, .int .u8 pixel, .bool blank, .bool rs, .int .u8 audio, .int .u16 addr, .bool wr, .int .u8 data] 40 (0, 0)) := by
    rw [hW, Below.heap_alloc _ _ _ (by simp)]; exact alloc_new w _
  have hrb : W.heap[w.heap.size + 1]? = some (.cells #[.slice none 0 0] 33 (0, 0)) := by
    rw [hW]; simpa using alloc_new (w.alloc (.cells #[.int .u8 0, .int .u8 pixel, .bool blank, .bool rs, .int .u8 audio, .int .u16 addr, .bool wr, .int .u8 data] 40)) (.cells #[.slice none 0 0] 33)
  have hsz : W.heap.size = w.heap.size + 1 + 1 := by rw [hW]; simp
  clear hW
  refine (begin_all W B mb m rs hmW (by omega)).mono ?_
  rintro e w1 ⟨v, A, n, c, rfl, rfl, hf, hm1, hg1⟩
  have hra1 := (hg1.block _ (by omega) (fun e => by cases e; omega)).trans hra
  have hrb1 := (hg1.block _ (by omega) (fun e => by cases e; omega)).trans hrb
  have HA := Lib.hid hra1
  have HB := Lib.hid hrb1
  have ca := (cell_row hra1 0).1
  simp at ca
  have cb := cell_of_one hrb1
  have fb := free_of_one hrb1
  clear hra hrb hra1 hrb1
  generalize hbt : (beginM m rs).2.isSome = bt
  go_wp2
  have hrc := cell_of_one (one_setCell (u := .slice A n c) HB.out)
  refine bodyPost_ret (v := .tuple #[.agg #[.slice A n c], .bool bt]) (by simp [results, Try.results16, go_sem, hrc]) rfl ⟨_, by rw [hbt], ?_, ?_, ?_⟩
  · exact hf.grown (by decide) HB.out (World.grownBy.trans (grown_set w1 ⟨w.heap.size + 1, 0, none⟩ _) (grown_set _ ⟨w.heap.size + 1, 0, none⟩ _))
  · exact hm1.grown (by decide) HB.out (World.grownBy.trans (grown_set w1 ⟨w.heap.size + 1, 0, none⟩ _) (grown_set _ ⟨w.heap.size + 1, 0, none⟩ _))
  · exact ((hbel.mono hB).trans (grown_below hg1 hBm (by omega))).setCell (p := ⟨w.heap.size + 1, 0, none⟩) (by simp; omega) _ |>.setCell (p := ⟨w.heap.size + 1, 0, none⟩) (by simp; omega) _

theorem FrameIs.nil (w : World) : FrameIs w (.slice none 0 0) [] := ⟨[], World.ownsRow_nil _ _ _ _, rfl, fun i hi => absurd hi (by simp)⟩

/-- FEED. -/
theorem feed_in (w : World) (B mb : Nat) (m : MakerM) (r : RecM) (hm : IsMaker w B mb m) (hB : B ≤ w.heap.size) (h0 : 0 ≤ r.clock) (h255 : r.clock ≤ 255) :
    Calls Try.prog 16 #[.pointer (some ⟨mb, 0, none⟩), .agg r.cells] w fun e w' =>
      ∃ v, e = .returned (.tuple #[.agg #[v], .bool (feedM m r).2.isSome]) ∧ FrameIs w' v ((feedM m r).2.getD []) ∧ IsMaker w' B mb (feedM m r).1 ∧ Below B w w' := by
  by_cases hc : r.clock = 0
  · have e : feedM m r = beginM m r.sync := by simp [feedM, hc]
    rw [e]
    exact feed_row w B mb m r hm hB hc
  · have e : feedM m r = (pxM m r.clock r.pixel, none) := by simp [feedM, hc]
    rw [e]
    by_cases hn : r.clock < 68 ∨ m.lost = true
    · have e2 : pxM m r.clock r.pixel = m := by
        unfold pxM; rw [if_neg]; rintro ⟨h1, h2, _⟩; rcases hn with hn | hn
        · omega
        · rw [h2] at hn; cases hn
      rw [e2]
      refine (feed_none w B mb m r hm hB hc hn).mono ?_
      rintro e w' ⟨rfl, h1, h2⟩
      exact ⟨_, rfl, FrameIs.nil _, h1, h2⟩
    · have h1 : 68 ≤ r.clock := by omega
      have h2 : m.lost = false := by
        cases h : m.lost with
        | false => rfl
        | true => exact absurd (.inr h) hn
      refine (feed_px w B mb m r hm hB h1 h255 h2).mono ?_
      rintro e w' ⟨rfl, h1, h2⟩
      exact ⟨_, rfl, FrameIs.nil _, h1, h2⟩

set_option maxHeartbeats 800000 in
set_option maxRecDepth 100000 in
/-- Feed of a maker that is not there. -/
theorem feed_nil (w : World) (r : RecM) :
    Calls Try.prog 16 #[.pointer none, .agg r.cells] w fun e w' => e = .returned (.tuple #[.agg #[.slice none 0 0], .bool false]) ∧ Below w.heap.size w w' := by
  obtain ⟨clock, pixel, blank, rs, audio, addr, wr, data⟩ := r
  have hu40 := Try.underlying40
  simp only [RecM.cells]
  go_enter Try.func16, Try.ntmps16
  go_wp2
  refine bodyPost_ret (v := .tuple #[.agg #[.slice none 0 0], .bool false]) (by simp [results, Try.results16, go_sem]) rfl ⟨rfl, ?_⟩
  exact (((Below.refl _ _).alloc (Nat.le_refl _) _).alloc (by simp) _)

set_option maxHeartbeats 800000 in
set_option maxRecDepth 100000 in
/-- Rows of a maker that is not there. -/
theorem rows_nil (w : World) : Calls Try.prog 18 #[.pointer none] w fun e w' => e = .returned (.agg #[.slice none 0 0]) ∧ Below w.heap.size w w' := by
  go_enter Try.func18, Try.ntmps18
  go_wp2
  refine bodyPost_ret (v := .agg #[.slice none 0 0]) (by simp [results, Try.results18, go_sem]) rfl ⟨rfl, ?_⟩
  exact (((Below.refl _ _).alloc (Nat.le_refl _) _).alloc (by simp) _)

/-- ROWS. -/
theorem rows_all (w : World) (B mb : Nat) (m : MakerM) (hm : IsMaker w B mb m) :
    Calls Try.prog 18 #[.pointer (some ⟨mb, 0, none⟩)] w fun e w' => ∃ v, e = .returned (.agg #[v]) ∧ FrameIs w' v (m.grid.take m.rows) ∧ Below w.heap.size w w' := by
  obtain ⟨gb, hB, hc, hg, hl, hr⟩ := hm
  refine (rows_in w B mb gb m.rows m.lost m.sync m.grid (by omega) hr hc hg).mono ?_
  rintro e w' ⟨v, vs, rfl, ho, hgr, hb⟩
  refine ⟨v, rfl, ⟨vs, ?_, ?_⟩, hb⟩
  · rw [show (m.grid.take m.rows).length = m.rows from by rw [List.length_take]; omega]; exact own_weaken' ho (Nat.zero_le _)
  · rw [show (m.grid.take m.rows).length = m.rows from by rw [List.length_take]; omega]
    refine ⟨hgr.1, fun i hi => ?_⟩
    have : (m.grid.take m.rows).getD i [] = m.grid.getD i [] := by simp [List.getD_eq_getElem?_getD, List.getElem?_take, hi]
    rw [this]; exact hgr.2 i hi
end Go.Proofs.Ytgepcdohgiiaaaa
