/- FrameLines: the walk. -/
import Derived.Test.YtgepcdohgiiaaaaL1
namespace Go.Proofs.Ytgepcdohgiiaaaa
open Go.RowKit Go.Shelf
open Go.Proofs.YtgepcdohgiiaaaaW.PrintWords (own_slice)
set_option linter.unusedSimpArgs false
set_option linter.unusedVariables false

theorem getD_rep (n j : Nat) (v d : Int) (h : j < n) : (List.replicate n v).getD j d = v := by simp [List.getD_eq_getElem?_getD, List.getElem?_replicate, h]
set_option maxHeartbeats 4000000 in
set_option maxRecDepth 100000 in
theorem frameLines_look (l : List Int) (x : Addr) (len cap : Nat) (w : World) (h1 : 0 < len) (h2 : len ≤ 200)
    (hx : ∀ i, i < len → w.cell? (x.add i) = some (.int .u8 (l.getD i 0))) :
    Calls Try.prog 4 #[.slice (some x) len cap] w fun e w' => e = .returned (.bool true) ∧ Below w.heap.size w w' := by
  have hu40 := Try.underlying40
  have hu33 := Try.underlying33
  have hfld : ∀ (A : Option Addr) (n c : Nat) (w : World), (Instr.field 33 (.agg #[.slice A n c]) 0).run Try.prog w = .ok (.slice A n c) w := fun _ _ _ _ => by kernel_rfl
  have hlen1 : ((len : Int) == 0) = false := by rw [beq_eq_false_iff_ne]; omega
  have hlen2 : ¬ ((200 : Int) < len) := by omega
  have HX := Lib.hid hx
  clear hx
  go_enter Try.func4, Try.ntmps4
  go_wp2_with fail
  refine (new_in _).mono ?_
  rintro e w1 ⟨mb, rfl, hm, hb1⟩
  rw [← lineM_new l] at hm
  go_wp2_with fail
  go_loopw [4] (fun i wr => ∃ y : Nat, y ≤ len ∧ i = .int .i64 y ∧ IsMaker wr w.heap.size mb (lineM l y 0) ∧ Below w.heap.size w wr)
    (fun i _ => len - (intOf i).toNat)
  case atStart => exact ⟨0, by omega, rfl, hm, hb1⟩
  case round =>
    obtain ⟨y, hy, rfl, hmr, hbr⟩ := hrel
    by_cases hlt : y < len
    · have hlt' : (y : Int) < len := by omega
      go_wp2_with fail
      go_loopw [5] (fun i wr => ∃ c : Nat, c ≤ 228 ∧ i = .int .i64 c ∧ IsMaker wr w.heap.size mb (lineM l y c) ∧ Below w.heap.size w wr)
        (fun i _ => 228 - (intOf i).toNat)
      case atStart => exact ⟨0, by omega, rfl, hmr, hbr⟩
      case round =>
        clear hm hb1 hmr hbr
        obtain ⟨c, hc, rfl, hmr, hbr⟩ := hrel
        by_cases hlc : c < 228
        · have hlc' : (c : Int) < 228 := by omega
          have hxy := HX.out y hlt
          have hxw := (hbr.cell (World.block_lt_of_cell? w _ hxy)).trans hxy
          clear hxy
          go_wp2_with fail
          have hr : (⟨c, l[y]?.getD 0, false, decide ((y : Int) < 3), 0, 0, false, 0⟩ : RecM) = lineR l y c := by
            unfold lineR
            rw [show decide ((y : Int) < 3) = decide (y < 3) from decide_eq_decide.2 (by omega)]
            rfl
          refine (feed_in wr w.heap.size mb (lineM l y c) ⟨c, l[y]?.getD 0, false, decide ((y : Int) < 3), 0, 0, false, 0⟩ hmr hbr.size (by simp) (by simp only; omega)).mono ?_
          rw [hr, line_feed l y c (by omega) hlc]
          rintro e w2 ⟨v, rfl, hf2, hm2, hb2⟩
          obtain ⟨A, cc, rfl, -⟩ := hf2.look
          clear hf2
          simp only [Option.isSome_none, Option.getD_none, List.length_nil]
          have hk1 : IntKind.i64.wrap ((c : Int) + 1) = (c : Int) + 1 := by rw [IntKind.wrap_i64]; omega
          go_wp2_with fail
          go_roundw
          case rel => exact ⟨c + 1, by omega, by first | rfl | go_num | simp, hm2.cellsKept (CellsKept.of_below ((Below.refl _ _).alloc (Nat.le_refl _) _)), (hbr.trans hb2).alloc (hbr.trans hb2).size _⟩
          case measure => simp [intOf]; omega
        · have hlc' : ¬ (c : Int) < 228 := by omega
          obtain rfl : c = 228 := by omega
          rw [lineM_next l y (by omega)] at hmr
          have hk1 : IntKind.i64.wrap ((y : Int) + 1) = (y : Int) + 1 := by rw [IntKind.wrap_i64]; omega
          go_wp2_with fail
          go_roundw
          case rel => exact ⟨y + 1, by omega, by first | rfl | go_num | simp, hmr, hbr⟩
          case measure => simp [intOf]; omega
    · have hge : ¬ ((y : Int) < len) := by omega
      obtain rfl : y = len := by omega
      clear hm hb1
      go_wp2_with fail
      by_cases h3 : y ≤ 3
      · refine (feed_in wr w.heap.size mb (lineM l y 0) ⟨0, 0, false, true, 0, 0, false, 0⟩ hmr hbr.size (by simp) (by simp)).mono ?_
        rw [line_few l y h1 h3]
        rintro e w2 ⟨v, rfl, hf2, hm2, hb2⟩
        obtain ⟨A, cc, rfl, -⟩ := hf2.look
        clear hf2
        simp only [Option.isSome_none, Option.getD_none, List.length_nil]
        have h3' : (y : Int) ≤ 3 := by omega
        have hBA := (hbr.trans hb2).alloc (hbr.trans hb2).size (.cells #[Value.slice A 0 cc] 33)
        go_wp2_with fail
        refine (rows_all _ w.heap.size mb _ (hm2.cellsKept (CellsKept.of_below ((Below.refl _ _).alloc (Nat.le_refl _) _)))).mono ?_
        rintro e w3 ⟨v, rfl, hf3, hb3⟩
        obtain ⟨A3, c3, rfl, -⟩ := hf3.look
        clear hf3
        rw [show (List.take (y + 1) (lineM l y 0).grid).length = y + 1 from by rw [List.length_take]; simp [lineM]; omega]
        have hk1 : IntKind.i64.wrap ((y : Int) + 1) = (y : Int) + 1 := by rw [IntKind.wrap_i64]; omega
        have hB3 := hBA.trans (hb3.mono hBA.size)
        go_wp2_with fail
        refine (awake_in _).mono ?_
        rintro e w4 ⟨rfl, hb4⟩
        go_wp2_with fail
        go_ret
        exact ⟨rfl, hB3.trans (hb4.mono hB3.size)⟩
      · refine (feed_in wr w.heap.size mb (lineM l y 0) ⟨0, 0, false, true, 0, 0, false, 0⟩ hmr hbr.size (by simp) (by simp)).mono ?_
        rw [line_last l y (by omega) h2]
        rintro e w2 ⟨v, rfl, hf2, hm2, hb2⟩
        obtain ⟨A, cc, rfl, hlook⟩ := hf2.look
        simp only [Option.isSome_some, Option.getD_some, line_len l y h2] at hlook ⊢
        have h3' : ¬ (y : Int) ≤ 3 := by omega
        have hBA := (hbr.trans hb2).alloc (hbr.trans hb2).size (.cells #[Value.slice A y cc] 33)
        have hmA := hm2.cellsKept (CellsKept.of_below ((Below.refl _ _).alloc (Nat.le_refl _) (.cells #[Value.slice A y cc] 33)))
        have hfA := cell_of_one (alloc_new w2 (.cells #[Value.slice A y cc] 33))
        have hsA : w2.heap.size < (w2.alloc (.cells #[Value.slice A y cc] 33)).heap.size := by simp
        have hW2 : Below w2.heap.size w2 (w2.alloc (.cells #[Value.slice A y cc] 33)) := (Below.refl _ _).alloc (Nat.le_refl _) _
        go_wp2_with fail
        obtain ⟨W, hW⟩ : ∃ W, W = w2.alloc (.cells #[Value.slice A y cc] 33) := ⟨_, rfl⟩
        rw [← hW] at hBA hmA hfA hsA hW2 ⊢
        clear hW
        have HL := Lib.hid hlook
        have HF := Lib.hid hfA
        clear hlook hfA
        go_loopw [10] (fun i wr => ∃ k : Nat, k ≤ y ∧ i = .int .i64 k ∧ Below W.heap.size W wr)
          (fun i _ => y - (intOf i).toNat)
        case atStart => exact ⟨0, by omega, rfl, Below.refl _ _⟩
        case round =>
          obtain ⟨k, hk, rfl, hbk⟩ := hrel
          have hff := (hbk.cell hsA).trans HF.out
          by_cases hlk : k < y
          · have hlk' : (k : Int) < y := by omega
            obtain ⟨ad, a0, c0, rfl, hr0, hr1⟩ := HL.out k hlk
            have hr0' := (hbk.cell (p := ad.add k) (by have := World.block_lt_of_cell? w2 _ hr0; omega)).trans ((hW2.cell (World.block_lt_of_cell? w2 _ hr0)).trans hr0)
            have hp : ∀ j, j < 160 → wr.cell? (a0.add j) = some (.int .u8 (l.getD k 0)) := fun j hj => by
              have h := hr1 j hj
              rw [line_rows l y k hlk h2, getD_rep _ _ _ _ hj] at h
              exact (hbk.cell (p := a0.add j) (by have := World.block_lt_of_cell? w2 _ h; omega)).trans ((hW2.cell (World.block_lt_of_cell? w2 _ h)).trans h)
            have hp0 := hp 0 (by omega)
            have hp2 : wr.cell? a0 = some (.int .u8 (l.getD k 0)) := by have h := hp 0 (by omega); obtain ⟨b, o, m⟩ := a0; simpa [Addr.add] using h
            have hp1 : wr.cell? ⟨a0.block, a0.off + 159, none⟩ = some (.int .u8 (l.getD k 0)) := hp 159 (by omega)
            have hxy := HX.out k hlk
            have hxw := ((hBA.trans (hbk.mono hBA.size)).cell (World.block_lt_of_cell? w _ hxy)).trans hxy
            clear hp hr0 hr1 hxy
            have hk1 : IntKind.i64.wrap ((k : Int) + 1) = (k : Int) + 1 := by rw [IntKind.wrap_i64]; omega
            go_wp2_with fail
            refine wp_region_still_lit (by kernel_rfl) (by kernel_rfl) ?_
            repeat still_step
            refine wpStill_nil ?_
            go_wp2_with fail
            go_roundw
            case rel => exact ⟨k + 1, by omega, by first | rfl | go_num | simp, hbk.drew⟩
            case measure => simp [intOf]; omega
          · have hge : ¬ ((k : Int) < y) := by omega
            clear hf2
            go_wp2_with fail
            refine (rows_all _ w.heap.size mb _ (hmA.cellsKept (CellsKept.of_below hbk))).mono ?_
            rintro e w3 ⟨v, rfl, hf3, hb3⟩
            obtain ⟨A3, c3, rfl, -⟩ := hf3.look
            clear hf3
            rw [show (List.take 1 blankG).length = 1 from by decide]
            have hB3 := (hBA.trans (hbk.mono hBA.size)).trans (hb3.mono (hBA.trans (hbk.mono hBA.size)).size)
            go_wp2_with fail
            refine (awake_in _).mono ?_
            rintro e w4 ⟨rfl, hb4⟩
            go_wp2_with fail
            go_ret
            exact ⟨rfl, hB3.trans (hb4.mono hB3.size)⟩
end Go.Proofs.Ytgepcdohgiiaaaa
