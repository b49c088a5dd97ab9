/- Rows of rows that are given; Differ. -/
import Derived.Test.YtgepcdohgiiaaaaA9
namespace Go.Proofs.Ytgepcdohgiiaaaa
open Go.RowKit Go.Shelf
open Go.Proofs.YtgepcdohgiiaaaaW.PrintWords (own_slice Kd nums)
set_option linter.unusedSimpArgs false
set_option linter.unusedVariables false

def RowC (w : World) (A : Option Addr) (row : List Int) : Prop := ∀ j, j < row.length → ∃ y, A = some y ∧ w.cell? (y.add j) = some (.int .u8 (row.getD j 0))
def MatC (w : World) (A : Option Addr) (G : List (List Int)) : Prop :=
  ∀ r, r < G.length → ∃ x B C, A = some x ∧ w.cell? (x.add r) = some (.slice B (G.getD r []).length C) ∧ (G.getD r []).length ≤ C ∧ C ≤ maxLen ∧ RowC w B (G.getD r [])
theorem RowC.below {w w' : World} {A : Option Addr} {row : List Int} (h : RowC w A row) (hb : Below w.heap.size w w') : RowC w' A row := fun j hj => by
  obtain ⟨y, h1, h2⟩ := h j hj
  exact ⟨y, h1, (hb.cell (World.block_lt_of_cell? w _ h2)).trans h2⟩
theorem MatC.below {w w' : World} {A : Option Addr} {G : List (List Int)} (h : MatC w A G) (hb : Below w.heap.size w w') : MatC w' A G := fun r hr => by
  obtain ⟨x, B, C, h1, h2, h3, h4, h5⟩ := h r hr
  exact ⟨x, B, C, h1, (hb.cell (World.block_lt_of_cell? w _ h2)).trans h2, h3, h4, h5.below hb⟩
theorem RowC.C {w : World} {A : Option Addr} {row : List Int} (h : RowC w A row) (hl : row.length ≤ 9223372036854775807) : (Kd.int .u8).C w A row.length row := by
  refine Kd.C_of_reads (d := (0 : Int)) (h1 := fun _ => rfl) ⟨rfl, hl, fun hp => ?_⟩
  obtain ⟨y, rfl, _⟩ := h 0 hp
  refine ⟨y, rfl, fun j hj => ?_⟩
  obtain ⟨y', e, h2⟩ := h j hj
  cases e
  exact h2
theorem MatC.C {w : World} {A : Option Addr} {G : List (List Int)} (h : MatC w A G) (hl : G.length ≤ 9223372036854775807) : (Kd.slice 5 (Kd.int .u8)).C w A G.length G := by
  refine ⟨rfl, hl, fun hp => ?_⟩
  obtain ⟨x, B0, C0, rfl, _⟩ := h 0 hp
  refine ⟨x, rfl, fun j p hj => ?_⟩
  have hj' : j < G.length := (List.getElem?_eq_some_iff.1 hj).1
  have hp' : G.getD j [] = p := by simp [List.getD_eq_getElem?_getD, hj]
  obtain ⟨x', B, C, e, h1, h2, h3, h4⟩ := h j hj'
  cases e
  rw [hp'] at h1 h2 h4
  refine ⟨[.slice B p.length C], rfl, ⟨B, C, rfl, h2, h4.C (by have e : maxLen = 9223372036854775807 := rfl; omega)⟩, fun i u hi => ?_⟩
  have hi0 : i = 0 := by
    have := (List.getElem?_eq_some_iff.1 hi).1; simp at this; omega
  subst hi0
  simp at hi
  subst hi
  rw [show j * (Kd.slice 5 (Kd.int .u8)).sz + 0 = j from by show j * 1 + 0 = j; omega]
  exact h1

set_option maxHeartbeats 4000000 in
set_option maxRecDepth 100000 in
theorem at_row (w : World) (A : Option Addr) (row : List Int) (c x : Nat) (h : RowC w A row) (hx : x < 1000000) :
    Calls Try.prog 39 #[.slice A row.length c, .int .i64 x] w fun e w' => e = .returned (.int .u8 (row.getD x 0)) ∧ w' = w := by
  by_cases hlt : x < row.length
  · have h1 : (x : Int) < row.length := by omega
    have h2 : ¬ ((row.length : Int) ≤ x) := by omega
    obtain ⟨y, rfl, hc⟩ := h x hlt
    go_enter Try.func39, Try.ntmps39
    go_wp2_with fail
    go_ret
    exact ⟨rfl, rfl⟩
  · have h2 : ((row.length : Int) ≤ x) := by omega
    have e : row.getD x 0 = 0 := by rw [List.getD_eq_getElem?_getD, List.getElem?_eq_none (by omega)]; rfl
    rw [e]
    go_enter Try.func39, Try.ntmps39
    go_wp2_with fail
    go_ret
    exact ⟨rfl, rfl⟩

theorem at_row' (w : World) (A : Option Addr) (row : List Int) (c x : Nat) (v : Int) (h : RowC w A row) (hx : x < 1000000) (hv : row.getD x 0 = v) :
    Calls Try.prog 39 #[.slice A row.length c, .int .i64 x] w fun e w' => e = .returned (.int .u8 v) ∧ w' = w := by
  rw [← hv]; exact at_row w A row c x h hx
def dcount (f g : List Int) : Nat → Nat
  | 0 => 0
  | x + 1 => dcount f g x + if g.getD x 0 = f.getD x 0 then 0 else 1
def drows (F G : List (List Int)) : Nat → Nat
  | 0 => 0
  | y + 1 => drows F G y + dcount (F.getD y []) (G.getD y []) 160
def differM (F G : List (List Int)) : Nat :=
  if F.length < G.length then 160 * (G.length - F.length) + drows G F F.length else 160 * (F.length - G.length) + drows F G G.length
theorem dcount_le (f g : List Int) (x : Nat) : dcount f g x ≤ x := by
  induction x with
  | zero => exact Nat.le_refl _
  | succ n ih => simp only [dcount]; split <;> omega
theorem drows_le (F G : List (List Int)) (y : Nat) : drows F G y ≤ 160 * y := by
  induction y with
  | zero => exact Nat.le_refl _
  | succ n ih => simp only [drows]; have := dcount_le (F.getD n []) (G.getD n []) 160; omega
theorem dcount_zero (f g : List Int) : dcount f g 0 = 0 := rfl
theorem dcount_succ (f g : List Int) (x : Nat) : dcount f g (x + 1) = dcount f g x + if g.getD x 0 = f.getD x 0 then 0 else 1 := rfl
theorem drows_zero (F G : List (List Int)) : drows F G 0 = 0 := rfl
theorem drows_succ (F G : List (List Int)) (y : Nat) : drows F G (y + 1) = drows F G y + dcount (F.getD y []) (G.getD y []) 160 := rfl
attribute [irreducible] dcount drows

set_option maxHeartbeats 2000000 in
set_option maxRecDepth 100000 in
theorem differ_in (w : World) (A B : Option Addr) (F G : List (List Int)) (c d : Nat) (hF : MatC w A F) (hG : MatC w B G) (h1 : F.length ≤ 1000000) (h2 : G.length ≤ 1000000) :
    Calls Try.prog 22 #[.agg #[.slice A F.length c], .agg #[.slice B G.length d]] w fun e w' => e = .returned (.int .i64 (differM F G)) ∧ Below w.heap.size w w' := by
  have hu33 := Try.underlying33
  by_cases hlt : F.length < G.length
  · have hlt' : (F.length : Int) < G.length := by omega
    go_enter Try.func22, Try.ntmps22
    go_wp2_with fail
    obtain ⟨W, hW⟩ : ∃ W, W = (w.alloc (.cells #[.slice B G.length d] 33)).alloc (.cells #[.slice A F.length c] 33) := ⟨_, rfl⟩
    rw [← hW]
    have hbW : Below w.heap.size w W := by rw [hW]; exact ((Below.refl _ _).alloc (Nat.le_refl _) _).alloc (by simp) _
    have hcW : W.cell? ⟨w.heap.size, 0, none⟩ = some (.slice B G.length d) := by rw [hW]; simp [go_sem]
    have hsW : w.heap.size < W.heap.size := by rw [hW]; simp; omega
    clear hW
    have HCW := Lib.hid hcW
    have HFW := Lib.hid (hG.below hbW)
    have HGW := Lib.hid (hF.below hbW)
    clear hcW hF hG
    go_loopw [5, 29] (fun n i wr => ∃ y : Nat, y ≤ F.length ∧ n = .int .i64 ((160 : Int) * ((G.length : Int) - F.length) + (drows G F y : Nat)) ∧ i = .int .i64 y ∧ Below W.heap.size W wr)
      (fun n i _ => F.length - (intOf i).toNat)
    case atStart => exact ⟨0, by omega, congrArg (Value.int .i64) (by rw [drows_zero]; omega), rfl, Below.refl _ _⟩
    case round =>
      obtain ⟨y, hy, rfl, rfl, hbr⟩ := hrel
      by_cases hly : y < F.length
      · have hly' : (y : Int) < F.length := by omega
        obtain ⟨gx, gB, gC, hgx, hgc, hgl, hgm, hgr⟩ := HGW.out y hly
        obtain ⟨fx, fB, fC, hfx, hfc, hfl, hfm, hfr⟩ := HFW.out y (by omega)
        have hgc' := (hbr.cell (World.block_lt_of_cell? W _ hgc)).trans hgc
        have hyg : (gx.add y).block < W.heap.size := World.block_lt_of_cell? W _ hgc
        generalize hn0 : (160 : Int) * ((G.length : Int) - F.length) + (drows G F y : Nat) = n0
        have hn1 : 0 ≤ n0 ∧ n0 ≤ 400000000 := by have := drows_le G F y; omega
        obtain ⟨grow, hgrow⟩ : ∃ r, r = F.getD y [] := ⟨_, rfl⟩
        obtain ⟨frow, hfrow⟩ : ∃ r, r = G.getD y [] := ⟨_, rfl⟩
        rw [← hgrow] at hgc' hgr hgc hgl
        rw [← hfrow] at hfc hfr hfl
        have HGQ := Lib.hid hgrow
        have HFQ := Lib.hid hfrow
        have HGR := Lib.hid hgr
        have HFR := Lib.hid hfr
        have HFC := Lib.hid hfc
        clear hgr hfr hgc hfc hgrow hfrow
        have hfA := hfx
        have hgA := hgx
        subst hgx
        go_wp2_with fail
        go_loopw [5, 34] (fun n i wr => ∃ x : Nat, x ≤ 160 ∧ n = .int .i64 (n0 + (dcount frow grow x : Nat)) ∧ i = .int .i64 x ∧ Below W.heap.size W wr)
          (fun n i _ => 160 - (intOf i).toNat)
        case atStart => exact ⟨0, by omega, congrArg (Value.int .i64) (by rw [dcount_zero]; omega), rfl, hbr⟩
        case round =>
          clear hbr hgc'
          obtain ⟨x, hx, rfl, rfl, hbr⟩ := hrel
          by_cases hlx : x < 160
          · have hlx' : (x : Int) < 160 := by omega
            have hfc' := (hbr.cell (World.block_lt_of_cell? W _ HFC.out)).trans HFC.out
            have hcW' := (hbr.cell (p := ⟨w.heap.size, 0, none⟩) hsW).trans HCW.out
            have hylf : (y : Int) < G.length := by omega
            have hxw : IntKind.i64.wrap ((x : Int) + 1) = (x : Int) + 1 := by rw [IntKind.wrap_i64]; omega
            have hdl := dcount_le frow grow x
            have hnw : IntKind.i64.wrap (n0 + (dcount frow grow x : Nat) + 1) = n0 + (dcount frow grow x : Nat) + 1 := by rw [IntKind.wrap_i64]; omega
            obtain ⟨gv, hgv⟩ : ∃ v, grow.getD x 0 = v := ⟨_, rfl⟩
            obtain ⟨fv, hfv⟩ : ∃ v, frow.getD x 0 = v := ⟨_, rfl⟩
            have hdx : dcount frow grow (x + 1) = dcount frow grow x + if gv = fv then 0 else 1 := by rw [← hgv, ← hfv]; exact dcount_succ _ _ _
            have HGR' := Lib.hid (HGR.out.below hbr.drew)
            have HFR' := Lib.hid (HFR.out.below hbr.drew)
            have hx9 : x < 1000000 := by omega
            by_cases hq : gv = fv
            · have hqb : (gv == fv) = true := by rw [beq_iff_eq]; exact hq
              rw [if_pos hq] at hdx
              subst hq
              go_wp2_with fail
              go_region_law (first | (go_simp; go_at_call 39; (with_reducible refine (at_row' wr.drew gB grow gC x gv HGR'.out hx9 hgv).mono ?_); rintro e w9 ⟨rfl, rfl⟩) | (go_simp; go_at_call 39; (with_reducible refine (at_row' wr.drew fB frow fC x gv HFR'.out hx9 hfv).mono ?_); rintro e w9 ⟨rfl, rfl⟩))
              all_goals
                go_simp
                go_wp2_with fail
                go_roundw
                case rel => exact ⟨x + 1, by omega, congrArg (Value.int .i64) (by omega), by first | rfl | go_num | simp, hbr.drew⟩
                case measure => simp [intOf]; omega
            · have hqb : (gv == fv) = false := by rw [beq_eq_false_iff_ne]; exact hq
              rw [if_neg hq] at hdx
              go_wp2_with fail
              go_region_law (first | (go_simp; go_at_call 39; (with_reducible refine (at_row' wr.drew gB grow gC x gv HGR'.out hx9 hgv).mono ?_); rintro e w9 ⟨rfl, rfl⟩) | (go_simp; go_at_call 39; (with_reducible refine (at_row' wr.drew fB frow fC x fv HFR'.out hx9 hfv).mono ?_); rintro e w9 ⟨rfl, rfl⟩))
              all_goals
                go_simp
                go_wp2_with fail
                go_roundw
                case rel => exact ⟨x + 1, by omega, congrArg (Value.int .i64) (by omega), by first | rfl | go_num | simp, hbr.drew⟩
                case measure => simp [intOf]; omega
          · have hlx' : ¬ (x : Int) < 160 := by omega
            obtain rfl : x = 160 := by omega
            have hyw : IntKind.i64.wrap ((y : Int) + 1) = (y : Int) + 1 := by rw [IntKind.wrap_i64]; omega
            have hdy : n0 + (dcount frow grow 160 : Nat) = (160 : Int) * ((G.length : Int) - F.length) + (drows G F (y + 1) : Nat) := by rw [← hn0, HFQ.out, HGQ.out]; rw [drows_succ]; omega
            rw [hdy]
            go_wp2_with fail
            go_roundw
            case rel => first | exact ⟨y + 1, by omega, rfl, by first | rfl | go_num | simp, hbr⟩ | exact ⟨_, _, _, _, _, ⟨y + 1, by omega, rfl, rfl⟩, rfl, rfl, rfl, rfl, by simp⟩
            case measure => simp [intOf]; omega
      · have hly' : ¬ (y : Int) < F.length := by omega
        obtain rfl : y = F.length := by omega
        go_wp2_with fail
        go_ret
        refine ⟨?_, hbW.trans (hbr.mono hbW.size)⟩
        exact congrArg (fun z => Ending.returned (.int .i64 z)) (by unfold differM; rw [if_pos hlt]; omega)
  · have hlt' : ¬ (F.length : Int) < G.length := by omega
    go_enter Try.func22, Try.ntmps22
    go_wp2_with fail
    obtain ⟨W, hW⟩ : ∃ W, W = (w.alloc (.cells #[.slice A F.length c] 33)).alloc (.cells #[.slice B G.length d] 33) := ⟨_, rfl⟩
    rw [← hW]
    have hbW : Below w.heap.size w W := by rw [hW]; exact ((Below.refl _ _).alloc (Nat.le_refl _) _).alloc (by simp) _
    have hcW : W.cell? ⟨w.heap.size, 0, none⟩ = some (.slice A F.length c) := by rw [hW]; simp [go_sem]
    have hsW : w.heap.size < W.heap.size := by rw [hW]; simp; omega
    clear hW
    have HCW := Lib.hid hcW
    have HFW := Lib.hid (hF.below hbW)
    have HGW := Lib.hid (hG.below hbW)
    clear hcW hF hG
    go_loopw [5, 29] (fun n i wr => ∃ y : Nat, y ≤ G.length ∧ n = .int .i64 ((160 : Int) * ((F.length : Int) - G.length) + (drows F G y : Nat)) ∧ i = .int .i64 y ∧ Below W.heap.size W wr)
      (fun n i _ => G.length - (intOf i).toNat)
    case atStart => exact ⟨0, by omega, congrArg (Value.int .i64) (by rw [drows_zero]; omega), rfl, Below.refl _ _⟩
    case round =>
      obtain ⟨y, hy, rfl, rfl, hbr⟩ := hrel
      by_cases hly : y < G.length
      · have hly' : (y : Int) < G.length := by omega
        obtain ⟨gx, gB, gC, hgx, hgc, hgl, hgm, hgr⟩ := HGW.out y hly
        obtain ⟨fx, fB, fC, hfx, hfc, hfl, hfm, hfr⟩ := HFW.out y (by omega)
        have hgc' := (hbr.cell (World.block_lt_of_cell? W _ hgc)).trans hgc
        have hyg : (gx.add y).block < W.heap.size := World.block_lt_of_cell? W _ hgc
        generalize hn0 : (160 : Int) * ((F.length : Int) - G.length) + (drows F G y : Nat) = n0
        have hn1 : 0 ≤ n0 ∧ n0 ≤ 400000000 := by have := drows_le F G y; omega
        obtain ⟨grow, hgrow⟩ : ∃ r, r = G.getD y [] := ⟨_, rfl⟩
        obtain ⟨frow, hfrow⟩ : ∃ r, r = F.getD y [] := ⟨_, rfl⟩
        rw [← hgrow] at hgc' hgr hgc hgl
        rw [← hfrow] at hfc hfr hfl
        have HGQ := Lib.hid hgrow
        have HFQ := Lib.hid hfrow
        have HGR := Lib.hid hgr
        have HFR := Lib.hid hfr
        have HFC := Lib.hid hfc
        clear hgr hfr hgc hfc hgrow hfrow
        have hfA := hfx
        have hgA := hgx
        subst hgx
        go_wp2_with fail
        go_loopw [5, 34] (fun n i wr => ∃ x : Nat, x ≤ 160 ∧ n = .int .i64 (n0 + (dcount frow grow x : Nat)) ∧ i = .int .i64 x ∧ Below W.heap.size W wr)
          (fun n i _ => 160 - (intOf i).toNat)
        case atStart => exact ⟨0, by omega, congrArg (Value.int .i64) (by rw [dcount_zero]; omega), rfl, hbr⟩
        case round =>
          clear hbr hgc'
          obtain ⟨x, hx, rfl, rfl, hbr⟩ := hrel
          by_cases hlx : x < 160
          · have hlx' : (x : Int) < 160 := by omega
            have hfc' := (hbr.cell (World.block_lt_of_cell? W _ HFC.out)).trans HFC.out
            have hcW' := (hbr.cell (p := ⟨w.heap.size, 0, none⟩) hsW).trans HCW.out
            have hylf : (y : Int) < F.length := by omega
            have hxw : IntKind.i64.wrap ((x : Int) + 1) = (x : Int) + 1 := by rw [IntKind.wrap_i64]; omega
            have hdl := dcount_le frow grow x
            have hnw : IntKind.i64.wrap (n0 + (dcount frow grow x : Nat) + 1) = n0 + (dcount frow grow x : Nat) + 1 := by rw [IntKind.wrap_i64]; omega
            obtain ⟨gv, hgv⟩ : ∃ v, grow.getD x 0 = v := ⟨_, rfl⟩
            obtain ⟨fv, hfv⟩ : ∃ v, frow.getD x 0 = v := ⟨_, rfl⟩
            have hdx : dcount frow grow (x + 1) = dcount frow grow x + if gv = fv then 0 else 1 := by rw [← hgv, ← hfv]; exact dcount_succ _ _ _
            have HGR' := Lib.hid (HGR.out.below hbr.drew)
            have HFR' := Lib.hid (HFR.out.below hbr.drew)
            have hx9 : x < 1000000 := by omega
            by_cases hq : gv = fv
            · have hqb : (gv == fv) = true := by rw [beq_iff_eq]; exact hq
              rw [if_pos hq] at hdx
              subst hq
              go_wp2_with fail
              go_region_law (first | (go_simp; go_at_call 39; (with_reducible refine (at_row' wr.drew gB grow gC x gv HGR'.out hx9 hgv).mono ?_); rintro e w9 ⟨rfl, rfl⟩) | (go_simp; go_at_call 39; (with_reducible refine (at_row' wr.drew fB frow fC x gv HFR'.out hx9 hfv).mono ?_); rintro e w9 ⟨rfl, rfl⟩))
              all_goals
                go_simp
                go_wp2_with fail
                go_roundw
                case rel => exact ⟨x + 1, by omega, congrArg (Value.int .i64) (by omega), by first | rfl | go_num | simp, hbr.drew⟩
                case measure => simp [intOf]; omega
            · have hqb : (gv == fv) = false := by rw [beq_eq_false_iff_ne]; exact hq
              rw [if_neg hq] at hdx
              go_wp2_with fail
              go_region_law (first | (go_simp; go_at_call 39; (with_reducible refine (at_row' wr.drew gB grow gC x gv HGR'.out hx9 hgv).mono ?_); rintro e w9 ⟨rfl, rfl⟩) | (go_simp; go_at_call 39; (with_reducible refine (at_row' wr.drew fB frow fC x fv HFR'.out hx9 hfv).mono ?_); rintro e w9 ⟨rfl, rfl⟩))
              all_goals
                go_simp
                go_wp2_with fail
                go_roundw
                case rel => exact ⟨x + 1, by omega, congrArg (Value.int .i64) (by omega), by first | rfl | go_num | simp, hbr.drew⟩
                case measure => simp [intOf]; omega
          · have hlx' : ¬ (x : Int) < 160 := by omega
            obtain rfl : x = 160 := by omega
            have hyw : IntKind.i64.wrap ((y : Int) + 1) = (y : Int) + 1 := by rw [IntKind.wrap_i64]; omega
            have hdy : n0 + (dcount frow grow 160 : Nat) = (160 : Int) * ((F.length : Int) - G.length) + (drows F G (y + 1) : Nat) := by rw [← hn0, HFQ.out, HGQ.out]; rw [drows_succ]; omega
            rw [hdy]
            go_wp2_with fail
            go_roundw
            case rel => first | exact ⟨y + 1, by omega, rfl, by first | rfl | go_num | simp, hbr⟩ | exact ⟨_, _, _, _, _, ⟨y + 1, by omega, rfl, rfl⟩, rfl, rfl, rfl, rfl, by simp⟩
            case measure => simp [intOf]; omega
      · have hly' : ¬ (y : Int) < G.length := by omega
        obtain rfl : y = G.length := by omega
        go_wp2_with fail
        go_ret
        refine ⟨?_, hbW.trans (hbr.mono hbW.size)⟩
        exact congrArg (fun z => Ending.returned (.int .i64 z)) (by unfold differM; rw [if_neg hlt]; omega)
end Go.Proofs.Ytgepcdohgiiaaaa
