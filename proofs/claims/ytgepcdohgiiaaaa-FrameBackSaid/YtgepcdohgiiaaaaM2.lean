/- Same of the document. -/
import Derived.Test.YtgepcdohgiiaaaaM1
namespace Go.Proofs.Ytgepcdohgiiaaaa
open Go.RowKit Go.Shelf
open Go.Proofs.YtgepcdohgiiaaaaW.PrintWords (own_slice Kd nums)
set_option linter.unusedSimpArgs false
set_option linter.unusedVariables false

/-- Numbers of a byte each. -/
def Bytes (xs : List Int) : Prop := ∀ x ∈ xs, 0 ≤ x ∧ x ≤ 255
theorem strOfNums_inj {a b : List Int} (ha : Bytes a) (hb : Bytes b) (h : (strOfNums a).toList = (strOfNums b).toList) : a = b := by
  rw [ByteArray.toList_eq, ByteArray.toList_eq, strOfNums_data, strOfNums_data] at h
  induction a generalizing b with
  | nil => cases b with
    | nil => rfl
    | cons y ys => simp at h
  | cons x xs ih => cases b with
    | nil => simp at h
    | cons y ys =>
      simp only [List.map_cons, List.cons.injEq] at h
      have h1 := ha x (by simp)
      have h2 := hb y (by simp)
      have e : x = y := by
        have e := congrArg UInt8.toNat h.1
        rw [UInt8.toNat_ofNat', UInt8.toNat_ofNat'] at e
        omega
      rw [e, ih (fun z hz => ha z (by simp [hz])) (fun z hz => hb z (by simp [hz])) h.2]

set_option maxHeartbeats 4000000 in
set_option maxRecDepth 100000 in
theorem same_in (w : World) (A B : Option Addr) (F G : List (List Int)) (c d : Nat) (hF : MatC w A F) (hG : MatC w B G) (h1 : F.length ≤ 1000000) (bF : ∀ r ∈ F, Bytes r) (bG : ∀ r ∈ G, Bytes r) :
    Calls Try.prog 17 #[.slice A F.length c, .slice B G.length d] w fun e w' => e = .returned (.bool (decide (F = G))) ∧ Below w.heap.size w w' := by
  by_cases hl : F.length = G.length
  · have hlb : ((F.length : Int) != G.length) = false := by rw [bne_eq_false_iff_eq]; omega
    have HFW := Lib.hid hF
    have HGW := Lib.hid hG
    clear hF hG
    have HL := Lib.hid hl
    clear hl
    go_enter Try.func17, Try.ntmps17
    go_wp2_with fail
    go_loopw [5] (fun i wr => ∃ y : Nat, y ≤ F.length ∧ i = .int .i64 y ∧ Hid (∀ j, j < y → F.getD j [] = G.getD j []) ∧ Hid (Below w.heap.size w wr))
      (fun i _ => F.length - (intOf i).toNat)
    case atStart => exact ⟨0, by omega, rfl, Lib.hid (fun j hj => absurd hj (by omega)), Lib.hid (Below.refl _ _)⟩
    case round =>
      obtain ⟨y, hy, rfl, heq0, hbr0⟩ := hrel
      have heq := heq0.out
      have hbr := hbr0.out
      clear heq0 hbr0
      by_cases hly : y < F.length
      · have hly' : (y : Int) < F.length := by omega
        have hly2 : (y : Int) < G.length := by have := HL.out; omega
        obtain ⟨fx, fB, fC, hfx, hfc, hfl, hfm, hfr⟩ := HFW.out y hly
        obtain ⟨gx, gB, gC, hgx, hgc, hgl, hgm, hgr⟩ := HGW.out y (by have := HL.out; omega)
        have hfc' := (hbr.cell (World.block_lt_of_cell? w _ hfc)).trans hfc
        have hgc' := (hbr.cell (World.block_lt_of_cell? w _ hgc)).trans hgc
        subst hfx
        subst hgx
        obtain ⟨frow, hfrow⟩ : ∃ r, r = F.getD y [] := ⟨_, rfl⟩
        obtain ⟨grow, hgrow⟩ : ∃ r, r = G.getD y [] := ⟨_, rfl⟩
        rw [← hgrow] at hgc' hgr hgc hgl
        rw [← hfrow] at hfc' hfr hfc hfl
        have hbf : Bytes frow := by rw [hfrow, List.getD_eq_getElem?_getD, List.getElem?_eq_getElem hly]; exact bF _ (List.getElem_mem hly)
        have hbg : Bytes grow := by
          have hlg : y < G.length := by have := HL.out; omega
          rw [hgrow, List.getD_eq_getElem?_getD, List.getElem?_eq_getElem hlg]; exact bG _ (List.getElem_mem hlg)
        have e0 : maxLen = 9223372036854775807 := rfl
        have hcf := Kd.C_string (P := Try.prog) (w := wr.drew) (src := 45) (dst := 9) (e := 5) (c := fC) Try.underlying45 Try.underlying5 Try.underlying9 ((hfr.below hbr.drew).C (by omega))
        have hcg := Kd.C_string (P := Try.prog) (w := wr.drew) (src := 45) (dst := 9) (e := 5) (c := gC) Try.underlying45 Try.underlying5 Try.underlying9 ((hgr.below hbr.drew).C (by omega))
        have HEQ := Lib.hid heq
        have HF1 := Lib.hid hfrow
        have HG1 := Lib.hid hgrow
        clear heq hfrow hgrow hfr hgr hfc hgc
        have hyw : IntKind.i64.wrap ((y : Int) + 1) = (y : Int) + 1 := by rw [IntKind.wrap_i64]; omega
        by_cases hq : frow = grow
        · have hqb : ((strOfNums frow).toList == (strOfNums grow).toList) = true := by rw [beq_iff_eq, hq]
          have HQ := Lib.hid hq
          clear hq
          go_wp2_with fail
          refine wp_region_still_lit (by kernel_rfl) (by kernel_rfl) ?_
          repeat still_step
          refine wpStill_nil ?_
          go_wp2_with fail
          go_roundw
          case rel =>
            refine ⟨y + 1, by omega, by first | rfl | go_num | simp, Lib.hid (fun j hj => ?_), Lib.hid hbr.drew⟩
            by_cases hjy : j < y
            · exact HEQ.out j hjy
            · obtain rfl : j = y := by omega
              exact HF1.out.symm.trans (HQ.out.trans HG1.out)
          case measure => simp [intOf]; omega
        · have hqb : ((strOfNums frow).toList == (strOfNums grow).toList) = false := by rw [beq_eq_false_iff_ne]; exact fun h => hq (strOfNums_inj hbf hbg h)
          have hne : decide (F = G) = false := by
            rw [decide_eq_false_iff_not]; intro h
            exact hq (by rw [HF1.out, HG1.out, h])
          have HQ := Lib.hid hq
          clear hq
          go_wp2_with fail
          refine wp_region_still_lit (by kernel_rfl) (by kernel_rfl) ?_
          repeat still_step
          refine wpStill_nil ?_
          go_wp2_with fail
          go_ret
          exact ⟨by first | rfl | (rw [hne]; rfl), hbr.drew⟩
      · have hge : ¬ ((y : Int) < F.length) := by omega
        have hall : decide (F = G) = true := by
          rw [decide_eq_true_eq]
          refine List.ext_getElem HL.out fun j h3 h4 => ?_
          have := heq j (by omega)
          rw [List.getD_eq_getElem?_getD, List.getD_eq_getElem?_getD, List.getElem?_eq_getElem h3, List.getElem?_eq_getElem h4] at this
          exact this
        clear heq
        go_wp2_with fail
        go_ret
        exact ⟨by first | rfl | (rw [hall]; rfl), hbr⟩
  · have hlb : ((F.length : Int) != G.length) = true := by rw [bne_iff_ne]; omega
    have e : decide (F = G) = false := by rw [decide_eq_false_iff_not]; intro h; exact hl (by rw [h])
    rw [e]
    go_enter Try.func17, Try.ntmps17
    go_wp2_with fail
    go_ret
    exact ⟨rfl, Below.refl _ _⟩
end Go.Proofs.Ytgepcdohgiiaaaa
