/- Contracts in the print's own form: slices.Repeat of one byte, awake. -/
import Derived.Test.YtgepcdohgiiaaaaM2
namespace Go.Proofs.Ytgepcdohgiiaaaa
open Go.RowKit Go.Shelf
open Go.Proofs.YtgepcdohgiiaaaaW.PrintWords (own_slice Kd nums)
set_option linter.unusedVariables false
set_option linter.unusedSimpArgs false

def repeatF (l0 : List Int) (a1 : Int) : Option (List Int) := if l0.length = 1 ∧ 1 ≤ a1 ∧ a1 ≤ 140737488351232 then some (List.replicate a1.toNat (l0.getD 0 0)) else none
theorem C_first {w : World} {A : Option Addr} {l0 : List Int} (h : Kd.C (Kd.int .u8) w A l0.length l0) (h1 : l0.length = 1) : ∃ ad, A = some ad ∧ w.cell? ad = some (.int .u8 (l0.getD 0 0)) := by
  obtain ⟨ad, c, e, hl, hk, hc⟩ := Kd.C_get h (0 : Int) 0 (by omega) (by omega)
  refine ⟨ad, e, ?_⟩
  have hc0 := hc 0 (.int .u8 (l0.getD 0 0)) (by
    have hk' : c = [.int .u8 (l0.getD 0 0)] := hk
    rw [hk']; rfl)
  simpa [Addr.add] using hc0
theorem R_of_block {w : World} {base g n : Nat} {v : Int} (hg : base ≤ g) (hn : n ≤ 140737488351232) (hb : w.heap[g]? = some (.cells (partRow n n v).toArray 5 (0, 0))) :
    Kd.R (Kd.int .u8) 5 w base (fun _ => True) (.slice (some ⟨g, 0, none⟩) n n) (List.replicate n v) := by
  rw [partRow_nums] at hb
  refine Kd.R_of_own (h1 := fun _ => rfl) (enc := Value.int .u8) ?_ (fun _ _ => trivial)
  refine ⟨by simp [Go.Proofs.YtgepcdohgiiaaaaW.PrintWords.encs], .inr ⟨g, n, _, by rw [List.length_replicate], hg, hb, by simp, by have e : maxLen = 9223372036854775807 := rfl; omega, by simp [nums], ?_⟩⟩
  simp only [List.toList_toArray]
  exact List.take_of_length_le (by simp [nums])
theorem repeat_calls (A0 : Option Addr) (c0 : Nat) (l0 : List Int) (a1 : Int) (r : List Int) (w : World) (hr0 : Kd.C (Kd.int .u8) w A0 l0.length l0) (hc0 : l0.length ≤ c0) (h : repeatF l0 a1 = some r) :
    Calls Try.prog 57 #[.slice A0 l0.length c0, .int .i64 a1] w fun e w' => ∃ v0_ : Value, e = .returned v0_ ∧ Kd.R (Kd.int .u8) 5 w' w.heap.size (fun _ => True) v0_ r ∧ Below w.heap.size w w' := by
  unfold repeatF at h
  split at h
  · rename_i hh
    obtain ⟨h1, h2, h3⟩ := hh
    injection h with h
    subst h
    obtain ⟨ad, rfl, hc⟩ := C_first hr0 h1
    have hn : ((a1.toNat : Nat) : Int) = a1 := by omega
    rw [h1]
    have := repeat_one w ad c0 (l0.getD 0 0) a1.toNat (by omega) (by omega) hc
    rw [hn] at this
    refine this.mono ?_
    rintro e w1 ⟨g, rfl, hg, hb, hbel⟩
    exact ⟨_, rfl, R_of_block hg (by omega) hb, hbel⟩
  · cases h
theorem awake_calls (r : Bool) (w : World) (h : (some true : Option Bool) = some r) : Calls Try.prog 19 #[] w fun e w' => e = .returned (.bool r) ∧ Below w.heap.size w w' := by
  injection h with h
  subst h
  exact awake_in w
def MatD (w : World) (A : Option Addr) (G : List (List Int)) : Prop :=
  ∀ r, r < G.length → ∃ x B C, A = some x ∧ w.cell? (x.add r) = some (.slice B (G.getD r []).length C) ∧ (G.getD r []).length ≤ C ∧ (G.getD r []).length ≤ maxLen ∧ RowC w B (G.getD r [])
theorem mat_of_C {w : World} {A : Option Addr} {G : List (List Int)} (h : Kd.C (Kd.slice 5 (Kd.int .u8)) w A G.length G) : MatD w A G := fun r hr => by
  obtain ⟨ad, c, e, hl, hk, hc⟩ := Kd.C_get h ([] : List Int) r (by omega) (by omega)
  obtain ⟨B, C, hB, hle, hC⟩ := hk
  rw [show ((r : Int)).toNat = r from by omega] at hB hle hC hc
  subst hB
  have hc0 := hc 0 (.slice B (G.getD r []).length C) rfl
  have e0 : maxLen = 9223372036854775807 := rfl
  refine ⟨ad, B, C, e, ?_, hle, ?_, fun j hj => ?_⟩
  · rw [show r * (Kd.slice 5 (Kd.int .u8)).sz + 0 = r from by show r * 1 + 0 = r; omega] at hc0
    exact hc0
  · have := hC.2.1; omega
  · obtain ⟨ad', c', e', hl', hk', hc'⟩ := Kd.C_get hC (0 : Int) j (by omega) (by omega)
    rw [show ((j : Int)).toNat = j from by omega] at hk' hc'
    have hk2 : c' = [.int .u8 ((G.getD r []).getD j 0)] := hk'
    have := hc' 0 (.int .u8 ((G.getD r []).getD j 0)) (by rw [hk2]; rfl)
    rw [show j * (Kd.int .u8).sz + 0 = j from by show j * 1 + 0 = j; omega] at this
    exact ⟨ad', e', this⟩

set_option maxHeartbeats 4000000 in
set_option maxRecDepth 100000 in
theorem same_in2 (w : World) (A B : Option Addr) (F G : List (List Int)) (c d : Nat) (hF : MatD w A F) (hG : MatD w B G) (h1 : F.length ≤ 1000000) (bF : ∀ r ∈ F, Bytes r) (bG : ∀ r ∈ G, Bytes r) :
    Calls Try.prog 17 #[.slice A F.length c, .slice B G.length d] w fun e w' => e = .returned (.bool (decide (F = G))) ∧ Below w.heap.size w w' := by
  by_cases hl : F.length = G.length
  · have hlb : ((F.length : Int) != G.length) = false := by rw [bne_eq_false_iff_eq]; omega
    have HFW := Lib.hid hF
    have HGW := Lib.hid hG
    clear hF hG
    have HL := Lib.hid hl
    clear hl
    go_enter Try.func17, Try.ntmps17
    go_wp2_with fail
    go_loopw [5] (fun i wr => ∃ y : Nat, y ≤ F.length ∧ i = .int .i64 y ∧ Hid (∀ j, j < y → F.getD j [] = G.getD j []) ∧ Hid (Below w.heap.size w wr))
      (fun i _ => F.length - (intOf i).toNat)
    case atStart => exact ⟨0, by omega, rfl, Lib.hid (fun j hj => absurd hj (by omega)), Lib.hid (Below.refl _ _)⟩
    case round =>
      obtain ⟨y, hy, rfl, heq0, hbr0⟩ := hrel
      have heq := heq0.out
      have hbr := hbr0.out
      clear heq0 hbr0
      by_cases hly : y < F.length
      · have hly' : (y : Int) < F.length := by omega
        have hly2 : (y : Int) < G.length := by have := HL.out; omega
        obtain ⟨fx, fB, fC, hfx, hfc, hfl, hfm, hfr⟩ := HFW.out y hly
        obtain ⟨gx, gB, gC, hgx, hgc, hgl, hgm, hgr⟩ := HGW.out y (by have := HL.out; omega)
        have hfc' := (hbr.cell (World.block_lt_of_cell? w _ hfc)).trans hfc
        have hgc' := (hbr.cell (World.block_lt_of_cell? w _ hgc)).trans hgc
        subst hfx
        subst hgx
        obtain ⟨frow, hfrow⟩ : ∃ r, r = F.getD y [] := ⟨_, rfl⟩
        obtain ⟨grow, hgrow⟩ : ∃ r, r = G.getD y [] := ⟨_, rfl⟩
        rw [← hgrow] at hgc' hgr hgc hgl hgm
        rw [← hfrow] at hfc' hfr hfc hfl hfm
        have hbf : Bytes frow := by rw [hfrow, List.getD_eq_getElem?_getD, List.getElem?_eq_getElem hly]; exact bF _ (List.getElem_mem hly)
        have hbg : Bytes grow := by
          have hlg : y < G.length := by have := HL.out; omega
          rw [hgrow, List.getD_eq_getElem?_getD, List.getElem?_eq_getElem hlg]; exact bG _ (List.getElem_mem hlg)
        have e0 : maxLen = 9223372036854775807 := rfl
        have hcf := Kd.C_string (P := Try.prog) (w := wr.drew) (src := 45) (dst := 9) (e := 5) (c := fC) Try.underlying45 Try.underlying5 Try.underlying9 ((hfr.below hbr.drew).C (by omega))
        have hcg := Kd.C_string (P := Try.prog) (w := wr.drew) (src := 45) (dst := 9) (e := 5) (c := gC) Try.underlying45 Try.underlying5 Try.underlying9 ((hgr.below hbr.drew).C (by omega))
        have HEQ := Lib.hid heq
        have HF1 := Lib.hid hfrow
        have HG1 := Lib.hid hgrow
        clear heq hfrow hgrow hfr hgr hfc hgc
        have hyw : IntKind.i64.wrap ((y : Int) + 1) = (y : Int) + 1 := by rw [IntKind.wrap_i64]; omega
        by_cases hq : frow = grow
        · have hqb : ((strOfNums frow).toList == (strOfNums grow).toList) = true := by rw [beq_iff_eq, hq]
          have HQ := Lib.hid hq
          clear hq
          go_wp2_with fail
          refine wp_region_still_lit (by kernel_rfl) (by kernel_rfl) ?_
          repeat still_step
          refine wpStill_nil ?_
          go_wp2_with fail
          go_roundw
          case rel =>
            refine ⟨y + 1, by omega, by first | rfl | go_num | simp, Lib.hid (fun j hj => ?_), Lib.hid hbr.drew⟩
            by_cases hjy : j < y
            · exact HEQ.out j hjy
            · obtain rfl : j = y := by omega
              exact HF1.out.symm.trans (HQ.out.trans HG1.out)
          case measure => simp [intOf]; omega
        · have hqb : ((strOfNums frow).toList == (strOfNums grow).toList) = false := by rw [beq_eq_false_iff_ne]; exact fun h => hq (strOfNums_inj hbf hbg h)
          have hne : decide (F = G) = false := by
            rw [decide_eq_false_iff_not]; intro h
            exact hq (by rw [HF1.out, HG1.out, h])
          have HQ := Lib.hid hq
          clear hq
          go_wp2_with fail
          refine wp_region_still_lit (by kernel_rfl) (by kernel_rfl) ?_
          repeat still_step
          refine wpStill_nil ?_
          go_wp2_with fail
          go_ret
          exact ⟨by first | rfl | (rw [hne]; rfl), hbr.drew⟩
      · have hge : ¬ ((y : Int) < F.length) := by omega
        have hall : decide (F = G) = true := by
          rw [decide_eq_true_eq]
          refine List.ext_getElem HL.out fun j h3 h4 => ?_
          have := heq j (by omega)
          rw [List.getD_eq_getElem?_getD, List.getD_eq_getElem?_getD, List.getElem?_eq_getElem h3, List.getElem?_eq_getElem h4] at this
          exact this
        clear heq
        go_wp2_with fail
        go_ret
        exact ⟨by first | rfl | (rw [hall]; rfl), hbr⟩
  · have hlb : ((F.length : Int) != G.length) = true := by rw [bne_iff_ne]; omega
    have e : decide (F = G) = false := by rw [decide_eq_false_iff_not]; intro h; exact hl (by rw [h])
    rw [e]
    go_enter Try.func17, Try.ntmps17
    go_wp2_with fail
    go_ret
    exact ⟨rfl, Below.refl _ _⟩
def bytesB (xs : List Int) : Bool := xs.all fun x => decide (0 ≤ x ∧ x ≤ 255)
theorem bytesB_iff (xs : List Int) : bytesB xs = true ↔ Bytes xs := by
  simp [bytesB, Bytes, List.all_eq_true]
def sameF (F G : List (List Int)) : Option Bool := if F.length ≤ 1000000 ∧ F.all bytesB = true ∧ G.all bytesB = true then some (decide (F = G)) else none
theorem same_calls (A0 : Option Addr) (c0 : Nat) (l0 : List (List Int)) (A1 : Option Addr) (c1 : Nat) (l1 : List (List Int)) (r : Bool) (w : World) (hr0 : Kd.C (Kd.slice 5 (Kd.int .u8)) w A0 l0.length l0) (hc0 : l0.length ≤ c0) (hr1 : Kd.C (Kd.slice 5 (Kd.int .u8)) w A1 l1.length l1) (hc1 : l1.length ≤ c1) (h : sameF l0 l1 = some r) :
    Calls Try.prog 17 #[.slice A0 l0.length c0, .slice A1 l1.length c1] w fun e w' => e = .returned (.bool r) ∧ Below w.heap.size w w' := by
  unfold sameF at h
  split at h
  · rename_i hh
    injection h with h
    subst h
    exact same_in2 w A0 A1 l0 l1 c0 c1 (mat_of_C hr0) (mat_of_C hr1) hh.1 (fun r hr => (bytesB_iff r).1 (List.all_eq_true.1 hh.2.1 r hr)) (fun r hr => (bytesB_iff r).1 (List.all_eq_true.1 hh.2.2 r hr))
  · cases h
end Go.Proofs.Ytgepcdohgiiaaaa
