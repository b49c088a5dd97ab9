/- Clone, Row. -/
import Derived.Test.YtgepcdohgiiaaaaA3
import Derived.WalkSpells
namespace Go.Proofs.Ytgepcdohgiiaaaa
open Go.RowKit
open Go.Proofs.YtgepcdohgiiaaaaW.PrintWords (nums own_slice step_append_cells ReadsInt)
set_option linter.unusedSimpArgs false
set_option linter.unusedVariables false

theorem nums_one (k : IntKind) (xs : List Int) : ∀ u ∈ nums k xs, u.oneCell' = true := by
  intro u hu
  obtain ⟨x, _, rfl⟩ := List.mem_map.1 hu
  rfl
set_option maxHeartbeats 800000 in
set_option maxRecDepth 100000 in
theorem clone_in (w : World) (ad : Addr) (n c : Nat) (xs : List Int) (hl : xs.length = n) (hn : 1 ≤ n) (hn2 : n ≤ 140737488351232)
    (hc : ∀ j, j < n → w.cell? (ad.add j) = some (.int .u8 (xs.getD j 0))) :
    Calls Try.prog 58 #[.slice (some ad) n c] w fun e w' =>
      ∃ v, e = .returned v ∧ w'.ownsRow w.heap.size 5 1 v n (nums .u8 xs) ∧ Below w.heap.size w w' := by
  have hnil := fun (w : World) => Lib.run_eql_slice_nil (P := Try.prog) w 45 5 (some ad) n c 0 0 Try.underlying45
  obtain ⟨i0, hi, hz0, hz1, hz2⟩ := info_parts Try.info5
  have hlt := World.block_lt_of_cell? _ _ (hc 0 (by omega))
  go_enter Try.func58, Try.ntmps58
  go_wp2_with (at_builtin; refine wpList_append_own _ rfl (.tmp 5) (.tmp 6) 45 rfl w.heap.size 5 i0 (.int .u8 0) 1 1 Try.underlying45 hi hz0 hz1 hz2 rfl (by decide) (.slice (some ⟨w.heap.size, 0, none⟩) 0 0) 0 [] rfl ?own ad n c (nums .u8 xs) rfl ?len ?cells ?one ?b1 ?b2 ?b3 ?_)
  case own => simpa using World.ownsRow_lit (base := w.heap.size) (e := 5) (size := 1) w #[] 0 (Nat.le_refl _) (by simp [maxLen]) (by simp)
  case len => simp [nums, hl]
  case cells =>
    intro j u hu
    have hj : j < n := by
      have := (List.getElem?_eq_some_iff.1 hu).1
      simp [nums] at this; omega
    have hj' : j < xs.length := by omega
    have e := hc j hj
    have hb : (ad.add j).block < w.heap.size := World.block_lt_of_cell? _ _ e
    rw [World.cell?_alloc_lt _ _ _ hb, e, ← hu]
    simp [nums, List.getD_eq_getElem?_getD, hj']
  case one => exact nums_one .u8 xs
  case b1 => simp only [maxLen]; omega
  case b2 => omega
  case b3 => simp
  intro v' w1 ho hg _
  have HO := Lib.hid ho
  have hB : Below w.heap.size w w1 := ((Below.refl _ _).alloc (Nat.le_refl _) _).grown hg (by simp) (fun k e => by simp [Value.ownBlock] at e; omega)
  clear ho
  go_wp2
  go_ret
  exact ⟨v', rfl, HO.out, hB⟩

theorem at_zero (w : World) (gb rb h hc wd wc y rowb : Nat) (hw : wd ≤ 9223372036854775807) (hh : h ≤ 9223372036854775807)
    (hx : 0 < wd) (hy : y < h)
    (h0 : w.cell? ⟨gb, 0, none⟩ = some (.slice (some ⟨rb, 0, none⟩) h hc))
    (h1 : w.cell? ⟨rb, y, none⟩ = some (.slice (some ⟨rowb, 0, none⟩) wd wc)) :
    Calls Try.prog 51 #[.pointer (some ⟨gb, 0, none⟩), .int .i64 0, .int .i64 y] w fun e w' =>
      e = .returned (.tuple #[.pointer (some ⟨rowb, 0, none⟩), .int .i64 0]) ∧ w = w' := at_in w gb rb h hc wd wc y 0 rowb hw hh hx hy h0 h1

theorem RowsAt.reads {w : World} {B n : Nat} {bs : List Nat} {G : List (List Int)} (h : RowsAt w B n bs G) {y : Nat} (hy : y < G.length) :
    ∀ j, j < n → w.cell? ((⟨bs.getD y 0, 0, none⟩ : Addr).add j) = some (.int .u8 ((G.getD y []).getD j 0)) := by
  intro j hj
  rw [Addr.add_lit, Nat.zero_add]
  exact (h.cellAt hy hj).1

set_option maxHeartbeats 800000 in
set_option maxRecDepth 100000 in
/-- Row. -/
theorem row_in (w : World) (B gb n : Nat) (G : List (List Int)) (y : Nat) (hG : IsGrid w B gb n G) (hn1 : 1 ≤ n) (hn : n ≤ 140737488351232) (hy : y < G.length) :
    Calls Try.prog 53 #[.pointer (some ⟨gb, 0, none⟩), .int .i64 y] w fun e w' =>
      ∃ v, e = .returned v ∧ w'.ownsRow w.heap.size 5 1 v n (nums .u8 (G.getD y [])) ∧ Below w.heap.size w w' := by
  obtain ⟨rb, cap, bs, h0, hf0, hr, hl, h1, hset⟩ := hG.open (by omega)
  have h1' := h1 y hy
  have hrd := hr.reads hy
  have hlen := (hr.row y hy).2
  generalize bs.getD y 0 = b at *
  have HR := Lib.hid hrd
  have HL := Lib.hid hlen
  have hy0 : (0 : Int) ≤ y := by omega
  have hy1 : (y : Int) < (G.length : Int) := by omega
  clear hset h1 hrd hlen
  go_enter Try.func53, Try.ntmps53
  go_wp2_with (first | (go_at_call 51; refine (at_zero _ gb rb G.length cap n n y b (by omega) hl (by omega) hy (by assumption) h1').mono ?_; rintro e w' ⟨rfl, rfl⟩) | (go_at_call 58; refine (clone_in _ ⟨b, 0, none⟩ n n _ HL.out hn1 hn HR.out).mono ?_; rintro e w' ⟨v, rfl, ho, hb⟩; have HO := Lib.hid ho; clear ho))
  go_ret
  exact ⟨_, rfl, HO.out, hb⟩
end Go.Proofs.Ytgepcdohgiiaaaa
