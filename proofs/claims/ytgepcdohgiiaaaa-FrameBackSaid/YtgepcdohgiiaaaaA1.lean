/- The grid's rows: slices.Repeat of one byte. -/
import Derived.Test.YtgepcdohgiiaaaaPFrameNilx1
import Derived.WalkKit
import Derived.KernelRfl
import Derived.Deep.QuietTactic
import Derived.BigQuiet
import Derived.Deep.RegionLaw
import Derived.Laws.CopyOwn
import Derived.Lib.Hide
import Derived.RowKit3
namespace Go.Proofs.Ytgepcdohgiiaaaa
open Go.RowKit
set_option linter.unusedSimpArgs false
set_option linter.unusedVariables false

theorem Try.info5 : (Try.prog.info? 5).map (fun i => (i.zero, i.size, i.bytes)) = some (some (.int .u8 0), 1, 1) := by kernel_rfl
theorem Try.size5 : (Try.prog.info? 5).map (·.size) = some 1 := by kernel_rfl

theorem alloc_new (w : World) (o : Obj) : (w.alloc o).heap[w.heap.size]? = some o := by
  show (w.heap.push o)[w.heap.size]? = some o
  simp
theorem addr_zero (a : Addr) : a.add 0 = a := by simp [Addr.add]
theorem Below.drewN {B : Nat} {w W : World} (h : Below B w W) (n : Nat) : Below B w (W.drewN n) := ⟨h.os, h.tape, h.output, h.size, h.block⟩
theorem mask32 (n : Int) (h0 : 0 ≤ n) (h1 : n < 18446744073709551616) : Go.bits .and .u64 n 4294967295 = n % 4294967296 := by
  rw [u64_and n 4294967295 h0 h1 (by omega) (by omega)]
  have : (4294967295 : Int).toNat = 2 ^ 32 - 1 := by decide
  rw [this, Nat.and_two_pow_sub_one_eq_mod]
  omega
theorem wrap_u64 (n : Int) : IntKind.u64.wrap n = n % 18446744073709551616 := by simp [IntKind.wrap, IntKind.bits, IntKind.signed]
theorem mul_one (n : Nat) (hn : n ≤ 140737488351232) : PFrameNil.bits_Mul.f 1 n = some (0, (n : Int)) := by
  have e0 : Go.bits .and .u64 1 4294967295 = 1 := by decide
  have e1 : Go.bits .and .u64 0 4294967295 = 0 := by decide
  have e2 := mask32 n (by omega) (by omega)
  have m0 : ((1 : Int) / 4294967296) = 0 := by decide
  have x0 : IntKind.u64.wrap ((n : Int) % 4294967296) / 4294967296 = 0 := by rw [wrap_u64]; omega
  have zz : (0 : Int) / 4294967296 = 0 := by decide
  have x2 : IntKind.u64.wrap ((n : Int) / 4294967296) = (n : Int) / 4294967296 := by rw [wrap_u64]; omega
  have x3 : IntKind.u64.wrap (n : Int) = n := by rw [wrap_u64]; omega
  have x4 : (n : Int) / 4294967296 / 4294967296 = 0 := by omega
  have z : IntKind.u64.wrap 0 = 0 := by decide
  simp only [PFrameNil.bits_Mul.f, PFrameNil.bits_Mul64.f, m0, e0, e1, e2, x0, x2, x3, x4, z, zz, Int.zero_mul, Int.one_mul, Int.zero_add, Int.add_zero, Int.zero_ediv, Option.bind_some]

/-- A row of n bytes of which k are laid. -/
def partRow (n k : Nat) (v : Int) : List Value := List.replicate k (Value.int .u8 v) ++ List.replicate (n - k) (Value.int .u8 0)
theorem partRow_length (n k : Nat) (v : Int) (h : k ≤ n) : (partRow n k v).length = n := by simp [partRow]; omega
theorem partRow_zero (n : Nat) (v : Int) : (partRow n 0 v).toArray = madeCells #[Value.int .u8 0] n := by
  have : (madeCells #[Value.int .u8 0] n).toList = (partRow n 0 v) := by rw [toList_madeCells_one]; simp [partRow]
  rw [← this]
theorem partRow_full (n : Nat) (v : Int) : partRow n n v = List.replicate n (Value.int .u8 v) := by simp [partRow]
theorem partRow_splice (n k m : Nat) (v : Int) (h : k + m ≤ n) : splice (partRow n k v) k (List.replicate m (Value.int .u8 v)) = partRow n (k + m) v := by
  unfold splice partRow
  rw [List.take_left' (by simp), List.drop_append]
  simp
  rw [← List.append_assoc, List.replicate_append_replicate]
  congr 2
  omega
theorem partRow_cell {w : World} {g n k : Nat} {v : Int} {t : TypeId} (hg : w.heap[g]? = some (.cells (partRow n k v).toArray t (0, 0))) (j : Nat) (hj : j < k) : w.cell? ⟨g, j, none⟩ = some (.int .u8 v) := by
  simp [World.cell?, hg, partRow, List.getElem?_append_left, hj]
theorem rep_cells {w : World} {a : Addr} {v : Int} {m : Nat} (h : ∀ j, j < m → w.cell? (a.add j) = some (.int .u8 v)) :
    ∀ j u, (List.replicate m (Value.int .u8 v))[j]? = some u → w.cell? (a.add j) = some u := by
  intro j u hj
  rw [List.getElem?_replicate] at hj
  split at hj
  · cases hj; exact h j ‹_›
  · cases hj
theorem rep_one (m : Nat) (v : Int) : ∀ u ∈ List.replicate m (Value.int .u8 v), u.oneCell' = true := by
  intro u hu; rw [List.mem_replicate] at hu; rw [hu.2]; rfl

set_option maxHeartbeats 1000000 in
set_option maxRecDepth 100000 in
theorem repeat_one (w : World) (ad : Addr) (c : Nat) (v : Int) (n : Nat) (hn1 : 1 ≤ n) (hn : n ≤ 140737488351232)
    (h0 : w.cell? ad = some (.int .u8 v)) :
    Calls Try.prog 57 #[.slice (some ad) 1 c, .int .i64 n] w fun e w' =>
      ∃ g, e = .returned (.slice (some ⟨g, 0, none⟩) n n) ∧ w.heap.size ≤ g ∧
        w'.heap[g]? = some (.cells (partRow n n v).toArray 5 (0, 0)) ∧ Below w.heap.size w w' := by
  have hn0 : (0 : Int) ≤ n := by omega
  have hmk := Go.Proofs.YtgepcdohgiiaaaaW.PrintWords.print_make (P := Try.prog) 45 5 .u8 1 Try.underlying45 Try.info5 (by omega) n (by omega)
  rw [← partRow_zero n v] at hmk
  have hlt := World.block_lt_of_cell? _ _ h0
  go_enter Try.func57, Try.ntmps57
  go_wp2_with fail
  refine (PFrameNil.bits_Mul.calls 1 n 0 n _ (mul_one n hn)).mono ?_
  rintro e w1 ⟨rfl, ⟨nd, rfl⟩⟩
  have hc1 : (w.drewN nd).cell? ad = some (.int .u8 v) := h0
  go_wp2_with (with_reducible refine wpList_copy_splice rfl (.tmp 31) (.tmp 32) 45 45 rfl 5 Try.underlying45 Try.size5 _ _ n n 1 c rfl rfl w.heap.size 0 (partRow n 0 v) 5 ?hg (List.replicate 1 (Value.int .u8 v)) ?hn ?hpos ?hfit ?h1 w.heap.size w ?hb ?hBg ?_)
  case hg => exact alloc_new (w.drewN nd) _
  case hn => simp [Nat.min_def]; omega
  case hpos =>
    intro j u hj
    have := rep_cells (w := (w.drewN nd).alloc (.cells (partRow n 0 v).toArray 5)) (a := ad) (v := v) (m := 1) (fun j hj => by
      obtain rfl : j = 0 := by omega
      rw [addr_zero]; exact (World.cell?_alloc_lt (w.drewN nd) _ _ hlt).trans h0) j u (by simpa using hj)
    exact this
  case hfit => simp [partRow]; omega
  case h1 => exact rep_one 1 v
  case hb => exact (Go.Proofs.Ytgepcdohgiiaaaa.Below.drewN (Below.refl _ _) nd).alloc (Nat.le_refl _) _
  case hBg => exact Nat.le_refl _
  intro w2 HG2 hB2
  have HG3 : Hid (w2.heap[w.heap.size]? = some (.cells (partRow n 1 v).toArray 5 (0, 0))) := by
    have := HG2.out
    rw [show [Value.int IntKind.u8 v] = List.replicate 1 (Value.int .u8 v) from rfl, partRow_splice n 0 1 v (by omega)] at this
    exact this
  clear HG2
  go_wp2
  go_loopw [8] (fun nv wr => ∃ k : Nat, 1 ≤ k ∧ k ≤ n ∧ nv = .int .i64 k ∧ Hid (wr.heap[w.heap.size]? = some (.cells (partRow n k v).toArray 5 (0, 0))) ∧ Below w.heap.size w wr) (fun nv _ => n - (intOf nv).toNat)
  case atStart => exact ⟨1, by omega, by omega, by go_num, HG3, hB2⟩
  case round =>
    obtain ⟨k, hk1, hkn, rfl, HG, hB⟩ := hrel
    have hk0 : (0 : Int) ≤ k := by omega
    by_cases hlt : k < n
    · have hlt' : (k : Int) < n := by omega
      have hne : ¬ (n = k) := by omega
      have hne0 : ¬ (n = 0) := by omega
      obtain ⟨m, hm⟩ : ∃ m, m = Nat.min k (n - k) := ⟨_, rfl⟩
      have HM := Lib.hid hm
      have hm1 : 1 ≤ m := by rw [hm]; simp only [Nat.min_def]; split <;> omega
      have hm2 : k + m ≤ n := by rw [hm]; simp only [Nat.min_def]; split <;> omega
      have hm3 : m ≤ k := by rw [hm]; exact Nat.min_le_left _ _
      clear hm
      go_wp2_with fail
      have H1 := Lib.hid (show (List.replicate m (Value.int .u8 v)).length = Nat.min k (n - k) from by rw [List.length_replicate]; exact HM.out)
      have H2 := Lib.hid (show 0 < (List.replicate m (Value.int .u8 v)).length → (some ⟨w.heap.size, k, none⟩ : Option Addr) = some ⟨w.heap.size, k, none⟩ ∧ ∃ ad, (some ⟨w.heap.size, 0, none⟩ : Option Addr) = some ad ∧ ∀ j u, (List.replicate m (Value.int .u8 v))[j]? = some u → wr.drew.cell? (ad.add j) = some u from
        fun _ => ⟨rfl, _, rfl, rep_cells (fun j hj => by rw [show (⟨w.heap.size, 0, none⟩ : Addr).add j = ⟨w.heap.size, j, none⟩ from by rw [Addr.add_lit, Nat.zero_add]]; exact partRow_cell (w := wr.drew) HG.out _ (by omega))⟩)
      have H3 := Lib.hid (show k + (List.replicate m (Value.int .u8 v)).length ≤ (partRow n k v).length from by rw [partRow_length _ _ _ hkn, List.length_replicate]; exact hm2)
      go_region_law (refine step_copy_splice rfl (.tmp 41) (.tmp 44) 45 45 rfl 5 Try.underlying45 Try.size5 (some ⟨w.heap.size, k, none⟩) (some ⟨w.heap.size, 0, none⟩) (n - k) (n - k) k n (by simp [Act.eval, Act.put]) (by simp [Act.eval, Act.put]) w.heap.size k (partRow n k v) 5 HG.out (List.replicate m (Value.int .u8 v)) H1.out H2.out H3.out (rep_one m v) w.heap.size w hB.drew (Nat.le_refl _) ?_; intro w4 hg4 hb4)
      have HG4 : Hid (w4.heap[w.heap.size]? = some (.cells (partRow n (k + m) v).toArray 5 (0, 0))) := by
        have := hg4.out
        rw [partRow_splice n k m v hm2] at this
        exact this
      clear hg4 H1 H2 H3
      have hws : IntKind.i64.wrap ((k : Int) + (m : Int)) = (k : Int) + m := by rw [IntKind.wrap_i64]; omega
      go_simp
      go_wp2
      clear hws
      go_roundw
      case rel => exact ⟨k + m, by omega, hm2, by first | go_num | simp, HG4, hb4⟩
      case measure => simp [intOf]; omega
    · have hge : ¬ ((k : Int) < n) := by omega
      obtain rfl : k = n := by omega
      go_wp2
      go_ret
      exact ⟨_, rfl, Nat.le_refl _, HG.out, hB⟩
end Go.Proofs.Ytgepcdohgiiaaaa
