/- The maker's rows: all, Rows. -/
import Derived.Test.YtgepcdohgiiaaaaA4
import Derived.Test.YtgepcdohgiiaaaaRg
namespace Go.Proofs.Ytgepcdohgiiaaaa
open Go.RowKit Go.Shelf
open Go.Proofs.YtgepcdohgiiaaaaW.PrintWords (nums own_slice step_append_cells ReadsInt)
set_option linter.unusedSimpArgs false
set_option linter.unusedVariables false
attribute [local go_sem] Oper.semAt_some

/-- A maker's own cells. -/
def makerCells (gb rows : Nat) (lost sync : Bool) : Array Value := #[.pointer (some ⟨gb, 0, none⟩), .int .i64 rows, .bool lost, .bool sync]

def ReadsAll (B box mb gb rows : Nat) (lost sync : Bool) (G : List (List Int)) (W : World) : Prop :=
  W.cell? ⟨box, 0, none⟩ = some (.pointer (some ⟨mb, 0, none⟩)) ∧ W.heap[mb]? = some (.cells (makerCells gb rows lost sync) 76 (0, 0)) ∧ IsGrid W B gb 160 G

def RowGiven (G : List (List Int)) (k : Nat) (vs : Array Value) (W : World) : Prop :=
  ∃ v, vs = #[v] ∧ W.ownsRow 0 5 1 v 160 (nums .u8 (G.getD k []))

set_option maxHeartbeats 2000000 in
set_option maxRecDepth 100000 in
theorem all_iter (n : Nat) (B box mb gb rows : Nat) (lost sync : Bool) (G : List (List Int)) (hrows : rows ≤ G.length) (hmax : rows ≤ 320) :
    IterOk n Try.prog 52 #[.pointer (some ⟨box, 0, none⟩)] rows (RowGiven G) (ReadsAll B box mb gb rows lost sync G) := by
  intro l J Jx W hJ hK hY h0
  have hr0 : (0 : Int) ≤ rows := by omega
  obtain ⟨k1, k2, k3⟩ := hK _ _ h0
  obtain ⟨c0, -⟩ := cell_row k2 0
  obtain ⟨c1, -⟩ := cell_row k2 1
  simp only [makerCells] at c0 c1
  simp at c0 c1
  refine callsIn_of_wp Try.func52 rfl trivial ?_ rfl
  simp only [Try.ntmps52, List.size_toArray, List.length_cons, List.length_nil, Nat.reduceAdd, Nat.reduceSub, Array.replicate_succ, Array.replicate_zero, List.push_toArray, List.append_toArray, List.nil_append, List.cons_append]
  gi_wp2
  gi_loopw [8] (fun iv wr => ∃ k : Nat, k ≤ rows ∧ iv = .int .i64 k ∧ J k wr) (fun iv _ => rows - (intOf iv).toNat)
  case atStart => exact ⟨0, by omega, rfl, h0⟩
  case round =>
    obtain ⟨k, hk, rfl, hj⟩ := hrel
    clear c0 c1
    obtain ⟨k1, k2, k3⟩ := hK _ _ hj
    obtain ⟨c0, -⟩ := cell_row k2 0
    simp only [makerCells] at c0
    simp at c0
    have k1' := k1
    by_cases hlt : k < rows
    · have hlt' : (k : Int) < rows := by omega
      gi_wp2_with (refine ⟨trivial, (fun h => absurd h (by simp [Fence.wide])), ?_⟩; gi_at_call 53; refine callsIn_wide.2 ((row_in _ B gb 160 G k k3 (by omega) (by omega) (by omega)).mono ?_); rintro e w1 ⟨v, rfl, ho, hb⟩; obtain ⟨fn, tmps, assign, body, hy, hR⟩ := hY k #[v] w1 hlt (hJ k _ _ hj hb) ⟨v, rfl, own_weaken' ho (Nat.zero_le _)⟩)
      refine ⟨fun h => absurd h (by simp [Fence.wide]), hR.mono ?_⟩
      rintro e W' (⟨rfl, hj'⟩ | ⟨rfl, hx⟩)
      · gi_wp2
        go_roundw
        case rel => exact ⟨k + 1, by omega, by first | rfl | go_num, hj'⟩
        case measure => simp [intOf]; omega
      · gi_wp2
        refine bodyPost_ret (results_none rfl _ _ _) rfl ?_
        exact ⟨⟨_, rfl⟩, .inr hx⟩
    · obtain rfl : k = rows := by omega
      gi_wp2
      refine bodyPost_end (results_none rfl _ _ _) rfl ?_
      exact ⟨⟨_, rfl⟩, .inl hj⟩
end Go.Proofs.Ytgepcdohgiiaaaa
