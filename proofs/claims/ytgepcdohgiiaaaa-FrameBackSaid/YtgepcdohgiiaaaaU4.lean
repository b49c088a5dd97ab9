/- FrameReads. -/
import Derived.Test.YtgepcdohgiiaaaaU3
import Derived.Test.YtgepcdohgiiaaaaM3
namespace Go.Proofs.Ytgepcdohgiiaaaa
open Go.RowKit Go.Shelf
open Go.Proofs.YtgepcdohgiiaaaaW.PrintWords (own_slice Kd nums rd ReadsInt print_append_row)
set_option linter.unusedSimpArgs false
set_option linter.unusedVariables false

theorem expM_bytes (rs : List PRd.S91) : ∀ out o, (∀ r ∈ rs, 0 ≤ r.f0 ∧ r.f0 ≤ 255) → Bytes out → expM out rs = some o → Bytes o := by
  induction rs with
  | nil => intro out o _ hb h; simp only [expM, Option.some.injEq] at h; rw [← h]; exact hb
  | cons r rs ih =>
    intro out o hr hb h
    simp only [expM] at h
    split at h
    · cases h
    · split at h
      · cases h
      · refine ih _ _ (fun x hx => hr x (by simp [hx])) (fun x hx => ?_) h
        rcases List.mem_append.1 hx with hx | hx
        · exact hb x hx
        · rw [List.mem_replicate] at hx; rw [hx.2]; exact hr r (by simp)
theorem rowM_bytes {b o rest : List Int} (hb : Bytes b) (h : rowM b o rest) : Bytes o ∧ Bytes rest := by
  obtain ⟨_, _, _, h1, _, h2⟩ := h
  refine ⟨expM_bytes _ _ _ (fun r hr => ?_) (fun x hx => absurd hx (by simp)) h1, by rw [h2]; exact bytes_drop hb _⟩
  simp only [rl, List.mem_map] at hr
  obtain ⟨i, _, rfl⟩ := hr
  exact byte_at hb _
theorem rowsM_bytes (n : Nat) : ∀ b G, Bytes b → rowsM n b G → G.length = n ∧ ∀ r ∈ G, Bytes r := by
  induction n with
  | zero => rintro b G _ ⟨_, rfl⟩; exact ⟨rfl, fun r hr => absurd hr (by simp)⟩
  | succ n ih =>
    rintro b G hb ⟨o, r, G', h1, h2, rfl⟩
    obtain ⟨q1, q2⟩ := rowM_bytes hb h1
    obtain ⟨q3, q4⟩ := ih _ _ q2 h2
    refine ⟨by simp [q3], fun x hx => ?_⟩
    rcases List.mem_cons.1 hx with rfl | hx
    · exact q1
    · exact q4 x hx
theorem same_self {G : List (List Int)} (h : G.length ≤ 1000000) (hb : ∀ r ∈ G, Bytes r) : sameF G G = some true := by
  unfold sameF
  rw [if_pos ⟨h, List.all_eq_true.2 fun r hr => (bytesB_iff r).2 (hb r hr), List.all_eq_true.2 fun r hr => (bytesB_iff r).2 (hb r hr)⟩]
  simp
theorem ReadsInt.C {w : World} {A : Option Addr} {l : List Int} (h : ReadsInt w .u8 A l.length l) : Kd.C (Kd.int .u8) w A l.length l := Kd.C_of_reads (d := (0 : Int)) (h1 := fun _ => rfl) h

set_option maxHeartbeats 4000000 in
set_option maxRecDepth 100000 in
theorem frameReads_in (w : World) (A : Option Addr) (l : List Int) (c : Nat) (hr : ReadsInt w .u8 A l.length l) (hlc : l.length ≤ c) (hb : Bytes l) (hl : l.length ≤ 4000) :
    Calls Try.prog 8 #[.slice A l.length c] w fun e w' => e = .returned (.bool true) ∧ Below w.heap.size w w' := by
  have hu33 := Try.underlying33
  have hl' : ¬ (4000 : Int) < l.length := by omega
  have HR := Lib.hid hr
  have HRA := Lib.hid (hr.below (w1 := w.alloc (.cells #[] 5)) ((Below.refl _ _).alloc (Nat.le_refl _) _))
  clear hr
  go_enter Try.func8, Try.ntmps8
  go_wp2_with (at_builtin; refine print_append_row (w0 := w) w.heap.size rfl (.tmp 11) (.tmp 12) 45 5 .u8 1 rfl Try.underlying45 Try.info5 (by decide) (.slice (some ⟨w.heap.size, 0, none⟩) 0 0) [] l A l.length c ?e1 ?e2 ?e3 ?e4 ?e5 ?e6 ?e7 ?e8)
  case e3 => exact ⟨rfl, .inr ⟨w.heap.size, 0, #[], rfl, Nat.le_refl _, alloc_new w _, Nat.le_refl _, by decide, rfl, rfl⟩⟩
  case e4 => exact HRA.out
  case e5 => exact (Below.refl _ _).alloc (Nat.le_refl _) _
  case e7 => omega
  case e8 =>
    intro v1 w1 HO1 HB1 _ _
    obtain ⟨A1, c1, rfl⟩ := own_slice HO1
    have hV : Kd.V (Kd.int .u8) 5 w1 w1.heap.size (fun _ => True) (.slice A1 l.length c1) l := Kd.R_V (base := w.heap.size) (Kd.R_of_own (h1 := fun _ => rfl) (enc := Value.int .u8) HO1 (fun _ _ => trivial))
    have HV := Lib.hid hV
    have HBB := Lib.hid HB1
    clear HO1 hV HB1
    go_wp2_with fail
    refine (unpack_in w1 A1 l c1 (fun _ => True) HV.out hb (by omega)).mono ?_
    rintro e w2 hU
    rcases hU with ⟨G, v, hun, rfl, hf, hb2⟩ | ⟨hno, rfl, hb2⟩
    · obtain ⟨hGl, hGb⟩ := rowsM_bytes _ _ _ (bytes_drop hb 2) hun.2.2
      have hG320 : G.length ≤ 1000000 := by have := hun.2.1; omega
      obtain ⟨Af, cf, rfl, hfl, hfC⟩ := hf.C
      rcases ref_f l hb (by omega) with ⟨G', hun', hrf⟩ | ⟨hno, _⟩
      · obtain rfl : G' = G := rowsM_unique _ _ _ _ hun'.2.2 hun.2.2
        have HB2 := Lib.hid (HBB.out.trans (hb2.mono HBB.out.size))
        have HRF := Lib.hid hrf
        have HFC := Lib.hid (Kd.C_below hfC ((Below.refl w2.heap.size w2).alloc (Nat.le_refl _) (.cells #[.slice Af G'.length cf] 33)))
        have HSS := Lib.hid (same_self hG320 hGb)
        clear hrf hfC hGb hf hun hun' hb2 hGl
        go_wp2_with fail
        obtain ⟨W, hW⟩ : ∃ W, W = w2.alloc (.cells #[.slice Af G'.length cf] 33) := ⟨_, rfl⟩
        have hBW : Below w.heap.size w W := by rw [hW]; exact HB2.out.alloc HB2.out.size _
        have hfb : W.heap[w2.heap.size]? = some (.cells #[.slice Af G'.length cf] 33 (0, 0)) := by rw [hW]; exact alloc_new w2 _
        rw [← hW] at HFC ⊢
        refine (PRd.woodgrainref24_Unpack.calls 400000 A c l G' 0 W (ReadsInt.C (HR.out.below hBW)) hlc HRF.out).mono ?_
        rintro e w3 ⟨v0, rfl, hS, hb3⟩
        obtain ⟨A3, c3, rfl, hl3, hC3⟩ := Kd.R_reads (Kd.S_R hS)
        have fc3 := cell_of_one ((hb3.block _ (lt_of_block hfb)).trans hfb)
        have HB3 := Lib.hid (hBW.trans (hb3.mono hBW.size))
        have HC3 := Lib.hid hC3
        have HF3 := Lib.hid (Kd.C_below HFC.out hb3)
        clear hS hb3 hC3 hfb hBW hW
        go_wp2_with fail
        refine (same_calls Af cf G' A3 c3 G' true w3 HF3.out hfl HC3.out hl3 HSS.out).mono ?_
        rintro e w4 ⟨rfl, hb4⟩
        go_wp2_with fail
        refine (awake_in _).mono ?_
        rintro e w5 ⟨rfl, hb5⟩
        go_wp2_with fail
        go_ret
        refine ⟨rfl, ?_⟩
        have h1 := HB3.out.trans (hb4.mono HB3.out.size)
        exact h1.trans (hb5.mono h1.size)
      · exact absurd ⟨G, hun⟩ hno
    · rcases ref_f l hb (by omega) with ⟨G', hun', _⟩ | ⟨_, hrf⟩
      · exact absurd ⟨G', hun'⟩ hno
      · have HB2 := Lib.hid (HBB.out.trans (hb2.mono HBB.out.size))
        have HRF := Lib.hid hrf
        have HSS := Lib.hid (same_self (G := []) (by simp) (fun r hr => absurd hr (by simp)))
        clear hrf hno hb2
        go_wp2_with fail
        obtain ⟨W, hW⟩ : ∃ W, W = w2.alloc (.cells #[.slice none 0 0] 33) := ⟨_, rfl⟩
        have hBW : Below w.heap.size w W := by rw [hW]; exact HB2.out.alloc HB2.out.size _
        have hfb : W.heap[w2.heap.size]? = some (.cells #[.slice none 0 0] 33 (0, 0)) := by rw [hW]; exact alloc_new w2 _
        rw [← hW]
        refine (PRd.woodgrainref24_Unpack.calls 400000 A c l [] 9 W (ReadsInt.C (HR.out.below hBW)) hlc HRF.out).mono ?_
        rintro e w3 ⟨v0, rfl, hS, hb3⟩
        obtain ⟨A3, c3, rfl, hl3, hC3⟩ := Kd.R_reads (Kd.S_R hS)
        have fc3 := cell_of_one ((hb3.block _ (lt_of_block hfb)).trans hfb)
        have HB3 := Lib.hid (hBW.trans (hb3.mono hBW.size))
        have HC3 := Lib.hid hC3
        have HF3 := Lib.hid ((FrameIs.nil w3).C)
        clear hS hb3 hC3 hfb hBW hW
        go_wp2_with fail
        obtain ⟨An, cn, en, hln, hCn⟩ := HF3.out
        cases en
        refine (same_calls none 0 [] A3 c3 [] true w3 hCn hln HC3.out hl3 HSS.out).mono ?_
        rintro e w4 ⟨rfl, hb4⟩
        go_wp2_with fail
        refine (awake_in _).mono ?_
        rintro e w5 ⟨rfl, hb5⟩
        go_wp2_with fail
        go_ret
        refine ⟨rfl, ?_⟩
        have h1 := HB3.out.trans (hb4.mono HB3.out.size)
        exact h1.trans (hb5.mono h1.size)

set_option maxHeartbeats 4000000 in
set_option maxRecDepth 100000 in
theorem frameReads_skip (a : Option Addr) (len cap : Nat) (w : World) (h : 4000 < len) :
    Calls Try.prog 8 #[.slice a len cap] w fun e w' => e = .returned (.bool true) ∧ Below w.heap.size w w' := by
  have h1 : ((4000 : Int) < len) := by omega
  go_enter Try.func8, Try.ntmps8
  go_wp2_with fail
  go_ret
  exact ⟨rfl, Below.refl _ _⟩
/-- A slice of bytes that comes in, as numbers. -/
theorem reads_of_row {a0 : Option Addr} {len0 cap0 : Nat} {z0 : List Int} {w : World}
    (w0 : (a0 = none ∧ len0 = 0 ∧ cap0 = 0 ∧ z0 = []) ∨ ∃ x, a0 = some x ∧ len0 ≤ cap0 ∧ cap0 ≤ maxLen ∧ z0.length = cap0 ∧ (∀ i, i < z0.length → w.cell? (x.add i) = some (.int .u8 (z0.getD i 0))) ∧ ∀ n ∈ z0, (Lit.int .u8 n).wf = true) :
    (z0.take len0).length = len0 ∧ len0 ≤ cap0 ∧ Bytes (z0.take len0) ∧ ReadsInt w .u8 a0 len0 (z0.take len0) := by
  rcases w0 with ⟨rfl, rfl, rfl, rfl⟩ | ⟨x, rfl, h1, h2, h3, h4, h5⟩
  · exact ⟨rfl, Nat.le_refl _, fun x hx => absurd hx (by simp), rfl, by omega, fun h => absurd h (by omega)⟩
  · have e : maxLen = 9223372036854775807 := rfl
    have hl : (z0.take len0).length = len0 := by rw [List.length_take]; omega
    refine ⟨hl, h1, fun n hn => bytes_of_wf h5 n (List.mem_of_mem_take hn), hl, by omega, fun _ => ⟨x, rfl, fun j hj => ?_⟩⟩
    rw [h4 j (by omega), List.getD_eq_getElem?_getD, List.getD_eq_getElem?_getD, List.getElem?_take, if_pos hj]
theorem frameReads_walk (a0 : Option Addr) (len0 cap0 : Nat) (z0 : List Int) (w : World)
    (w0 : (a0 = none ∧ len0 = 0 ∧ cap0 = 0 ∧ z0 = []) ∨ ∃ x, a0 = some x ∧ len0 ≤ cap0 ∧ cap0 ≤ maxLen ∧ z0.length = cap0 ∧ (∀ i, i < z0.length → w.cell? (x.add i) = some (.int .u8 (z0.getD i 0))) ∧ ∀ n ∈ z0, (Lit.int .u8 n).wf = true)
    (y0 : len0 * 1 ≤ 140737488351232) :
    Calls Try.prog 8 #[.slice a0 len0 cap0] w fun e w' => e = .returned (.bool true) ∧ Below w.heap.size w w' := by
  obtain ⟨hl, hlc, hb, hr⟩ := reads_of_row w0
  by_cases h : len0 ≤ 4000
  · have := frameReads_in w a0 (z0.take len0) cap0 (by rw [hl]; exact hr) (by rw [hl]; exact hlc) hb (by rw [hl]; exact h)
    rw [hl] at this
    exact this
  · exact frameReads_skip a0 len0 cap0 w (by omega)
end Go.Proofs.Ytgepcdohgiiaaaa
