/- FrameBack: the walk. -/
import Derived.Test.YtgepcdohgiiaaaaV4
namespace Go.Proofs.Ytgepcdohgiiaaaa
open Go.RowKit Go.Shelf
open Go.Proofs.YtgepcdohgiiaaaaW.PrintWords (own_slice Kd nums rd ReadsInt)
set_option linter.unusedSimpArgs false
set_option linter.unusedVariables false

set_option maxHeartbeats 8000000 in
set_option maxRecDepth 100000 in
theorem frameBack_in (w : World) (A : Option Addr) (F : List (List Int)) (c : Nat) (B : Option Addr) (l : List Int) (d : Nat) (hF : MatC w A F) (hFc : F.length ≤ c) (hFl : F.length ≤ 9223372036854775807) (hFb : ∀ r ∈ F, Bytes r)
    (hr : ReadsInt w .u8 B l.length l) (hld : l.length ≤ d) (hb : Bytes l) :
    Calls Try.prog 9 #[.slice A F.length c, .slice B l.length d] w fun e w' => e = .returned (.bool true) ∧ Below w.heap.size w w' := by
  have hu33 := Try.underlying33
  have HF := Lib.hid hF
  have HFB := Lib.hid hFb
  have HR := Lib.hid hr
  clear hF hFb hr
  by_cases hl4 : 4000 < l.length
  · have hl4' : (4000 : Int) < l.length := by omega
    go_enter Try.func9, Try.ntmps9
    go_wp2_with fail
    refine (light_in w A F c HF.out hFl).mono ?_
    rintro e w1 ⟨b, rfl, _, rfl⟩
    cases b
    all_goals
      go_wp2_with fail
      go_ret
      exact ⟨rfl, Below.refl _ _⟩
  · have hl4' : ¬ (4000 : Int) < l.length := by omega
    go_enter Try.func9, Try.ntmps9
    go_wp2_with fail
    refine (light_in w A F c HF.out hFl).mono ?_
    rintro e w1 ⟨b, rfl, hbt, rfl⟩
    cases b with
    | false =>
      go_wp2_with fail
      go_ret
      exact ⟨rfl, Below.refl _ _⟩
    | true =>
      obtain ⟨h30, h400⟩ := hbt rfl
      go_wp2_with fail
      have hpk := fpack_f F (by omega) (fun r hr => by have := h400 r hr; omega)
      have hCF := HF.out.C hFl
      by_cases h160 : ∀ r ∈ F, r.length = 160
      · refine (PRd.frame_Pack.calls 200000 A c F (packM F) 0 w hCF hFc (hpk.1 h160)).mono ?_
        rintro e w1 ⟨v0, rfl, hR1, hb1⟩
        obtain ⟨hpb, hpl⟩ := packM_bytes F (fun r hr => ⟨HFB.out r hr, h160 r hr⟩)
        have hV1 : Kd.V (Kd.int .u8) 5 w1 w1.heap.size (fun _ => True) v0 (packM F) := Kd.R_V (base := w.heap.size) hR1
        obtain ⟨A1, c1, rfl⟩ := Kd.V_slice hV1
        have HV1 := Lib.hid hV1
        have HB1 := Lib.hid hb1
        have HPB := Lib.hid hpb
        have hpl2 : (packM F).length ≤ 1000000 := by omega
        have HPR := Lib.hid (pack_reads F h160 (by omega))
        clear hR1 hV1 hb1 hpk hpb hpl h160 h400 hCF
        go_wp2_with fail
        refine (unpack_in w1 A1 (packM F) c1 (fun _ => True) HV1.out HPB.out hpl2).mono ?_
        rintro e w2 hU
        rcases hU with ⟨G, v, hun, rfl, hf, hb2⟩ | ⟨hno, _, _⟩
        · obtain rfl : G = F := rowsM_unique _ _ _ _ hun.2.2 HPR.out.2.2
          obtain ⟨Af, cf, rfl, hfl, hfC⟩ := hf.C
          have HB2 := Lib.hid (HB1.out.trans (hb2.mono HB1.out.size))
          have HSS := Lib.hid (same_self (G := G) (by omega) HFB.out)
          have HFC := Lib.hid (Kd.C_below hfC ((Below.refl w2.heap.size w2).alloc (Nat.le_refl _) (.cells #[.slice Af G.length cf] 33)))
          have HAC := Lib.hid (Kd.C_below (HF.out.C hFl) (HB2.out.alloc HB2.out.size (.cells #[.slice Af G.length cf] 33)))
          have HBA := Lib.hid (HB2.out.alloc HB2.out.size (.cells #[.slice Af G.length cf] 33))
          clear hun hf hb2 hfC
          go_wp2_with fail
          refine (same_calls Af cf G A c G true _ HFC.out hfl HAC.out hFc HSS.out).mono ?_
          rintro e w3 ⟨rfl, hb3⟩
          have HB3 := Lib.hid (HBA.out.trans (hb3.mono HBA.out.size))
          clear hb3
          go_wp2_with fail
          have hVB : Kd.V (Kd.int .u8) 5 w3 w3.heap.size (fun k => k < w3.heap.size) (.slice B l.length d) l := Kd.V_mk hld (Kd.C_F (Kd.heap_int .u8) (ReadsInt.C (HR.out.below HB3.out)))
          have HVB := Lib.hid hVB
          clear hVB
          refine (unpack_in w3 B l d (fun k => k < w3.heap.size) HVB.out hb (by omega)).mono ?_
          rintro e w4 hU2
          rcases hU2 with ⟨H, v, hun, rfl, hf, hb4⟩ | ⟨hno, rfl, hb4⟩
          · obtain ⟨hpm, hH320, hH160⟩ := pack_back hb hun
            obtain ⟨Ah, ch, rfl, hhl, hhC⟩ := hf.C
            have HPK := Lib.hid ((fpack_f H hH320 (fun r hr => by have := hH160 r hr; omega)).1 hH160)
            rw [hpm] at HPK
            have HB4 := Lib.hid ((HB3.out.trans (hb4.mono HB3.out.size)).alloc (HB3.out.trans (hb4.mono HB3.out.size)).size (.cells #[.slice Ah H.length ch] 33))
            have HHC := Lib.hid (Kd.C_below hhC ((Below.refl w4.heap.size w4).alloc (Nat.le_refl _) (.cells #[.slice Ah H.length ch] 33)))
            clear hun hf hb4 hhC hpm hH160
            go_wp2_with fail
            refine (PRd.frame_Pack.calls 200000 Ah ch H l 0 _ HHC.out hhl HPK.out).mono ?_
            rintro e w5 ⟨v5, rfl, hR5, hb5⟩
            obtain ⟨A5, c5, rfl, hl5, hC5⟩ := Kd.R_reads hR5
            have HB5 := Lib.hid (HB4.out.trans (hb5.mono HB4.out.size))
            have hcv1 := Kd.C_string (P := Try.prog) (w := w5) (src := 45) (dst := 9) (e := 5) (c := c5) Try.underlying45 Try.underlying5 Try.underlying9 hC5
            have hcv2 := Kd.C_string (P := Try.prog) (w := w5) (src := 45) (dst := 9) (e := 5) (c := d) Try.underlying45 Try.underlying5 Try.underlying9 (ReadsInt.C (HR.out.below HB5.out))
            clear hR5 hb5 hC5
            go_wp2_with fail
            refine (awake_in _).mono ?_
            rintro e w6 ⟨rfl, hb6⟩
            go_wp2_with fail
            go_ret
            exact ⟨rfl, HB5.out.trans (hb6.mono HB5.out.size)⟩
          · have HPK := Lib.hid ((fpack_f [] (by simp) (fun r hr => absurd hr (by simp))).1 (fun r hr => absurd hr (by simp)))
            have HB4 := Lib.hid ((HB3.out.trans (hb4.mono HB3.out.size)).alloc (HB3.out.trans (hb4.mono HB3.out.size)).size (.cells #[.slice none 0 0] 33))
            clear hno hb4
            go_wp2_with fail
            refine (PRd.frame_Pack.calls 200000 none 0 [] (packM []) 0 _ (Kd.C_nil _ _) (Nat.le_refl _) HPK.out).mono ?_
            rintro e w5 ⟨v5, rfl, hR5, hb5⟩
            obtain ⟨A5, c5, rfl, hl5, hC5⟩ := Kd.R_reads hR5
            have HB5 := Lib.hid (HB4.out.trans (hb5.mono HB4.out.size))
            clear hR5 hb5 hC5
            go_wp2_with fail
            refine (awake_in _).mono ?_
            rintro e w6 ⟨rfl, hb6⟩
            go_wp2_with fail
            go_ret
            exact ⟨rfl, HB5.out.trans (hb6.mono HB5.out.size)⟩
        · exact absurd ⟨F, HPR.out⟩ hno
      · refine (PRd.frame_Pack.calls 200000 A c F [] 4 w hCF hFc (hpk.2 h160)).mono ?_
        rintro e w1 ⟨v0, rfl, hR1, hb1⟩
        have hV1 : Kd.V (Kd.int .u8) 5 w1 w1.heap.size (fun _ => True) v0 [] := Kd.R_V (base := w.heap.size) hR1
        obtain ⟨A1, c1, rfl⟩ := Kd.V_slice hV1
        have HV1 := Lib.hid hV1
        have HB1 := Lib.hid hb1
        clear hR1 hV1 hb1 hpk h160 h400 hCF
        go_wp2_with fail
        refine (unpack_in w1 A1 [] c1 (fun _ => True) HV1.out (fun x hx => absurd hx (by simp)) (by simp)).mono ?_
        rintro e w2 hU
        rcases hU with ⟨G, v, hun, _, _, _⟩ | ⟨hno, rfl, hb2⟩
        · exact absurd hun.1 (by simp)
        · have HB2 := Lib.hid (HB1.out.trans (hb2.mono HB1.out.size))
          have hB3 := HB2.out.alloc HB2.out.size (.cells #[.slice none 0 0] 33)
          clear hno hb2
          go_wp2_with fail
          obtain ⟨w3, hw3⟩ : ∃ w3, w3 = w2.alloc (.cells #[.slice none 0 0] 33) := ⟨_, rfl⟩
          rw [← hw3] at hB3 ⊢
          have HB3 := Lib.hid hB3
          clear hw3 hB3
          have hVB : Kd.V (Kd.int .u8) 5 w3 w3.heap.size (fun k => k < w3.heap.size) (.slice B l.length d) l := Kd.V_mk hld (Kd.C_F (Kd.heap_int .u8) (ReadsInt.C (HR.out.below HB3.out)))
          have HVB := Lib.hid hVB
          clear hVB
          refine (unpack_in w3 B l d (fun k => k < w3.heap.size) HVB.out hb (by omega)).mono ?_
          rintro e w4 hU2
          rcases hU2 with ⟨H, v, hun, rfl, hf, hb4⟩ | ⟨hno, rfl, hb4⟩
          · obtain ⟨hpm, hH320, hH160⟩ := pack_back hb hun
            obtain ⟨Ah, ch, rfl, hhl, hhC⟩ := hf.C
            have HPK := Lib.hid ((fpack_f H hH320 (fun r hr => by have := hH160 r hr; omega)).1 hH160)
            rw [hpm] at HPK
            have HB4 := Lib.hid ((HB3.out.trans (hb4.mono HB3.out.size)).alloc (HB3.out.trans (hb4.mono HB3.out.size)).size (.cells #[.slice Ah H.length ch] 33))
            have HHC := Lib.hid (Kd.C_below hhC ((Below.refl w4.heap.size w4).alloc (Nat.le_refl _) (.cells #[.slice Ah H.length ch] 33)))
            clear hun hf hb4 hhC hpm hH160
            go_wp2_with fail
            refine (PRd.frame_Pack.calls 200000 Ah ch H l 0 _ HHC.out hhl HPK.out).mono ?_
            rintro e w5 ⟨v5, rfl, hR5, hb5⟩
            obtain ⟨A5, c5, rfl, hl5, hC5⟩ := Kd.R_reads hR5
            have HB5 := Lib.hid (HB4.out.trans (hb5.mono HB4.out.size))
            have hcv1 := Kd.C_string (P := Try.prog) (w := w5) (src := 45) (dst := 9) (e := 5) (c := c5) Try.underlying45 Try.underlying5 Try.underlying9 hC5
            have hcv2 := Kd.C_string (P := Try.prog) (w := w5) (src := 45) (dst := 9) (e := 5) (c := d) Try.underlying45 Try.underlying5 Try.underlying9 (ReadsInt.C (HR.out.below HB5.out))
            clear hR5 hb5 hC5
            go_wp2_with fail
            refine (awake_in _).mono ?_
            rintro e w6 ⟨rfl, hb6⟩
            go_wp2_with fail
            go_ret
            exact ⟨rfl, HB5.out.trans (hb6.mono HB5.out.size)⟩
          · have HPK := Lib.hid ((fpack_f [] (by simp) (fun r hr => absurd hr (by simp))).1 (fun r hr => absurd hr (by simp)))
            have HB4 := Lib.hid ((HB3.out.trans (hb4.mono HB3.out.size)).alloc (HB3.out.trans (hb4.mono HB3.out.size)).size (.cells #[.slice none 0 0] 33))
            clear hno hb4
            go_wp2_with fail
            refine (PRd.frame_Pack.calls 200000 none 0 [] (packM []) 0 _ (Kd.C_nil _ _) (Nat.le_refl _) HPK.out).mono ?_
            rintro e w5 ⟨v5, rfl, hR5, hb5⟩
            obtain ⟨A5, c5, rfl, hl5, hC5⟩ := Kd.R_reads hR5
            have HB5 := Lib.hid (HB4.out.trans (hb5.mono HB4.out.size))
            clear hR5 hb5 hC5
            go_wp2_with fail
            refine (awake_in _).mono ?_
            rintro e w6 ⟨rfl, hb6⟩
            go_wp2_with fail
            go_ret
            exact ⟨rfl, HB5.out.trans (hb6.mono HB5.out.size)⟩
theorem frameBack_walk (a0 : Option Addr) (len0 cap0 : Nat) (z0 : List (List Int)) (a1 : Option Addr) (len1 cap1 : Nat) (z1 : List Int) (w : World) (w0 : IsMat w a0 len0 cap0 z0)
    (w1 : (a1 = none ∧ len1 = 0 ∧ cap1 = 0 ∧ z1 = []) ∨ ∃ x, a1 = some x ∧ len1 ≤ cap1 ∧ cap1 ≤ maxLen ∧ z1.length = cap1 ∧ (∀ i, i < z1.length → w.cell? (x.add i) = some (.int .u8 (z1.getD i 0))) ∧ ∀ n ∈ z1, (Lit.int .u8 n).wf = true)
    (y1 : len1 * 1 ≤ 140737488351232) :
    Calls Try.prog 9 #[.slice a0 len0 cap0, .slice a1 len1 cap1] w fun e w' => e = .returned (.bool true) ∧ Below w.heap.size w w' := by
  obtain ⟨rfl, h1, h2, h3, h4⟩ := w0
  obtain ⟨hl, hlc, hb, hr⟩ := reads_of_row w1
  have e0 : maxLen = 9223372036854775807 := rfl
  have := frameBack_in w a0 z0 cap0 a1 (z1.take len1) cap1 h3 h1 (by omega) h4 (by rw [hl]; exact hr) (by rw [hl]; exact hlc) hb
  rw [hl] at this
  exact this
end Go.Proofs.Ytgepcdohgiiaaaa
