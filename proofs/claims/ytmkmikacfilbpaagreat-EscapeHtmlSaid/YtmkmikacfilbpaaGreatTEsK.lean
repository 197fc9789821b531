/-
  The law EscapeHtml: its walk.
-/
import Derived.Test.YtmkmikacfilbpaaGreatTEsW
import Derived.Test.YtmkmikacfilbpaaGreatTEsI
import Derived.Test.YtmkmikacfilbpaaGreatTEsJ
import Derived.Test.YtmkmikacfilbpaaGreatPc
namespace Go.Proofs.YtmkmikacfilbpaaGreat
open Go.RowKit Go.Um Go.Proofs
set_option maxHeartbeats 1000000 in
set_option maxRecDepth 100000 in
theorem r2fits_calls (x : List Int) (v : Value) (w : World) (h : wordR.rel w (upto w.heap.size) [v] x) :
    Calls Tryz.prog 36 #[.int .i64 2, v] w fun e w' => e = .returned (.bool (decide (∀ z ∈ x, scalP z))) ∧ w' = w := by
  obtain ⟨A, c, rfl, hc, hm⟩ := list_form h
  unfold maxLen at hm
  have HA := hid h
  have HI := hid fun z W => rin_calls z W
  obtain ⟨fb, hfb⟩ : ∃ fb, fb = decide (∀ z ∈ x, scalP z) := ⟨_, rfl⟩
  have HF := hid hfb
  rw [← hfb]
  clear h hfb
  go_enter Tryz.func36, Tryz.ntmps36
  go_wp2_with fail
  go_loopw [5] (fun vi wr => ∃ k : Nat, k ≤ x.length ∧ vi = .int .i64 k ∧ wr = w ∧ ∀ z ∈ x.take k, scalP z) (fun vi _ => x.length - (intOf vi).toNat)
  case atStart => exact ⟨0, Nat.zero_le _, rfl, rfl, fun z hz => by simp at hz⟩
  case round =>
    obtain ⟨k, hk, rfl, rfl, hz⟩ := hrel
    have HZ := hid hz
    clear hz
    by_cases hlt : k < x.length
    · obtain ⟨z, hz⟩ := at_lt hlt
      have hlt' : (k : Int) < x.length := by omega
      obtain ⟨G, O, rfl, hG, c0, _⟩ := rune_at HA.out hz
      have HX := hid hz
      have HIZ := hid (HI.out z)
      clear hz
      by_cases hs : scalP z
      · rw [decide_eq_true hs] at HIZ
        have HS := hid hs
        clear hs
        go_wp2_with fail
        refine (HIZ.out _).mono ?_
        rintro e w1 ⟨rfl, rfl⟩
        have HN : Hid (∃ k1 : Nat, k1 ≤ x.length ∧ Value.int .i64 ((k : Int) + 1) = .int .i64 k1 ∧ ∀ z ∈ x.take k1, scalP z) := hid ⟨k + 1, by omega, by push_cast; rfl, fun y hy => by
          rw [List.take_add_one, HX.out] at hy
          rcases List.mem_append.1 hy with hy | hy
          · exact HZ.out y hy
          · simp at hy
            subst hy
            exact HS.out⟩
        go_wp2_with fail
        refine ⟨by simpa using HN.out, ?_⟩
        simp [intOf]
        omega
      · rw [decide_eq_false hs] at HIZ
        have HE : Hid (fb = false) := hid (by rw [HF.out]; exact decide_eq_false fun h => hs (h z (List.mem_of_getElem? HX.out)))
        clear hs
        go_wp2_with fail
        refine (HIZ.out _).mono ?_
        rintro e w1 ⟨rfl, rfl⟩
        go_wp2_with fail
        go_ret
        exact ⟨by rw [HE.out]; rfl, rfl⟩
    · have hke : k = x.length := by omega
      subst hke
      have HE : Hid (fb = true) := hid (by rw [HF.out]; have := HZ.out; rw [List.take_length] at this; exact decide_eq_true this)
      have hlt' : ¬ (x.length : Int) < x.length := by omega
      clear hlt
      go_wp2_with fail
      go_ret
      exact ⟨by rw [HE.out]; rfl, rfl⟩
theorem html_post (w : World) : Calls Tryz.prog 42 #[] w fun e w' => ∃ vr vf, e = .returned (.agg #[.int .i64 2, .int .i64 2, .int .i64 1, .int .i64 0, vr, vf]) ∧ (listR ruleR).rel w' (Fresh w.heap.size w') [vr] htmlD.rules ∧ (listR finalR).rel w' (Fresh w.heap.size w') [vf] htmlD.finals ∧ Below w.heap.size w w' := Html_calls w
/-- what escapes scalars, run at scalars, and at others. -/
theorem html_out {x : List Int} (hx : ∀ z ∈ x, scalP z) (hl : x.length ≤ 1024) (most : Int) (hm : 1 ≤ most ∧ most ≤ 100000) (v u vx : Value) (w : World) (hv : (listR ruleR).rel w (upto w.heap.size) [v] htmlD.rules) (hu : (listR finalR).rel w (upto w.heap.size) [u] htmlD.finals) (hw : wordR.rel w (upto w.heap.size) [vx] x) :
    Calls Tryz.prog 17 #[.agg #[.int .i64 2, .int .i64 2, .int .i64 1, .int .i64 0, v, u], vx, .int .i64 most] w (Answers w [htmlF x]) :=
  (Outputs_calls htmlD x most v u vx w hv hu hw hm.2).mono fun _ _ h => out_one (d := htmlD) sole_html where_html hl (scal_dom.2 hx) hm.1 (html_run hx) h
theorem html_not {x : List Int} (hx : ¬ ∀ z ∈ x, scalP z) (hl : x.length ≤ 1024) (most : Int) (hm : most ≤ 100000) (v u vx : Value) (w : World) (hv : (listR ruleR).rel w (upto w.heap.size) [v] htmlD.rules) (hu : (listR finalR).rel w (upto w.heap.size) [u] htmlD.finals) (hw : wordR.rel w (upto w.heap.size) [vx] x) :
    Calls Tryz.prog 17 #[.agg #[.int .i64 2, .int .i64 2, .int .i64 1, .int .i64 0, v, u], vx, .int .i64 most] w (fun e w' => e = .returned (.tuple #[.slice none 0 0, .int .i64 1]) ∧ Below w.heap.size w w') :=
  (Outputs_calls htmlD x most v u vx w hv hu hw hm).mono fun _ _ h => out_arg (d := htmlD) where_html hl (fun h' => hx (scal_dom.1 h')) h
set_option maxHeartbeats 2000000 in
set_option maxRecDepth 100000 in
theorem ehtml_law (x : List Int) (v : Value) (w : World) (h : wordR.rel w (upto w.heap.size) [v] x) :
    Calls Tryz.prog 12 #[v] w fun e w' => e = .returned (.bool true) ∧ Below w.heap.size w w' := by
  have HAW := hid fun W => eawake_calls W
  by_cases hl : x.length ≤ 200
  · have HRP := hid fun W (hW : Below w.heap.size w W) => rhtml_calls x (by omega) v W (wordR.below h hW hW.size)
    have HFT := hid fun W (hW : Below w.heap.size w W) => r2fits_calls x v W (wordR.below h hW hW.size)
    have HRE := hid fun W => html_post W
    have HW0 := hid h
    obtain ⟨A, c, rfl, hc, hm⟩ := list_form h
    unfold maxLen at hm
    have hl' : ¬ (200 : Int) < x.length := by omega
    clear h
    by_cases hs : ∀ z ∈ x, scalP z
    · rw [decide_eq_true hs] at HFT
      have HS := hid hs
      clear hs
      go_enter Tryz.func12, Tryz.ntmps12
      go_wp2_with fail
      refine (HRE.out _).mono ?_
      rintro e w2 ⟨v2, u2, rfl, hv2, hu2, hB2⟩
      have HV2 := hid (rel_up hv2)
      have HU2 := hid (rel_up hu2)
      have HBw3 := hid hB2
      have HW3 := hid (wordR.below HW0.out hB2 hB2.size)
      clear hv2 hu2 hB2
      go_wp2_with fail
      refine (html_out HS.out (by omega) 3 ⟨by omega, by omega⟩ _ _ _ _ HV2.out HU2.out HW3.out).mono ?_
      rintro e w4 ⟨hB4, A4, c4, rfl, hr⟩
      obtain ⟨G, O, y, rfl, hG, hy4, hcy⟩ := list_at1 (i := 0) (x := htmlF x) rfl hr rfl
      obtain ⟨A5, c5, rfl, hc5, hm5⟩ := list_form hy4.1
      have HBw4 := hid (low' HBw3.out hB4)
      have HX4 := hid (rel_up hy4).1
      have hGl : G < w4.heap.size := hG.2
      clear hB4 hr hy4
      simp only [List.length_cons, List.length_nil, Nat.zero_add, Nat.add_zero] at hcy ⊢
      obtain ⟨L, hL⟩ : ∃ L, L = htmlF x := ⟨_, rfl⟩
      have hLl : L.length ≤ 1200 := by rw [hL]; have := htmlF_len x; omega
      have HL := hid hL
      rw [← hL] at HX4 hcy
      rw [← hL] at HRP
      clear hL
      go_wp2_with fail
      refine (HFT.out _ HBw4.out).mono ?_
      rintro e w4' ⟨rfl, hw4⟩
      rw [hw4]
      clear hw4 w4'
      go_wp2_with fail
      obtain ⟨ι, Wc, ⟨i0, hi0'⟩, hWc, Wsur⟩ := held_class w4.drew (fun g => g = G)
      have hne : Nonempty ι := ⟨i0⟩
      have WS := hid Wsur; clear Wsur
      have HWc := hid hWc; clear hWc
      have Hi0 := hid hi0'; clear hi0'
      have g1 : ∀ i, (Wc i).cell? ⟨G, O, none⟩ = some _ := fun i => (World.cell?_of_block (a := ⟨G, O, none⟩) (HWc.out i _ rfl)).trans hcy
      have hS0 : ∃ i, w4.drew = Wc i := ⟨i0, Hi0.out.symm⟩
      have HSB : Hid (∀ W, Below w4.heap.size w4 W → ∃ i, W = Wc i) := hid fun W hW => WS.out W fun q hq => by subst hq; exact hW.block _ hGl
      refine region_anyL (S := fun w' => ∃ i, w' = Wc i) (last := 19) (by kernel_rfl) ?_
      refine anyL_seg 0 12 (by kernel_rfl) (fun _ _ _ _ _ h => h) hS0 (f := 7) rfl (by kernel_rfl) (by kernel_rfl) ?_
      simp only [List.drop_zero, List.take_succ_cons, List.take_zero]
      repeat go_big_quiet_step (fail)
      refine wpQuiet_nil ?_
      refine anyL_actG (i := 12) (by kernel_rfl) rfl (by rfl) ?_
      intro K hK
      go_wp2_with fail
      have hBd : Below w.heap.size w w4.drew := ⟨HBw4.out.os, HBw4.out.tape, HBw4.out.output, HBw4.out.size, HBw4.out.block⟩
      refine (HRP.out _ hBd).mono ?_
      rintro e w5 ⟨u5, rfl, ho5, hB5⟩
      have hB45 : Below w4.heap.size w4 w5 := ⟨hB5.os, hB5.tape, hB5.output, hB5.size, hB5.block⟩
      have HB45 := hid hB45
      have HW5 := hid (rel_up (ho5.fresh (Nat.le_refl _))).1
      have HX5 := hid (wordR.below HX4.out hB45 hB45.size)
      obtain ⟨A6, c6, rfl, hc6, hm6⟩ := list_form HW5.out
      clear ho5 hB5 hB45
      go_wp2_with fail
      refine hK.out _ _ (fun _ => HSB.out _ HB45.out) ?_
      clear hK K
      refine anyL_actG (i := 13) (by kernel_rfl) rfl (by rfl) ?_
      intro K hK
      go_wp2_with fail
      refine (rsame_calls L L _ _ _ HX5.out HW5.out).mono ?_
      rintro e w7 ⟨rfl, hB7⟩
      have HB47 := hid (low' HB45.out hB7)
      rw [decide_eq_true rfl]
      clear hB7
      go_wp2_with fail
      refine hK.out _ _ (fun _ => HSB.out _ HB47.out) ?_
      clear hK K
      refine anyL_seg 14 2 (by kernel_rfl) (fun _ _ _ _ _ h => h) (HSB.out _ HB47.out) (f := 3) rfl (by kernel_rfl) (by kernel_rfl) ?_
      simp only [List.drop_succ_cons, List.drop_zero, List.take_succ_cons, List.take_zero]
      repeat go_big_quiet_step (fail)
      refine wpQuiet_nil ?_
      refine anyL_actG (i := 16) (by kernel_rfl) rfl (by rfl) ?_
      intro K hK
      go_wp2_with fail
      refine (HAW.out _).mono ?_
      rintro e w8 ⟨rfl, hB8⟩
      have HB48 := hid (low' HB47.out hB8)
      clear hB8
      go_wp2_with fail
      have hS8 := HSB.out _ HB48.out
      refine hK.out _ _ (fun _ => hS8) ?_
      clear hK K
      refine anyL_seg 17 2 (by kernel_rfl) (fun _ _ _ _ _ h => h) hS8 (f := 0) rfl (by kernel_rfl) (by kernel_rfl) ?_
      simp only [List.drop_succ_cons, List.drop_zero, List.take_succ_cons, List.take_zero]
      repeat go_big_quiet_step (fail)
      refine wpQuiet_nil ?_
      refine anyL_done (by kernel_rfl) ?_ 0
      clear hS8 g1 hS0 HSB WS HWc Hi0 hne i0 Wc ι
      go_wp2_with fail
      go_ret
      exact ⟨rfl, HBw4.out.trans (HB48.out.mono HBw4.out.size)⟩
    · rw [decide_eq_false hs] at HFT
      have HS := hid hs
      clear hs
      go_enter Tryz.func12, Tryz.ntmps12
      go_wp2_with fail
      refine (HRE.out _).mono ?_
      rintro e w2 ⟨v2, u2, rfl, hv2, hu2, hB2⟩
      have HV2 := hid (rel_up hv2)
      have HU2 := hid (rel_up hu2)
      have HBw3 := hid hB2
      have HW3 := hid (wordR.below HW0.out hB2 hB2.size)
      clear hv2 hu2 hB2
      go_wp2_with fail
      refine (html_not HS.out (by omega) 3 (by omega) _ _ _ _ HV2.out HU2.out HW3.out).mono ?_
      rintro e w4 ⟨rfl, hB4⟩
      have HBw4 := hid (low' HBw3.out hB4)
      clear hB4
      go_wp2_with fail
      refine (HFT.out _ HBw4.out).mono ?_
      rintro e w4' ⟨rfl, hw4⟩
      rw [hw4]
      clear hw4 w4'
      go_wp2_with fail
      refine (HAW.out _).mono ?_
      rintro e w5 ⟨rfl, hB5⟩
      have HBw5 := hid (low' HBw4.out hB5)
      clear hB5
      go_wp2_with fail
      go_ret
      exact ⟨rfl, HBw5.out⟩
  · obtain ⟨A, c, rfl, hc, hm⟩ := list_form h
    have hl' : (200 : Int) < x.length := by omega
    clear h
    go_enter Tryz.func12, Tryz.ntmps12
    go_wp2_with fail
    refine (HAW.out _).mono ?_
    rintro e w1 ⟨rfl, hB1⟩
    have HB1 := hid hB1
    clear hB1
    go_wp2_with fail
    go_ret
    exact ⟨rfl, HB1.out⟩
end Go.Proofs.YtmkmikacfilbpaaGreat
