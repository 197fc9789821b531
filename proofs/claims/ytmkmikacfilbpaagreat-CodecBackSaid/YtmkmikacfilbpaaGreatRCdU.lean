/-
  The law CodecEncodes: its walk.
-/
import Derived.Test.YtmkmikacfilbpaaGreatRCdL
import Derived.Test.YtmkmikacfilbpaaGreatRCdT
import Derived.Test.YtmkmikacfilbpaaGreatRCdS
import Derived.Test.YtmkmikacfilbpaaGreatRMkI
import Derived.Test.YtmkmikacfilbpaaGreatPc
namespace Go.Proofs.YtmkmikacfilbpaaGreat
open Go.RowKit Go.Um Go.Proofs
theorem encode_post (w : World) : Calls Tryz.prog 32 #[] w fun e w' => ∃ vr vf, e = .returned (.agg #[.int .i64 2, .int .i64 1, .int .i64 1, .int .i64 0, vr, vf]) ∧ (listR ruleR).rel w' (Fresh w.heap.size w') [vr] encodeD.rules ∧ (listR finalR).rel w' (Fresh w.heap.size w') [vf] encodeD.finals ∧ Below w.heap.size w w' := (Encoder_calls w).mono fun _ _ h => h.post
/-- what encodes, run at scalars, and at others. -/
theorem encode_out {x : List Int} (hx : ∀ z ∈ x, scalP z) (hl : x.length ≤ 1024) (most : Int) (hm : 1 ≤ most ∧ most ≤ 100000) (v u vx : Value) (w : World) (hv : (listR ruleR).rel w (upto w.heap.size) [v] encodeD.rules) (hu : (listR finalR).rel w (upto w.heap.size) [u] encodeD.finals) (hw : wordR.rel w (upto w.heap.size) [vx] x) :
    Calls Tryz.prog 17 #[.agg #[.int .i64 2, .int .i64 1, .int .i64 1, .int .i64 0, v, u], vx, .int .i64 most] w (Answers w [encF x]) :=
  (Outputs_calls encodeD x most v u vx w hv hu hw hm.2).mono fun _ _ h => out_one (d := encodeD) (sole_outer sole_encode) where_encode hl (scal_dom.2 hx) hm.1 ((encode_iff hx _).2 rfl) h
theorem encode_not {x : List Int} (hx : ¬ ∀ z ∈ x, scalP z) (hl : x.length ≤ 1024) (most : Int) (hm : most ≤ 100000) (v u vx : Value) (w : World) (hv : (listR ruleR).rel w (upto w.heap.size) [v] encodeD.rules) (hu : (listR finalR).rel w (upto w.heap.size) [u] encodeD.finals) (hw : wordR.rel w (upto w.heap.size) [vx] x) :
    Calls Tryz.prog 17 #[.agg #[.int .i64 2, .int .i64 1, .int .i64 1, .int .i64 0, v, u], vx, .int .i64 most] w (fun e w' => e = .returned (.tuple #[.slice none 0 0, .int .i64 1]) ∧ Below w.heap.size w w') :=
  (Outputs_calls encodeD x most v u vx w hv hu hw hm).mono fun _ _ h => out_arg (d := encodeD) where_encode hl (fun h' => hx (scal_dom.1 h')) h
set_option maxHeartbeats 2000000 in
set_option maxRecDepth 100000 in
theorem encodes_law (x : List Int) (v : Value) (w : World) (h : wordR.rel w (upto w.heap.size) [v] x) :
    Calls Tryz.prog 10 #[v] w fun e w' => e = .returned (.bool true) ∧ Below w.heap.size w w' := by
  have HAW := hid fun W => cawake_calls W
  by_cases hl : x.length ≤ 60
  · have HRP := hid fun W (hW : Below w.heap.size w W) => rencode_calls x (by omega) v W (wordR.below h hW hW.size)
    have HFT := hid fun W (hW : Below w.heap.size w W) => r2fits_calls x v W (wordR.below h hW hW.size)
    have HSY2 := hid fun b v W h hl => bsym_calls b v W h hl
    have HRE := hid fun W => encode_post W
    have HW0 := hid h
    obtain ⟨A, c, rfl, hc, hm⟩ := list_form h
    unfold maxLen at hm
    have hl' : ¬ (60 : Int) < x.length := by omega
    clear h
    by_cases hs : ∀ z ∈ x, scalP z
    · rw [decide_eq_true hs] at HFT
      have HS := hid hs
      clear hs
      go_enter Tryz.func10, Tryz.ntmps10
      go_wp2_with fail
      refine (HRE.out _).mono ?_
      rintro e w2 ⟨v2, u2, rfl, hv2, hu2, hB2⟩
      have HV2 := hid (rel_up hv2)
      have HU2 := hid (rel_up hu2)
      have HBw3 := hid hB2
      have HW3 := hid (wordR.below HW0.out hB2 hB2.size)
      clear hv2 hu2 hB2
      go_wp2_with fail
      refine (encode_out HS.out (by omega) 3 ⟨by omega, by omega⟩ _ _ _ _ HV2.out HU2.out HW3.out).mono ?_
      rintro e w4 ⟨hB4, A4, c4, rfl, hr⟩
      obtain ⟨G, O, y, rfl, hG, hy4, hcy⟩ := list_at1 (i := 0) (x := encF x) rfl hr rfl
      obtain ⟨A5, c5, rfl, hc5, hm5⟩ := list_form hy4.1
      have HBw4 := hid (low' HBw3.out hB4)
      have HX4 := hid (rel_up hy4).1
      have hGl : G < w4.heap.size := hG.2
      clear hB4 hr hy4
      simp only [List.length_cons, List.length_nil, Nat.zero_add, Nat.add_zero] at hcy ⊢
      obtain ⟨L, hL⟩ : ∃ L, L = encF x := ⟨_, rfl⟩
      have hLl : L.length ≤ 600 := by rw [hL]; have := encF_len x; omega
      have HL := hid hL
      rw [← hL] at HX4 hcy
      rw [← hL] at HRP
      clear hL
      go_wp2_with fail
      refine (HFT.out _ HBw4.out).mono ?_
      rintro e w4' ⟨rfl, hw4⟩
      rw [hw4]
      clear hw4 w4'
      go_wp2_with fail
      obtain ⟨ι, Wc, ⟨i0, hi0'⟩, hWc, Wsur⟩ := held_class w4.drew (fun g => g = G)
      have hne : Nonempty ι := ⟨i0⟩
      have WS := hid Wsur; clear Wsur
      have HWc := hid hWc; clear hWc
      have Hi0 := hid hi0'; clear hi0'
      have g1 : ∀ i, (Wc i).cell? ⟨G, O, none⟩ = some _ := fun i => (World.cell?_of_block (a := ⟨G, O, none⟩) (HWc.out i _ rfl)).trans hcy
      have hS0 : ∃ i, w4.drew = Wc i := ⟨i0, Hi0.out.symm⟩
      have HSB : Hid (∀ W, Below w4.heap.size w4 W → ∃ i, W = Wc i) := hid fun W hW => WS.out W fun q hq => by subst hq; exact hW.block _ hGl
      refine region_anyL (S := fun w' => ∃ i, w' = Wc i) (last := 20) (by kernel_rfl) ?_
      refine anyL_seg 0 12 (by kernel_rfl) (fun _ _ _ _ _ h => h) hS0 (f := 8) rfl (by kernel_rfl) (by kernel_rfl) ?_
      simp only [List.drop_zero, List.take_succ_cons, List.take_zero]
      repeat go_big_quiet_step (fail)
      refine wpQuiet_nil ?_
      refine anyL_actG (i := 12) (by kernel_rfl) rfl (by rfl) ?_
      intro K hK
      go_wp2_with fail
      have hBd : Below w.heap.size w w4.drew := ⟨HBw4.out.os, HBw4.out.tape, HBw4.out.output, HBw4.out.size, HBw4.out.block⟩
      refine (HRP.out _ hBd).mono ?_
      rintro e w5 ⟨u5, rfl, ho5, hB5⟩
      have hB45 : Below w4.heap.size w4 w5 := ⟨hB5.os, hB5.tape, hB5.output, hB5.size, hB5.block⟩
      have HB45 := hid hB45
      have HO5 := hid (ho5.rel (S := upto w5.heap.size) (fun g hg => (ho5.1.lt g hg).2))
      obtain ⟨A6, c6, rfl, hc6, hm6⟩ := list_form HO5.out
      clear ho5 hB5 hB45
      go_wp2_with fail
      refine hK.out _ _ (fun _ => HSB.out _ HB45.out) ?_
      clear hK K
      refine anyL_actG (i := 13) (by kernel_rfl) rfl (by rfl) ?_
      intro K hK
      go_wp2_with fail
      refine (HSY2.out L _ w5 HO5.out (by omega)).mono ?_
      rintro e w6 ⟨u6, rfl, ho6, hB6⟩
      have HB46 := hid (HB45.out.trans (hB6.mono HB45.out.size))
      have HW6 := hid (rel_up (ho6.fresh (Nat.le_refl _))).1
      have HX6 := hid (wordR.below HX4.out HB46.out HB46.out.size)
      obtain ⟨A7, c7, rfl, hc7, hm7⟩ := list_form HW6.out
      clear ho6 hB6
      go_wp2_with fail
      refine hK.out _ _ (fun _ => HSB.out _ HB46.out) ?_
      clear hK K
      refine anyL_actG (i := 14) (by kernel_rfl) rfl (by rfl) ?_
      intro K hK
      go_wp2_with fail
      refine (rsame_calls L L _ _ _ HX6.out HW6.out).mono ?_
      rintro e w7 ⟨rfl, hB7⟩
      have HB47 := hid (low' HB46.out hB7)
      rw [decide_eq_true rfl]
      clear hB7
      go_wp2_with fail
      refine hK.out _ _ (fun _ => HSB.out _ HB47.out) ?_
      clear hK K
      refine anyL_seg 15 2 (by kernel_rfl) (fun _ _ _ _ _ h => h) (HSB.out _ HB47.out) (f := 3) rfl (by kernel_rfl) (by kernel_rfl) ?_
      simp only [List.drop_succ_cons, List.drop_zero, List.take_succ_cons, List.take_zero]
      repeat go_big_quiet_step (fail)
      refine wpQuiet_nil ?_
      refine anyL_actG (i := 17) (by kernel_rfl) rfl (by rfl) ?_
      intro K hK
      go_wp2_with fail
      refine (HAW.out _).mono ?_
      rintro e w8 ⟨rfl, hB8⟩
      have HB48 := hid (low' HB47.out hB8)
      clear hB8
      go_wp2_with fail
      have hS8 := HSB.out _ HB48.out
      refine hK.out _ _ (fun _ => hS8) ?_
      clear hK K
      refine anyL_seg 18 2 (by kernel_rfl) (fun _ _ _ _ _ h => h) hS8 (f := 0) rfl (by kernel_rfl) (by kernel_rfl) ?_
      simp only [List.drop_succ_cons, List.drop_zero, List.take_succ_cons, List.take_zero]
      repeat go_big_quiet_step (fail)
      refine wpQuiet_nil ?_
      refine anyL_done (by kernel_rfl) ?_ 0
      clear hS8 g1 hS0 HSB WS HWc Hi0 hne i0 Wc ι
      go_wp2_with fail
      go_ret
      exact ⟨rfl, HBw4.out.trans (HB48.out.mono HBw4.out.size)⟩
    · rw [decide_eq_false hs] at HFT
      have HS := hid hs
      clear hs
      go_enter Tryz.func10, Tryz.ntmps10
      go_wp2_with fail
      refine (HRE.out _).mono ?_
      rintro e w2 ⟨v2, u2, rfl, hv2, hu2, hB2⟩
      have HV2 := hid (rel_up hv2)
      have HU2 := hid (rel_up hu2)
      have HBw3 := hid hB2
      have HW3 := hid (wordR.below HW0.out hB2 hB2.size)
      clear hv2 hu2 hB2
      go_wp2_with fail
      refine (encode_not HS.out (by omega) 3 (by omega) _ _ _ _ HV2.out HU2.out HW3.out).mono ?_
      rintro e w4 ⟨rfl, hB4⟩
      have HBw4 := hid (low' HBw3.out hB4)
      clear hB4
      go_wp2_with fail
      refine (HFT.out _ HBw4.out).mono ?_
      rintro e w4' ⟨rfl, hw4⟩
      rw [hw4]
      clear hw4 w4'
      go_wp2_with fail
      refine (HAW.out _).mono ?_
      rintro e w5 ⟨rfl, hB5⟩
      have HBw5 := hid (low' HBw4.out hB5)
      clear hB5
      go_wp2_with fail
      go_ret
      exact ⟨rfl, HBw5.out⟩
  · obtain ⟨A, c, rfl, hc, hm⟩ := list_form h
    have hl' : (60 : Int) < x.length := by omega
    clear h
    go_enter Tryz.func10, Tryz.ntmps10
    go_wp2_with fail
    refine (HAW.out _).mono ?_
    rintro e w1 ⟨rfl, hB1⟩
    have HB1 := hid hB1
    clear hB1
    go_wp2_with fail
    go_ret
    exact ⟨rfl, HB1.out⟩
end Go.Proofs.YtmkmikacfilbpaaGreat
