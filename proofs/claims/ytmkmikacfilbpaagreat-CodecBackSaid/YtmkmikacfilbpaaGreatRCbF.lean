/-
  The law CodecBack: its walk.
-/
import Derived.Test.YtmkmikacfilbpaaGreatRCbE
import Derived.Test.YtmkmikacfilbpaaGreatRCdU
import Derived.Test.YtmkmikacfilbpaaGreatREsR
namespace Go.Proofs.YtmkmikacfilbpaaGreat
open Go.RowKit Go.Um Go.Proofs
set_option maxHeartbeats 4000000 in
set_option maxRecDepth 100000 in
theorem cback_law (x b : List Int) (v u : Value) (w : World) (h : wordR.rel w (upto w.heap.size) [v] x) (hb : bytesR.rel w (upto w.heap.size) [u] b) :
    Calls Tryz.prog 13 #[v, u] w fun e w' => e = .returned (.bool true) ∧ Below w.heap.size w w' := by
  have HAW := hid fun W => cawake_calls W
  obtain ⟨A, c, rfl, hc, hm⟩ := list_form h
  unfold maxLen at hm
  obtain ⟨B, d, rfl, hd, hn⟩ := list_form hb
  unfold maxLen at hn
  by_cases hx : x.length ≤ 20
  · have hx' : ¬ (20 : Int) < x.length := by omega
    by_cases hbl : b.length ≤ 20
    · have hb' : ¬ (20 : Int) < b.length := by omega
      have HW0 := hid h
      have HUR := hid fun W (hW : Below w.heap.size w W) => urepair_calls b _ W (bytesR.below hb hW hW.size) (by omega)
      have HEN := hid fun W => encode_post W
      have HST := hid fun W => strict_post W
      clear h hb
      by_cases hs : ∀ z ∈ x, scalP z
      · have HS := hid hs
        clear hs
        go_enter Tryz.func13, Tryz.ntmps13
        go_wp2_with fail
        refine (HAW.out _).mono ?_
        rintro e w1 ⟨rfl, hB1⟩
        have HB1 := hid hB1
        clear hB1
        go_wp2_with fail
        have HXa := hid (wordR.below HW0.out HB1.out HB1.out.size)
        refine (HEN.out _).mono ?_
        rintro e w2a ⟨v2, u2, rfl, hv2, hu2, hB2⟩
        have HV2 := hid (rel_up hv2)
        have HU2 := hid (rel_up hu2)
        have HX2 := hid (wordR.below HXa.out hB2 hB2.size)
        have HBw2 := hid (low' HB1.out hB2)
        clear hv2 hu2 hB2
        go_wp2_with fail
        refine (encode_out HS.out (by omega) 3 ⟨by omega, by omega⟩ _ _ _ _ HV2.out HU2.out HX2.out).mono ?_
        rintro e w3a ⟨hB3, A3, c3, rfl, hr⟩
        obtain ⟨G, O, y, rfl, hG, hy3, hcy⟩ := list_at1 (i := 0) (x := encF x) rfl hr rfl
        obtain ⟨A4, c4, rfl, hc4, hm4⟩ := list_form hy3.1
        have HBw3a := hid (low' HBw2.out hB3)
        have HX3a := hid (wordR.below HX2.out hB3 hB3.size)
        have HY3 := hid (rel_up hy3).1
        have hGl : G < w3a.heap.size := hG.2
        clear hB3 hr hy3 hG
        simp only [List.length_cons, List.length_nil, Nat.zero_add, Nat.add_zero] at hcy ⊢
        obtain ⟨L, hL⟩ : ∃ L, L = encF x := ⟨_, rfl⟩
        have hLl : L.length ≤ 600 := by rw [hL]; have := encF_len x; omega
        have HLB := hid (show byteL L by rw [hL]; exact enc_byte _)
        have HLR := hid (show Rep L x true by rw [hL]; exact rep_enc HS.out)
        rw [← hL] at HY3 hcy hc4
        clear hL
        go_wp2_with fail
        obtain ⟨ι, Wc, ⟨i0, hi0'⟩, hWc, Wsur⟩ := held_class w3a.drew (fun g => g = G)
        have hne : Nonempty ι := ⟨i0⟩
        have WS := hid Wsur; clear Wsur
        have HWc := hid hWc; clear hWc
        have Hi0 := hid hi0'; clear hi0'
        have g1 : ∀ i, (Wc i).cell? ⟨G, O, none⟩ = some _ := fun i => (World.cell?_of_block (a := ⟨G, O, none⟩) (HWc.out i _ rfl)).trans hcy
        have hS0 : ∃ i, w3a.drew = Wc i := ⟨i0, Hi0.out.symm⟩
        have HSB : Hid (∀ W, Below w3a.heap.size w3a W → ∃ i, W = Wc i) := hid fun W hW => WS.out W fun q hq => by subst hq; exact hW.block _ hGl
        refine region_anyL (S := fun w' => ∃ i, w' = Wc i) (last := 10) (by kernel_rfl) ?_
        refine anyL_pick [1, 2, 3] (by decide) (by kernel_rfl) (fun _ _ _ _ _ h => h) hS0 (f := 7) rfl (by kernel_rfl) ?_
        show wpQuiet _ _ _ _ [_, _, _] _
        repeat go_big_quiet_step (fail)
        refine wpQuiet_nil ?_
        refine anyL_act (i := 0) (by kernel_rfl) rfl rfl ?_
        intro K hK
        go_wp2_with fail
        refine (HST.out _).mono ?_
        rintro e w4 ⟨v4, u4, rfl, hv4, hu4, hB4⟩
        have hB34 : Below w3a.heap.size w3a w4 := ⟨hB4.os, hB4.tape, hB4.output, hB4.size, hB4.block⟩
        have HB34 := hid hB34
        have HV4 := hid (rel_up hv4)
        have HU4 := hid (rel_up hu4)
        have HY4 := hid (wordR.below HY3.out hB34 hB34.size)
        clear hv4 hu4 hB4 hB34
        go_wp2_with fail
        refine hK.out _ _ (fun _ => HSB.out _ HB34.out) ?_
        clear hK K
        refine anyL_act (i := 4) (by kernel_rfl) rfl rfl ?_
        intro K hK
        go_wp2_with fail
        refine (strict_out HLB.out HLR.out (by omega) 3 ⟨by omega, by omega⟩ _ _ _ _ HV4.out HU4.out HY4.out).mono ?_
        rw [if_pos rfl]
        rintro e w5a ⟨hB5, A5, c5, rfl, hr5⟩
        have HB35 := hid (low' HB34.out hB5)
        have HR5 := hid hr5
        clear hB5 hr5
        go_wp2_with fail
        have hS5 := HSB.out _ HB35.out
        refine hK.out _ _ (fun _ => hS5) ?_
        clear hK K
        refine anyL_seg 5 5 (by kernel_rfl) (fun _ _ _ _ _ h => h) hS5 (f := 0) rfl (by kernel_rfl) (by kernel_rfl) ?_
        simp only [List.drop_succ_cons, List.drop_zero, List.take_succ_cons, List.take_zero]
        repeat go_big_quiet_step (fail)
        refine wpQuiet_nil ?_
        refine anyL_done (by kernel_rfl) ?_ 0
        obtain ⟨G5, O5, y5, rfl, hG5, hy5, hcy5⟩ := list_at1 (i := 0) (x := x) rfl HR5.out rfl
        obtain ⟨A6, c6, rfl, hc6, hm6⟩ := list_form hy5.1
        have HY5 := hid (rel_up hy5).1
        have HX5a := hid (wordR.below HX3a.out HB35.out HB35.out.size)
        have HBw5a := hid (low' HBw3a.out HB35.out)
        have hG5l : G5 < w5a.heap.size := hG5.2
        simp only [Nat.add_zero] at hcy5 ⊢
        clear hS5 g1 hS0 HSB WS HWc Hi0 hne i0 Wc ι hy5 hG5 HR5
        go_wp2_with fail
        refine (rsame_calls x x _ _ _ HY5.out HX5a.out).mono ?_
        rintro e w6a ⟨rfl, hB6⟩
        have HX6a := hid (wordR.below HX5a.out hB6 hB6.size)
        have HBw6a := hid (low' HBw5a.out hB6)
        rw [decide_eq_true rfl]
        clear hB6
        go_wp2_with fail
        refine (HUR.out _ HBw6a.out).mono ?_
        rintro e wu ⟨uu, ls, rfl, hou, hsu, hlu, hBu⟩
        have HOU := hid (rel_up (hou.fresh (Nat.le_refl _))).1
        have HSU := hid hsu
        have HBu := hid (low' HBw6a.out hBu)
        obtain ⟨Au, cu, rfl, hcu, hmu⟩ := list_form HOU.out
        clear hou hsu hBu
        go_wp2_with fail
        refine (HEN.out _).mono ?_
        rintro e w2b ⟨v2, u2, rfl, hv2, hu2, hB2⟩
        have HV2 := hid (rel_up hv2)
        have HU2 := hid (rel_up hu2)
        have HX2 := hid (wordR.below HOU.out hB2 hB2.size)
        have HBw2 := hid (low' HBu.out hB2)
        clear hv2 hu2 hB2
        go_wp2_with fail
        refine (encode_out HSU.out (by omega) 3 ⟨by omega, by omega⟩ _ _ _ _ HV2.out HU2.out HX2.out).mono ?_
        rintro e w3b ⟨hB3, A3, c3, rfl, hr⟩
        obtain ⟨G, O, y, rfl, hG, hy3, hcy⟩ := list_at1 (i := 0) (x := encF ls) rfl hr rfl
        obtain ⟨A4, c4, rfl, hc4, hm4⟩ := list_form hy3.1
        have HBw3b := hid (low' HBw2.out hB3)
        have HX3b := hid (wordR.below HX2.out hB3 hB3.size)
        have HY3 := hid (rel_up hy3).1
        have hGl : G < w3b.heap.size := hG.2
        clear hB3 hr hy3 hG
        simp only [List.length_cons, List.length_nil, Nat.zero_add, Nat.add_zero] at hcy ⊢
        obtain ⟨L, hL⟩ : ∃ L, L = encF ls := ⟨_, rfl⟩
        have hLl : L.length ≤ 600 := by rw [hL]; have := encF_len ls; omega
        have HLB := hid (show byteL L by rw [hL]; exact enc_byte _)
        have HLR := hid (show Rep L ls true by rw [hL]; exact rep_enc HSU.out)
        rw [← hL] at HY3 hcy hc4
        clear hL
        go_wp2_with fail
        obtain ⟨ι, Wc, ⟨i0, hi0'⟩, hWc, Wsur⟩ := held_class w3b.drew (fun g => g = G)
        have hne : Nonempty ι := ⟨i0⟩
        have WS := hid Wsur; clear Wsur
        have HWc := hid hWc; clear hWc
        have Hi0 := hid hi0'; clear hi0'
        have g1 : ∀ i, (Wc i).cell? ⟨G, O, none⟩ = some _ := fun i => (World.cell?_of_block (a := ⟨G, O, none⟩) (HWc.out i _ rfl)).trans hcy
        have hS0 : ∃ i, w3b.drew = Wc i := ⟨i0, Hi0.out.symm⟩
        have HSB : Hid (∀ W, Below w3b.heap.size w3b W → ∃ i, W = Wc i) := hid fun W hW => WS.out W fun q hq => by subst hq; exact hW.block _ hGl
        refine region_anyL (S := fun w' => ∃ i, w' = Wc i) (last := 10) (by kernel_rfl) ?_
        refine anyL_pick [1, 2, 3] (by decide) (by kernel_rfl) (fun _ _ _ _ _ h => h) hS0 (f := 7) rfl (by kernel_rfl) ?_
        show wpQuiet _ _ _ _ [_, _, _] _
        repeat go_big_quiet_step (fail)
        refine wpQuiet_nil ?_
        refine anyL_act (i := 0) (by kernel_rfl) rfl rfl ?_
        intro K hK
        go_wp2_with fail
        refine (HST.out _).mono ?_
        rintro e w4 ⟨v4, u4, rfl, hv4, hu4, hB4⟩
        have hB34 : Below w3b.heap.size w3b w4 := ⟨hB4.os, hB4.tape, hB4.output, hB4.size, hB4.block⟩
        have HB34 := hid hB34
        have HV4 := hid (rel_up hv4)
        have HU4 := hid (rel_up hu4)
        have HY4 := hid (wordR.below HY3.out hB34 hB34.size)
        clear hv4 hu4 hB4 hB34
        go_wp2_with fail
        refine hK.out _ _ (fun _ => HSB.out _ HB34.out) ?_
        clear hK K
        refine anyL_act (i := 4) (by kernel_rfl) rfl rfl ?_
        intro K hK
        go_wp2_with fail
        refine (strict_out HLB.out HLR.out (by omega) 3 ⟨by omega, by omega⟩ _ _ _ _ HV4.out HU4.out HY4.out).mono ?_
        rw [if_pos rfl]
        rintro e w5b ⟨hB5, A5, c5, rfl, hr5⟩
        have HB35 := hid (low' HB34.out hB5)
        have HR5 := hid hr5
        clear hB5 hr5
        go_wp2_with fail
        have hS5 := HSB.out _ HB35.out
        refine hK.out _ _ (fun _ => hS5) ?_
        clear hK K
        refine anyL_seg 5 5 (by kernel_rfl) (fun _ _ _ _ _ h => h) hS5 (f := 0) rfl (by kernel_rfl) (by kernel_rfl) ?_
        simp only [List.drop_succ_cons, List.drop_zero, List.take_succ_cons, List.take_zero]
        repeat go_big_quiet_step (fail)
        refine wpQuiet_nil ?_
        refine anyL_done (by kernel_rfl) ?_ 0
        obtain ⟨G5, O5, y5, rfl, hG5, hy5, hcy5⟩ := list_at1 (i := 0) (x := ls) rfl HR5.out rfl
        obtain ⟨A6, c6, rfl, hc6, hm6⟩ := list_form hy5.1
        have HY5 := hid (rel_up hy5).1
        have HX5b := hid (wordR.below HX3b.out HB35.out HB35.out.size)
        have HBw5b := hid (low' HBw3b.out HB35.out)
        have hG5l : G5 < w5b.heap.size := hG5.2
        simp only [Nat.add_zero] at hcy5 ⊢
        clear hS5 g1 hS0 HSB WS HWc Hi0 hne i0 Wc ι hy5 hG5 HR5
        go_wp2_with fail
        refine (rsame_calls ls ls _ _ _ HY5.out HX5b.out).mono ?_
        rintro e w6b ⟨rfl, hB6⟩
        have HX6b := hid (wordR.below HX5b.out hB6 hB6.size)
        have HBw6b := hid (low' HBw5b.out hB6)
        rw [decide_eq_true rfl]
        clear hB6
        go_wp2_with fail
        go_ret
        exact ⟨rfl, HBw6b.out⟩
      · have HS := hid hs
        clear hs
        go_enter Tryz.func13, Tryz.ntmps13
        go_wp2_with fail
        refine (HAW.out _).mono ?_
        rintro e w1 ⟨rfl, hB1⟩
        have HB1 := hid hB1
        clear hB1
        go_wp2_with fail
        have HXa := hid (wordR.below HW0.out HB1.out HB1.out.size)
        refine (HEN.out _).mono ?_
        rintro e w2 ⟨v2, u2, rfl, hv2, hu2, hB2⟩
        have HV2 := hid (rel_up hv2)
        have HU2 := hid (rel_up hu2)
        have HX2 := hid (wordR.below HXa.out hB2 hB2.size)
        have HBw2 := hid (low' HB1.out hB2)
        clear hv2 hu2 hB2
        go_wp2_with fail
        refine (encode_not HS.out (by omega) 3 (by omega) _ _ _ _ HV2.out HU2.out HX2.out).mono ?_
        rintro e w4 ⟨rfl, hB4⟩
        have HBw4 := hid (low' HBw2.out hB4)
        clear hB4
        go_wp2_with fail
        refine (HUR.out _ HBw4.out).mono ?_
        rintro e wu ⟨uu, ls, rfl, hou, hsu, hlu, hBu⟩
        have HOU := hid (rel_up (hou.fresh (Nat.le_refl _))).1
        have HSU := hid hsu
        have HBu := hid (low' HBw4.out hBu)
        obtain ⟨Au, cu, rfl, hcu, hmu⟩ := list_form HOU.out
        clear hou hsu hBu
        go_wp2_with fail
        refine (HEN.out _).mono ?_
        rintro e w2b ⟨v2, u2, rfl, hv2, hu2, hB2⟩
        have HV2 := hid (rel_up hv2)
        have HU2 := hid (rel_up hu2)
        have HX2 := hid (wordR.below HOU.out hB2 hB2.size)
        have HBw2 := hid (low' HBu.out hB2)
        clear hv2 hu2 hB2
        go_wp2_with fail
        refine (encode_out HSU.out (by omega) 3 ⟨by omega, by omega⟩ _ _ _ _ HV2.out HU2.out HX2.out).mono ?_
        rintro e w3b ⟨hB3, A3, c3, rfl, hr⟩
        obtain ⟨G, O, y, rfl, hG, hy3, hcy⟩ := list_at1 (i := 0) (x := encF ls) rfl hr rfl
        obtain ⟨A4, c4, rfl, hc4, hm4⟩ := list_form hy3.1
        have HBw3b := hid (low' HBw2.out hB3)
        have HX3b := hid (wordR.below HX2.out hB3 hB3.size)
        have HY3 := hid (rel_up hy3).1
        have hGl : G < w3b.heap.size := hG.2
        clear hB3 hr hy3 hG
        simp only [List.length_cons, List.length_nil, Nat.zero_add, Nat.add_zero] at hcy ⊢
        obtain ⟨L, hL⟩ : ∃ L, L = encF ls := ⟨_, rfl⟩
        have hLl : L.length ≤ 600 := by rw [hL]; have := encF_len ls; omega
        have HLB := hid (show byteL L by rw [hL]; exact enc_byte _)
        have HLR := hid (show Rep L ls true by rw [hL]; exact rep_enc HSU.out)
        rw [← hL] at HY3 hcy hc4
        clear hL
        go_wp2_with fail
        obtain ⟨ι, Wc, ⟨i0, hi0'⟩, hWc, Wsur⟩ := held_class w3b.drew (fun g => g = G)
        have hne : Nonempty ι := ⟨i0⟩
        have WS := hid Wsur; clear Wsur
        have HWc := hid hWc; clear hWc
        have Hi0 := hid hi0'; clear hi0'
        have g1 : ∀ i, (Wc i).cell? ⟨G, O, none⟩ = some _ := fun i => (World.cell?_of_block (a := ⟨G, O, none⟩) (HWc.out i _ rfl)).trans hcy
        have hS0 : ∃ i, w3b.drew = Wc i := ⟨i0, Hi0.out.symm⟩
        have HSB : Hid (∀ W, Below w3b.heap.size w3b W → ∃ i, W = Wc i) := hid fun W hW => WS.out W fun q hq => by subst hq; exact hW.block _ hGl
        refine region_anyL (S := fun w' => ∃ i, w' = Wc i) (last := 10) (by kernel_rfl) ?_
        refine anyL_pick [1, 2, 3] (by decide) (by kernel_rfl) (fun _ _ _ _ _ h => h) hS0 (f := 7) rfl (by kernel_rfl) ?_
        show wpQuiet _ _ _ _ [_, _, _] _
        repeat go_big_quiet_step (fail)
        refine wpQuiet_nil ?_
        refine anyL_act (i := 0) (by kernel_rfl) rfl rfl ?_
        intro K hK
        go_wp2_with fail
        refine (HST.out _).mono ?_
        rintro e w4 ⟨v4, u4, rfl, hv4, hu4, hB4⟩
        have hB34 : Below w3b.heap.size w3b w4 := ⟨hB4.os, hB4.tape, hB4.output, hB4.size, hB4.block⟩
        have HB34 := hid hB34
        have HV4 := hid (rel_up hv4)
        have HU4 := hid (rel_up hu4)
        have HY4 := hid (wordR.below HY3.out hB34 hB34.size)
        clear hv4 hu4 hB4 hB34
        go_wp2_with fail
        refine hK.out _ _ (fun _ => HSB.out _ HB34.out) ?_
        clear hK K
        refine anyL_act (i := 4) (by kernel_rfl) rfl rfl ?_
        intro K hK
        go_wp2_with fail
        refine (strict_out HLB.out HLR.out (by omega) 3 ⟨by omega, by omega⟩ _ _ _ _ HV4.out HU4.out HY4.out).mono ?_
        rw [if_pos rfl]
        rintro e w5b ⟨hB5, A5, c5, rfl, hr5⟩
        have HB35 := hid (low' HB34.out hB5)
        have HR5 := hid hr5
        clear hB5 hr5
        go_wp2_with fail
        have hS5 := HSB.out _ HB35.out
        refine hK.out _ _ (fun _ => hS5) ?_
        clear hK K
        refine anyL_seg 5 5 (by kernel_rfl) (fun _ _ _ _ _ h => h) hS5 (f := 0) rfl (by kernel_rfl) (by kernel_rfl) ?_
        simp only [List.drop_succ_cons, List.drop_zero, List.take_succ_cons, List.take_zero]
        repeat go_big_quiet_step (fail)
        refine wpQuiet_nil ?_
        refine anyL_done (by kernel_rfl) ?_ 0
        obtain ⟨G5, O5, y5, rfl, hG5, hy5, hcy5⟩ := list_at1 (i := 0) (x := ls) rfl HR5.out rfl
        obtain ⟨A6, c6, rfl, hc6, hm6⟩ := list_form hy5.1
        have HY5 := hid (rel_up hy5).1
        have HX5b := hid (wordR.below HX3b.out HB35.out HB35.out.size)
        have HBw5b := hid (low' HBw3b.out HB35.out)
        have hG5l : G5 < w5b.heap.size := hG5.2
        simp only [Nat.add_zero] at hcy5 ⊢
        clear hS5 g1 hS0 HSB WS HWc Hi0 hne i0 Wc ι hy5 hG5 HR5
        go_wp2_with fail
        refine (rsame_calls ls ls _ _ _ HY5.out HX5b.out).mono ?_
        rintro e w6b ⟨rfl, hB6⟩
        have HX6b := hid (wordR.below HX5b.out hB6 hB6.size)
        have HBw6b := hid (low' HBw5b.out hB6)
        rw [decide_eq_true rfl]
        clear hB6
        go_wp2_with fail
        go_ret
        exact ⟨rfl, HBw6b.out⟩
    · have hb' : (20 : Int) < b.length := by omega
      clear h hb
      go_enter Tryz.func13, Tryz.ntmps13
      go_wp2_with fail
      refine (HAW.out _).mono ?_
      rintro e w1 ⟨rfl, hB1⟩
      have HB1 := hid hB1
      clear hB1
      go_wp2_with fail
      go_ret
      exact ⟨rfl, HB1.out⟩
  · have hx' : (20 : Int) < x.length := by omega
    clear h hb
    go_enter Tryz.func13, Tryz.ntmps13
    go_wp2_with fail
    refine (HAW.out _).mono ?_
    rintro e w1 ⟨rfl, hB1⟩
    have HB1 := hid hB1
    clear hB1
    go_wp2_with fail
    go_ret
    exact ⟨rfl, HB1.out⟩
end Go.Proofs.YtmkmikacfilbpaaGreat
