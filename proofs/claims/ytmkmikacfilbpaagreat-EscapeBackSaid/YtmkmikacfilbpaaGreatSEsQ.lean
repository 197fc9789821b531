/-
  The law EscapeBack: its walk.
-/
import Derived.Test.YtmkmikacfilbpaaGreatSEsY
import Derived.Test.YtmkmikacfilbpaaGreatPc
namespace Go.Proofs.YtmkmikacfilbpaaGreat
open Go.RowKit Go.Um Go.Proofs
set_option maxHeartbeats 2000000 in
set_option maxRecDepth 100000 in
theorem eback_law (b : List Int) (v : Value) (w : World) (h : bytesR.rel w (upto w.heap.size) [v] b) :
    Calls Tryz.prog 8 #[v] w fun e w' => e = .returned (.bool true) ∧ Below w.heap.size w w' := by
  have hy := bytes_bd h
  have HAW := hid fun W => eawake_calls W
  by_cases hl : b.length ≤ 200
  · have HSY := hid fun W (hW : Below w.heap.size w W) => esym_calls b v W (bytesR.below h hW hW.size) (by omega)
    have HRE := hid fun W => url_post W
    have HRU := hid fun W => unurl_post W
    obtain ⟨A, c, rfl, hc, hm⟩ := list_form h
    unfold maxLen at hm
    have hl' : ¬ (200 : Int) < b.length := by omega
    have HYb := hid hy
    clear h
    go_enter Tryz.func8, Tryz.ntmps8
    go_wp2_with fail
    refine (HRE.out _).mono ?_
    rintro e w2 ⟨v2, u2, rfl, hv2, hu2, hB2⟩
    have HV2 := hid (rel_up hv2)
    have HU2 := hid (rel_up hu2)
    have HBw2 := hid hB2
    clear hv2 hu2 hB2
    go_wp2_with fail
    refine (HSY.out _ HBw2.out).mono ?_
    rintro e w3 ⟨u3, rfl, ho3, hB3⟩
    have HV3 := hid ((listR ruleR).below HV2.out hB3 hB3.size)
    have HU3 := hid ((listR finalR).below HU2.out hB3 hB3.size)
    have HW3 := hid (rel_up (ho3.fresh (Nat.le_refl _))).1
    have HBw3 := hid (low' HBw2.out hB3)
    clear ho3 hB3
    go_wp2_with fail
    refine (url_out HYb.out (by omega) 2 ⟨by omega, by omega⟩ _ _ _ _ HV3.out HU3.out HW3.out).mono ?_
    rintro e w4 ⟨hB4, A4, c4, rfl, hr⟩
    obtain ⟨G, O, y, rfl, hG, hy4, hcy⟩ := list_at1 (i := 0) (x := urlF b) rfl hr rfl
    obtain ⟨A5, c5, rfl, hc5, hm5⟩ := list_form hy4.1
    have HBw4 := hid (low' HBw3.out hB4)
    have HX4 := hid (rel_up hy4).1
    have hGl : G < w4.heap.size := hG.2
    clear hB4 hr hy4
    simp only [List.length_cons, List.length_nil, Nat.zero_add, Nat.add_zero] at hcy ⊢
    obtain ⟨L, hL⟩ : ∃ L, L = urlF b := ⟨_, rfl⟩
    have hLl : L.length ≤ 600 := by rw [hL]; have := urlF_len b; omega
    have HLB : Hid (byteL L) := hid (by rw [hL]; exact urlF_byte HYb.out)
    have HLU : Hid (unurlF L = b) := hid (by rw [hL]; exact url_back HYb.out)
    rw [← hL] at HX4 hcy
    clear hL
    go_wp2_with fail
    obtain ⟨ι, Wc, ⟨i0, hi0'⟩, hWc, Wsur⟩ := held_class w4.drew (fun g => g = G)
    have hne : Nonempty ι := ⟨i0⟩
    have WS := hid Wsur; clear Wsur
    have HWc := hid hWc; clear hWc
    have Hi0 := hid hi0'; clear hi0'
    have g1 : ∀ i, (Wc i).cell? ⟨G, O, none⟩ = some _ := fun i => (World.cell?_of_block (a := ⟨G, O, none⟩) (HWc.out i _ rfl)).trans hcy
    have hS0 : ∃ i, w4.drew = Wc i := ⟨i0, Hi0.out.symm⟩
    have HSB : Hid (∀ W, Below w4.heap.size w4 W → ∃ i, W = Wc i) := hid fun W hW => WS.out W fun q hq => by subst hq; exact hW.block _ hGl
    refine region_anyL (S := fun w' => ∃ i, w' = Wc i) (last := 10) (by kernel_rfl) ?_
    refine anyL_pick [1, 2, 3] (by decide) (by kernel_rfl) (fun _ _ _ _ _ h => h) hS0 (f := 7) rfl (by kernel_rfl) ?_
    show wpQuiet _ _ _ _ [_, _, _] _
    repeat go_big_quiet_step (fail)
    refine wpQuiet_nil ?_
    refine anyL_act (i := 0) (by kernel_rfl) rfl rfl ?_
    intro K hK
    go_wp2_with fail
    refine (HRU.out w4.drew).mono ?_
    rintro e w5 ⟨v5, u5, rfl, hv5, hu5, hB5⟩
    have hB45 : Below w4.heap.size w4 w5 := ⟨hB5.os, hB5.tape, hB5.output, hB5.size, hB5.block⟩
    have HB45 := hid hB45
    have HV5 := hid (rel_up hv5)
    have HU5 := hid (rel_up hu5)
    have HX5 := hid (wordR.below HX4.out hB45 hB45.size)
    clear hv5 hu5 hB5 hB45
    go_wp2_with fail
    refine hK.out _ _ (fun _ => HSB.out _ HB45.out) ?_
    clear hK K
    refine anyL_act (i := 4) (by kernel_rfl) rfl rfl ?_
    intro K hK
    go_wp2_with fail
    refine (unurl_out HLB.out (by omega) 2 ⟨by omega, by omega⟩ _ _ _ _ HV5.out HU5.out HX5.out).mono ?_
    rintro e w6 ⟨hB6, A6, c6, rfl, hr⟩
    rw [HLU.out] at hr
    obtain ⟨G6, O6, y6, rfl, hG6, hy6, hcy6⟩ := list_at1 (i := 0) (x := b) rfl hr rfl
    obtain ⟨A7, c7, rfl, hc7, hm7⟩ := list_form hy6.1
    have HB46 := hid (low' HB45.out hB6)
    have HX6 := hid (rel_up hy6).1
    have hGl6 : G6 < w6.heap.size := hG6.2
    clear hB6 hr hy6
    simp only [List.length_cons, List.length_nil, Nat.zero_add, Nat.add_zero] at hcy6 ⊢
    go_wp2_with fail
    have hS6 := HSB.out _ HB46.out
    refine hK.out _ _ (fun _ => hS6) ?_
    clear hK K
    refine anyL_seg 5 5 (by kernel_rfl) (fun _ _ _ _ _ h => h) hS6 (f := 0) rfl (by kernel_rfl) (by kernel_rfl) ?_
    simp only [List.drop_succ_cons, List.drop_zero, List.take_succ_cons, List.take_zero]
    repeat go_big_quiet_step (fail)
    refine wpQuiet_nil ?_
    refine anyL_done (by kernel_rfl) ?_ 0
    have HBw6 := hid (HBw4.out.trans (HB46.out.mono HBw4.out.size))
    clear hS6 g1 hS0 HSB WS HWc Hi0 hne i0 Wc ι
    go_wp2_with fail
    obtain ⟨ι, Wc, ⟨i0, hi0'⟩, hWc, Wsur⟩ := held_class w6.drew (fun g => g = G6)
    have hne : Nonempty ι := ⟨i0⟩
    have WS := hid Wsur; clear Wsur
    have HWc := hid hWc; clear hWc
    have Hi0 := hid hi0'; clear hi0'
    have g1 : ∀ i, (Wc i).cell? ⟨G6, O6, none⟩ = some _ := fun i => (World.cell?_of_block (a := ⟨G6, O6, none⟩) (HWc.out i _ rfl)).trans hcy6
    have hS0 : ∃ i, w6.drew = Wc i := ⟨i0, Hi0.out.symm⟩
    have HSB : Hid (∀ W, Below w6.heap.size w6 W → ∃ i, W = Wc i) := hid fun W hW => WS.out W fun q hq => by subst hq; exact hW.block _ hGl6
    refine region_anyL (S := fun w' => ∃ i, w' = Wc i) (last := 19) (by kernel_rfl) ?_
    refine anyL_seg 0 12 (by kernel_rfl) (fun _ _ _ _ _ h => h) hS0 (f := 7) rfl (by kernel_rfl) (by kernel_rfl) ?_
    simp only [List.drop_zero, List.take_succ_cons, List.take_zero]
    repeat go_big_quiet_step (fail)
    refine wpQuiet_nil ?_
    refine anyL_actG (i := 12) (by kernel_rfl) rfl (by rfl) ?_
    intro K hK
    go_wp2_with fail
    have hBd : Below w.heap.size w w6.drew := ⟨HBw6.out.os, HBw6.out.tape, HBw6.out.output, HBw6.out.size, HBw6.out.block⟩
    refine (HSY.out _ hBd).mono ?_
    rintro e w7 ⟨u7, rfl, ho7, hB7⟩
    have hB67 : Below w6.heap.size w6 w7 := ⟨hB7.os, hB7.tape, hB7.output, hB7.size, hB7.block⟩
    have HB67 := hid hB67
    have HW7 := hid (rel_up (ho7.fresh (Nat.le_refl _))).1
    have HX7 := hid (wordR.below HX6.out hB67 hB67.size)
    obtain ⟨A8, c8, rfl, hc8, hm8⟩ := list_form HW7.out
    clear ho7 hB7 hB67
    go_wp2_with fail
    refine hK.out _ _ (fun _ => HSB.out _ HB67.out) ?_
    clear hK K
    refine anyL_actG (i := 13) (by kernel_rfl) rfl (by rfl) ?_
    intro K hK
    go_wp2_with fail
    refine (rsame_calls b b _ _ _ HX7.out HW7.out).mono ?_
    rintro e w8 ⟨rfl, hB8⟩
    have HB68 := hid (low' HB67.out hB8)
    rw [decide_eq_true rfl]
    clear hB8
    go_wp2_with fail
    refine hK.out _ _ (fun _ => HSB.out _ HB68.out) ?_
    clear hK K
    refine anyL_seg 14 2 (by kernel_rfl) (fun _ _ _ _ _ h => h) (HSB.out _ HB68.out) (f := 3) rfl (by kernel_rfl) (by kernel_rfl) ?_
    simp only [List.drop_succ_cons, List.drop_zero, List.take_succ_cons, List.take_zero]
    repeat go_big_quiet_step (fail)
    refine wpQuiet_nil ?_
    refine anyL_actG (i := 16) (by kernel_rfl) rfl (by rfl) ?_
    intro K hK
    go_wp2_with fail
    refine (HAW.out _).mono ?_
    rintro e w9 ⟨rfl, hB9⟩
    have HB69 := hid (low' HB68.out hB9)
    clear hB9
    go_wp2_with fail
    have hS9 := HSB.out _ HB69.out
    refine hK.out _ _ (fun _ => hS9) ?_
    clear hK K
    refine anyL_seg 17 2 (by kernel_rfl) (fun _ _ _ _ _ h => h) hS9 (f := 0) rfl (by kernel_rfl) (by kernel_rfl) ?_
    simp only [List.drop_succ_cons, List.drop_zero, List.take_succ_cons, List.take_zero]
    repeat go_big_quiet_step (fail)
    refine wpQuiet_nil ?_
    refine anyL_done (by kernel_rfl) ?_ 0
    clear hS9 g1 hS0 HSB WS HWc Hi0 hne i0 Wc ι
    go_wp2_with fail
    go_ret
    exact ⟨rfl, HBw6.out.trans (HB69.out.mono HBw6.out.size)⟩
  · obtain ⟨A, c, rfl, hc, hm⟩ := list_form h
    have hl' : (200 : Int) < b.length := by omega
    clear h
    go_enter Tryz.func8, Tryz.ntmps8
    go_wp2_with fail
    refine (HAW.out _).mono ?_
    rintro e w1 ⟨rfl, hB1⟩
    have HB1 := hid hB1
    clear hB1
    go_wp2_with fail
    go_ret
    exact ⟨rfl, HB1.out⟩
end Go.Proofs.YtmkmikacfilbpaaGreat
