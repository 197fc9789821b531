/-
  The law EscapeUrl: its walk.
-/
import Derived.Test.YtmkmikacfilbpaaGreatSEsW
import Derived.Test.YtmkmikacfilbpaaGreatPc
namespace Go.Proofs.YtmkmikacfilbpaaGreat
open Go.RowKit Go.Um Go.Proofs
theorem bytes_bd {w : World} {S : Nat → Prop} {v : Value} {b : List Int} (h : bytesR.rel w S [v] b) : byteL b := fun z hz => by
  obtain ⟨A, c, rfl, _, _⟩ := list_form h
  obtain ⟨i, hi⟩ := List.mem_iff_getElem?.1 hz
  obtain ⟨_, _, _, _, _, h0, h1⟩ := byte_at h hi
  exact ⟨h0, h1⟩
set_option maxHeartbeats 2000000 in
set_option maxRecDepth 100000 in
theorem eurl_law (b : List Int) (v : Value) (w : World) (h : bytesR.rel w (upto w.heap.size) [v] b) :
    Calls Tryz.prog 6 #[v] w fun e w' => e = .returned (.bool true) ∧ Below w.heap.size w w' := by
  have hy := bytes_bd h
  have HAW := hid fun W => eawake_calls W
  by_cases hl : b.length ≤ 200
  · have HRP := hid fun W (hW : Below w.heap.size w W) => rurl_calls b (by omega) v W (bytesR.below h hW hW.size)
    have HSY := hid fun W (hW : Below w.heap.size w W) => esym_calls b v W (bytesR.below h hW hW.size) (by omega)
    have HSY2 := hid fun b v W h hl => esym_calls b v W h hl
    have HRE := hid fun W => url_post W
    obtain ⟨A, c, rfl, hc, hm⟩ := list_form h
    unfold maxLen at hm
    have hl' : ¬ (200 : Int) < b.length := by omega
    have HYb := hid hy
    clear h
    go_enter Tryz.func6, Tryz.ntmps6
    go_wp2_with fail
    refine (HRE.out _).mono ?_
    rintro e w2 ⟨v2, u2, rfl, hv2, hu2, hB2⟩
    have HV2 := hid (rel_up hv2)
    have HU2 := hid (rel_up hu2)
    have HBw2 := hid hB2
    clear hv2 hu2 hB2
    go_wp2_with fail
    refine (HSY.out _ HBw2.out).mono ?_
    rintro e w3 ⟨u3, rfl, ho3, hB3⟩
    have HV3 := hid ((listR ruleR).below HV2.out hB3 hB3.size)
    have HU3 := hid ((listR finalR).below HU2.out hB3 hB3.size)
    have HW3 := hid (rel_up (ho3.fresh (Nat.le_refl _))).1
    have HBw3 := hid (low' HBw2.out hB3)
    clear ho3 hB3
    go_wp2_with fail
    refine (url_out HYb.out (by omega) 3 ⟨by omega, by omega⟩ _ _ _ _ HV3.out HU3.out HW3.out).mono ?_
    rintro e w4 ⟨hB4, A4, c4, rfl, hr⟩
    obtain ⟨G, O, y, rfl, hG, hy4, hcy⟩ := list_at1 (i := 0) (x := urlF b) rfl hr rfl
    obtain ⟨A5, c5, rfl, hc5, hm5⟩ := list_form hy4.1
    have HBw4 := hid (low' HBw3.out hB4)
    have HX4 := hid (rel_up hy4).1
    have hGl : G < w4.heap.size := hG.2
    clear hB4 hr hy4
    simp only [List.length_cons, List.length_nil, Nat.zero_add, Nat.add_zero] at hcy ⊢
    obtain ⟨L, hL⟩ : ∃ L, L = urlF b := ⟨_, rfl⟩
    have hLl : L.length ≤ 600 := by rw [hL]; have := urlF_len b; omega
    have HL := hid hL
    rw [← hL] at HX4 hcy
    rw [← hL] at HRP
    clear hL
    go_wp2_with fail
    obtain ⟨ι, Wc, ⟨i0, hi0'⟩, hWc, Wsur⟩ := held_class w4.drew (fun g => g = G)
    have hne : Nonempty ι := ⟨i0⟩
    have WS := hid Wsur; clear Wsur
    have HWc := hid hWc; clear hWc
    have Hi0 := hid hi0'; clear hi0'
    have g1 : ∀ i, (Wc i).cell? ⟨G, O, none⟩ = some _ := fun i => (World.cell?_of_block (a := ⟨G, O, none⟩) (HWc.out i _ rfl)).trans hcy
    have hS0 : ∃ i, w4.drew = Wc i := ⟨i0, Hi0.out.symm⟩
    have HSB : Hid (∀ W, Below w4.heap.size w4 W → ∃ i, W = Wc i) := hid fun W hW => WS.out W fun q hq => by subst hq; exact hW.block _ hGl
    refine region_anyL (S := fun w' => ∃ i, w' = Wc i) (last := 20) (by kernel_rfl) ?_
    refine anyL_seg 0 12 (by kernel_rfl) (fun _ _ _ _ _ h => h) hS0 (f := 8) rfl (by kernel_rfl) (by kernel_rfl) ?_
    simp only [List.drop_zero, List.take_succ_cons, List.take_zero]
    repeat go_big_quiet_step (fail)
    refine wpQuiet_nil ?_
    refine anyL_actG (i := 12) (by kernel_rfl) rfl (by rfl) ?_
    intro K hK
    go_wp2_with fail
    have hBd : Below w.heap.size w w4.drew := ⟨HBw4.out.os, HBw4.out.tape, HBw4.out.output, HBw4.out.size, HBw4.out.block⟩
    refine (HRP.out _ hBd).mono ?_
    rintro e w5 ⟨u5, rfl, ho5, hB5⟩
    have hB45 : Below w4.heap.size w4 w5 := ⟨hB5.os, hB5.tape, hB5.output, hB5.size, hB5.block⟩
    have HB45 := hid hB45
    have HO5 := hid (ho5.rel (S := upto w5.heap.size) (fun g hg => (ho5.1.lt g hg).2))
    obtain ⟨A6, c6, rfl, hc6, hm6⟩ := list_form HO5.out
    clear ho5 hB5 hB45
    go_wp2_with fail
    refine hK.out _ _ (fun _ => HSB.out _ HB45.out) ?_
    clear hK K
    refine anyL_actG (i := 13) (by kernel_rfl) rfl (by rfl) ?_
    intro K hK
    go_wp2_with fail
    refine (HSY2.out L _ w5 HO5.out (by omega)).mono ?_
    rintro e w6 ⟨u6, rfl, ho6, hB6⟩
    have HB46 := hid (HB45.out.trans (hB6.mono HB45.out.size))
    have HW6 := hid (rel_up (ho6.fresh (Nat.le_refl _))).1
    have HX6 := hid (wordR.below HX4.out HB46.out HB46.out.size)
    obtain ⟨A7, c7, rfl, hc7, hm7⟩ := list_form HW6.out
    clear ho6 hB6
    go_wp2_with fail
    refine hK.out _ _ (fun _ => HSB.out _ HB46.out) ?_
    clear hK K
    refine anyL_actG (i := 14) (by kernel_rfl) rfl (by rfl) ?_
    intro K hK
    go_wp2_with fail
    refine (rsame_calls L L _ _ _ HX6.out HW6.out).mono ?_
    rintro e w7 ⟨rfl, hB7⟩
    have HB47 := hid (low' HB46.out hB7)
    rw [decide_eq_true rfl]
    clear hB7
    go_wp2_with fail
    refine hK.out _ _ (fun _ => HSB.out _ HB47.out) ?_
    clear hK K
    refine anyL_seg 15 2 (by kernel_rfl) (fun _ _ _ _ _ h => h) (HSB.out _ HB47.out) (f := 3) rfl (by kernel_rfl) (by kernel_rfl) ?_
    simp only [List.drop_succ_cons, List.drop_zero, List.take_succ_cons, List.take_zero]
    repeat go_big_quiet_step (fail)
    refine wpQuiet_nil ?_
    refine anyL_actG (i := 17) (by kernel_rfl) rfl (by rfl) ?_
    intro K hK
    go_wp2_with fail
    refine (HAW.out _).mono ?_
    rintro e w8 ⟨rfl, hB8⟩
    have HB48 := hid (low' HB47.out hB8)
    clear hB8
    go_wp2_with fail
    have hS8 := HSB.out _ HB48.out
    refine hK.out _ _ (fun _ => hS8) ?_
    clear hK K
    refine anyL_seg 18 2 (by kernel_rfl) (fun _ _ _ _ _ h => h) hS8 (f := 0) rfl (by kernel_rfl) (by kernel_rfl) ?_
    simp only [List.drop_succ_cons, List.drop_zero, List.take_succ_cons, List.take_zero]
    repeat go_big_quiet_step (fail)
    refine wpQuiet_nil ?_
    refine anyL_done (by kernel_rfl) ?_ 0
    clear hS8 g1 hS0 HSB WS HWc Hi0 hne i0 Wc ι
    go_wp2_with fail
    go_ret
    exact ⟨rfl, HBw4.out.trans (HB48.out.mono HBw4.out.size)⟩
  · obtain ⟨A, c, rfl, hc, hm⟩ := list_form h
    have hl' : (200 : Int) < b.length := by omega
    clear h
    go_enter Tryz.func6, Tryz.ntmps6
    go_wp2_with fail
    refine (HAW.out _).mono ?_
    rintro e w1 ⟨rfl, hB1⟩
    have HB1 := hid hB1
    clear hB1
    go_wp2_with fail
    go_ret
    exact ⟨rfl, HB1.out⟩
end Go.Proofs.YtmkmikacfilbpaaGreat
