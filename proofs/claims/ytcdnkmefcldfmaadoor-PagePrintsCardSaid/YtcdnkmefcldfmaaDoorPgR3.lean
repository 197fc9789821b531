/-
  The reference's body.
-/
import Derived.Test.YtcdnkmefcldfmaaDoorPgR2
namespace Go.Proofs.YtcdnkmefcldfmaaDoor
open Go.RowKit Go.Um

set_option maxHeartbeats 2000000 in
set_option maxRecDepth 100000 in
theorem rbody_calls (gs : List (List Span)) (ts : List Term) (v u : Value) (w : World) (hg : (listR spansR).rel w (upto w.heap.size) [v] gs) (ht : (listR termR).rel w (upto w.heap.size) [u] ts) (hbd : (nl (bodyL gs ts)).length ≤ 1000000000000) :
    Calls Tryd.prog 23 #[v, u] w fun e w' => e = .returned (.string (bs (nl (bodyL gs ts)))) ∧ Below w.heap.size w w' := by
  obtain ⟨A1, c1, rfl, hc1, hm1⟩ := list_form hg
  obtain ⟨A2, c2, rfl, hc2, hm2⟩ := list_form ht
  unfold maxLen at hm1 hm2
  have hbd1 : (guardsL gs).length ≤ 1000000000000 := by simp only [nl, bodyL, List.length_append] at hbd; omega
  have h91 : (⟨#[32, 91]⟩ : ByteArray).size = 2 := rfl
  have h93 : (⟨#[93]⟩ : ByteArray).size = 1 := rfl
  have h44 : (⟨#[44]⟩ : ByteArray).size = 1 := rfl
  go_enter Tryd.func23, Tryd.ntmps23
  go_wp2_with fail
  go_loopw [5, 6, 7] (fun vs vi vk wr => (∃ z, z = vk) ∧ ∃ (k : Nat) (M : By), k ≤ gs.length ∧ vi = .int .i64 k ∧ vs = .string (bs M) ∧ M ++ guardsL (gs.drop k) = guardsL gs ∧ Below w.heap.size w wr) (fun _ vi _ _ => gs.length - (intOf vi).toNat)
  case atStart => exact ⟨⟨_, rfl⟩, 0, [], Nat.zero_le _, rfl, rfl, rfl, Below.refl _ _⟩
  case round =>
    obtain ⟨⟨z7, rfl⟩, k, M, hk, rfl, rfl, hM, hB⟩ := hrel
    obtain ⟨wo, hwo⟩ : ∃ wo, wo = wr := ⟨_, rfl⟩
    subst hwo
    have hMl : M.length ≤ 1000000000000 := by have := congrArg List.length hM; rw [List.length_append] at this; omega
    have HM := hid hM; clear hM
    have hms : (bs M).size ≤ 1000000000000 := by rw [bs_size]; exact hMl
    have hgr := (listR spansR).later hg hB
    by_cases hlt : k < gs.length
    · obtain ⟨g, hgk⟩ := at_lt hlt
      obtain ⟨b1, o1, y1, rfl, hb1, hy, hcg⟩ := list_at1 rfl hgr hgk
      obtain ⟨A3, c3, rfl, hc3, hm3⟩ := list_form hy
      unfold maxLen at hm3
      have hlt' : (k : Int) < gs.length := by omega
      have HM2 : Hid ((M ++ [32, 91]) ++ spansFrom 0 g ++ [93] ++ guardsL (gs.drop (k + 1)) = guardsL gs) := hid (by have := HM.out; rw [drop_cons hgk] at this; simpa [guardsL] using this)
      have hspl : ((M ++ [32, 91]) ++ spansFrom 0 g).length ≤ 1000000000000 := by have := congrArg List.length HM2.out; simp only [List.length_append] at this ⊢; omega
      clear hgk hlt hgr
      go_wp2_with fail
      go_loopw [5, 7] (fun vs vj wq => ∃ (j : Nat) (N : By), j ≤ g.length ∧ vj = .int .i64 j ∧ vs = .string (bs N) ∧ N ++ spansFrom j (g.drop j) = (M ++ [32, 91]) ++ spansFrom 0 g ∧ Below wo.heap.size wo wq) (fun _ vj _ => g.length - (intOf vj).toNat)
      case atStart => exact ⟨0, M ++ [32, 91], Nat.zero_le _, rfl, by rw [← bs_app]; rfl, rfl, Below.refl _ _⟩
      case round =>
        obtain ⟨j, N, hj, rfl, rfl, hN, hBq⟩ := hrel
        obtain ⟨wq, hwq⟩ : ∃ wq, wq = wr := ⟨_, rfl⟩
        subst hwq
        have hNl : N.length ≤ 1000000000000 := by have := congrArg List.length hN; simp only [List.length_append] at this hspl; omega
        have hNl' : N.length ≤ 1000000000100 := by omega
        have HN := hid hN; clear hN
        have hns : (bs N).size ≤ 1000000000000 := by rw [bs_size]; exact hNl
        have hyq := spansR.later hy hBq
        have hcg := (hBq.cell (p := ⟨b1, o1 + k, none⟩) (by exact hb1)).trans hcg
        have hb1q : b1 < wq.heap.size := Nat.lt_of_lt_of_le hb1 hBq.size
        by_cases hlj : j < g.length
        · obtain ⟨x, hxj⟩ := at_lt hlj
          obtain ⟨b2, o2, rfl, hb2, c1, c2, hI1, hI2⟩ := span_at hyq hxj
          have hL1 := itoaB_le hI1
          have hL2 := itoaB_le hI2
          have hlj' : (j : Int) < g.length := by omega
          by_cases hj0 : j = 0
          · subst hj0
            have HN2 : Hid ((N ++ (Lib.itoa x.lo ++ [46, 46] ++ Lib.itoa x.hi)) ++ spansFrom (0 + 1) (g.drop (0 + 1)) = (M ++ [32, 91]) ++ spansFrom 0 g) := hid (by have := HN.out; rw [drop_cons hxj] at this; simpa [spansFrom, sepL] using this)
            clear hxj hyq hlj
            simp only [Nat.zero_mul, Nat.add_zero] at c1 c2
            go_wp2_with fail
            have hn : (bs (N)).size ≤ 1000000000100 := by rw [bs_size]; first | exact hNl' | (simp; omega)
            have hn1 : (bs (N) ++ bs (Lib.itoa x.lo)).size ≤ 1000000000200 := by rw [ByteArray.size_append]; omega
            have hn2 : (bs (N) ++ bs (Lib.itoa x.lo) ++ ⟨#[46, 46]⟩ : ByteArray).size ≤ 1000000000300 := by rw [ByteArray.size_append]; have : (⟨#[46, 46]⟩ : ByteArray).size = 2 := rfl; omega
            have h46 : (⟨#[46, 46]⟩ : ByteArray).size = 2 := rfl
            obtain ⟨ι, W, ⟨i0, hi0⟩, hW, Wsur⟩ := ext_class wq.drew
            have hne : Nonempty ι := ⟨i0⟩
            have q1 : ∀ i, (W i).cell? ⟨b1, o1 + k, none⟩ = some (.slice (some ⟨b2, o2, none⟩) g.length c3) := fun i => ((hW i).cell (p := ⟨b1, o1 + k, none⟩) (by exact hb1q)).trans hcg
            have q2 : ∀ i, (W i).cell? ⟨b2, o2, none⟩ = some (.int .i64 x.lo) := fun i => ((hW i).cell (p := ⟨b2, o2, none⟩) (by exact hb2)).trans c1
            have q3 : ∀ i, (W i).cell? ⟨b2, o2 + 1, none⟩ = some (.int .i64 x.hi) := fun i => ((hW i).cell (p := ⟨b2, o2 + 1, none⟩) (by exact hb2)).trans c2
            have WS := hid Wsur; clear Wsur
            have HW := hid hW; clear hW
            have Hi0 := hid hi0; clear hi0
            clear c1 c2 hcg
            refine region_anyL (S := fun w' => ∃ i, w' = W i) (last := 23) (by kernel_rfl) ?_
            refine anyL_seg 0 9 (by kernel_rfl) (fun _ _ _ _ _ h => h) ⟨i0, Hi0.out.symm⟩ (f := 14) rfl (by kernel_rfl) (by kernel_rfl) ?_
            simp only [List.drop_zero, List.take_succ_cons, List.take_zero]
            repeat go_big_quiet_step (fail)
            refine wpQuiet_nil ?_
            refine anyL_seg 12 8 (by kernel_rfl) (fun _ _ _ _ _ h => h) ⟨i0, Hi0.out.symm⟩ (f := 6) rfl (by kernel_rfl) (by kernel_rfl) ?_
            simp only [List.drop_succ_cons, List.drop_zero, List.take_succ_cons, List.take_zero]
            repeat go_big_quiet_step (fail)
            refine wpQuiet_nil ?_
            refine anyL_act (i := 9) (by kernel_rfl) rfl rfl ?_
            intro K hK
            go_wp2_with fail
            refine (Number_calls x.lo hI1 _).mono ?_
            rintro e w5 ⟨rfl, hb5⟩
            go_wp2_with fail
            have hS5 : ∃ i, w5 = W i := WS.out i0 _ (by rw [Hi0.out]; exact hb5)
            refine hK.out _ _ (fun _ => hS5) ?_
            clear hK K
            refine anyL_seg 10 2 (by kernel_rfl) (fun _ _ _ _ _ h => h) hS5 (f := 3) rfl (by kernel_rfl) (by kernel_rfl) ?_
            simp only [List.drop_succ_cons, List.drop_zero, List.take_succ_cons, List.take_zero]
            repeat go_big_quiet_step (fail)
            refine wpQuiet_nil ?_
            refine anyL_act (i := 20) (by kernel_rfl) rfl rfl ?_
            intro K hK
            go_wp2_with fail
            refine (Number_calls x.hi hI2 _).mono ?_
            rintro e w6 ⟨rfl, hb6⟩
            go_wp2_with fail
            have hb7 := hb5.trans (hb6.mono hb5.size)
            have hS6 : ∃ i, w6 = W i := WS.out i0 _ (by rw [Hi0.out]; exact hb7)
            refine hK.out _ _ (fun _ => hS6) ?_
            clear hK K
            refine anyL_seg 21 2 (by kernel_rfl) (fun _ _ _ _ _ h => h) hS6 (f := 0) rfl (by kernel_rfl) (by kernel_rfl) ?_
            simp only [List.drop_succ_cons, List.drop_zero, List.take_succ_cons, List.take_zero]
            repeat go_big_quiet_step (fail)
            refine wpQuiet_nil ?_
            refine anyL_done (by kernel_rfl) ?_ 0
            go_wp2_with fail
            refine ⟨⟨0 + 1, (N) ++ (Lib.itoa x.lo ++ [46, 46] ++ Lib.itoa x.hi), by omega, by go_num, ?_, HN2.out, hBq.trans (((Below.refl wq.heap.size wq).drew.trans hb7).mono hBq.size)⟩, ?_⟩
            · rw [show (⟨#[46, 46]⟩ : ByteArray) = bs [46, 46] from rfl, bs_app, bs_app, bs_app]; simp only [List.append_assoc]
            · simp [intOf]; omega
          · have HN2 : Hid (((N ++ [44]) ++ (Lib.itoa x.lo ++ [46, 46] ++ Lib.itoa x.hi)) ++ spansFrom (j + 1) (g.drop (j + 1)) = (M ++ [32, 91]) ++ spansFrom 0 g) := hid (by have := HN.out; rw [drop_cons hxj] at this; simpa [spansFrom, sepL, hj0] using this)
            have hj1 : (0 : Int) < j := by omega
            clear hxj hyq hlj
            go_wp2_with fail
            rw [show (bs N ++ ⟨#[44]⟩ : ByteArray) = bs (N ++ [44]) from bs_app N [44]]
            have hn : (bs (N ++ [44])).size ≤ 1000000000100 := by rw [bs_size]; first | exact hNl' | (simp; omega)
            have hn1 : (bs (N ++ [44]) ++ bs (Lib.itoa x.lo)).size ≤ 1000000000200 := by rw [ByteArray.size_append]; omega
            have hn2 : (bs (N ++ [44]) ++ bs (Lib.itoa x.lo) ++ ⟨#[46, 46]⟩ : ByteArray).size ≤ 1000000000300 := by rw [ByteArray.size_append]; have : (⟨#[46, 46]⟩ : ByteArray).size = 2 := rfl; omega
            have h46 : (⟨#[46, 46]⟩ : ByteArray).size = 2 := rfl
            obtain ⟨ι, W, ⟨i0, hi0⟩, hW, Wsur⟩ := ext_class wq.drew
            have hne : Nonempty ι := ⟨i0⟩
            have q1 : ∀ i, (W i).cell? ⟨b1, o1 + k, none⟩ = some (.slice (some ⟨b2, o2, none⟩) g.length c3) := fun i => ((hW i).cell (p := ⟨b1, o1 + k, none⟩) (by exact hb1q)).trans hcg
            have q2 : ∀ i, (W i).cell? ⟨b2, o2 + j * 2, none⟩ = some (.int .i64 x.lo) := fun i => ((hW i).cell (p := ⟨b2, o2 + j * 2, none⟩) (by exact hb2)).trans c1
            have q3 : ∀ i, (W i).cell? ⟨b2, o2 + j * 2 + 1, none⟩ = some (.int .i64 x.hi) := fun i => ((hW i).cell (p := ⟨b2, o2 + j * 2 + 1, none⟩) (by exact hb2)).trans c2
            have WS := hid Wsur; clear Wsur
            have HW := hid hW; clear hW
            have Hi0 := hid hi0; clear hi0
            clear c1 c2 hcg
            refine region_anyL (S := fun w' => ∃ i, w' = W i) (last := 23) (by kernel_rfl) ?_
            refine anyL_seg 0 9 (by kernel_rfl) (fun _ _ _ _ _ h => h) ⟨i0, Hi0.out.symm⟩ (f := 14) rfl (by kernel_rfl) (by kernel_rfl) ?_
            simp only [List.drop_zero, List.take_succ_cons, List.take_zero]
            repeat go_big_quiet_step (fail)
            refine wpQuiet_nil ?_
            refine anyL_seg 12 8 (by kernel_rfl) (fun _ _ _ _ _ h => h) ⟨i0, Hi0.out.symm⟩ (f := 6) rfl (by kernel_rfl) (by kernel_rfl) ?_
            simp only [List.drop_succ_cons, List.drop_zero, List.take_succ_cons, List.take_zero]
            repeat go_big_quiet_step (fail)
            refine wpQuiet_nil ?_
            refine anyL_act (i := 9) (by kernel_rfl) rfl rfl ?_
            intro K hK
            go_wp2_with fail
            refine (Number_calls x.lo hI1 _).mono ?_
            rintro e w5 ⟨rfl, hb5⟩
            go_wp2_with fail
            have hS5 : ∃ i, w5 = W i := WS.out i0 _ (by rw [Hi0.out]; exact hb5)
            refine hK.out _ _ (fun _ => hS5) ?_
            clear hK K
            refine anyL_seg 10 2 (by kernel_rfl) (fun _ _ _ _ _ h => h) hS5 (f := 3) rfl (by kernel_rfl) (by kernel_rfl) ?_
            simp only [List.drop_succ_cons, List.drop_zero, List.take_succ_cons, List.take_zero]
            repeat go_big_quiet_step (fail)
            refine wpQuiet_nil ?_
            refine anyL_act (i := 20) (by kernel_rfl) rfl rfl ?_
            intro K hK
            go_wp2_with fail
            refine (Number_calls x.hi hI2 _).mono ?_
            rintro e w6 ⟨rfl, hb6⟩
            go_wp2_with fail
            have hb7 := hb5.trans (hb6.mono hb5.size)
            have hS6 : ∃ i, w6 = W i := WS.out i0 _ (by rw [Hi0.out]; exact hb7)
            refine hK.out _ _ (fun _ => hS6) ?_
            clear hK K
            refine anyL_seg 21 2 (by kernel_rfl) (fun _ _ _ _ _ h => h) hS6 (f := 0) rfl (by kernel_rfl) (by kernel_rfl) ?_
            simp only [List.drop_succ_cons, List.drop_zero, List.take_succ_cons, List.take_zero]
            repeat go_big_quiet_step (fail)
            refine wpQuiet_nil ?_
            refine anyL_done (by kernel_rfl) ?_ 0
            go_wp2_with fail
            refine ⟨⟨j + 1, (N ++ [44]) ++ (Lib.itoa x.lo ++ [46, 46] ++ Lib.itoa x.hi), by omega, by go_num, ?_, HN2.out, hBq.trans (((Below.refl wq.heap.size wq).drew.trans hb7).mono hBq.size)⟩, ?_⟩
            · rw [show (⟨#[46, 46]⟩ : ByteArray) = bs [46, 46] from rfl, bs_app, bs_app, bs_app]; simp only [List.append_assoc]
            · simp [intOf]; omega
        · have hje : j = g.length := by omega
          have hN2 : N = (M ++ [32, 91]) ++ spansFrom 0 g := by have := HN.out; rw [hje, List.drop_length] at this; simpa [spansFrom] using this
          have HNE := hid hN2; clear hN2
          have hlj' : ¬ (j : Int) < g.length := by omega
          clear HN hyq
          go_wp2_with fail
          refine ⟨⟨⟨_, rfl⟩, k + 1, N ++ [93], by omega, by go_num, by rw [← bs_app]; rfl, by rw [HNE.out]; exact HM2.out, hB.trans (hBq.mono hB.size)⟩, ?_⟩
          simp [intOf]; omega
    · have hke : k = gs.length := by omega
      have hM2 : M = guardsL gs := by have := HM.out; rw [hke, List.drop_length] at this; simpa [guardsL] using this
      have HME := hid hM2; clear hM2
      have hlt' : ¬ (k : Int) < gs.length := by omega
      clear HM hgr
      go_wp2_with fail
      rw [show (bs M ++ ⟨#[32, 45, 62]⟩ : ByteArray) = bs (M ++ [32, 45, 62]) from bs_app M [32, 45, 62]]
      have hmt : (M ++ [32, 45, 62] ++ termsL ts).length ≤ 1000000000000 := by rw [HME.out]; simp only [nl, bodyL, List.length_append, List.length_cons, List.length_nil] at hbd ⊢; omega
      go_loopw [5, 8, 9, 10, 11] (fun vs vi v9 v10 v11 wq => (∃ z, z = v9) ∧ (∃ z, z = v10) ∧ (∃ z, z = v11) ∧ ∃ (k : Nat) (N : By), k ≤ ts.length ∧ vi = .int .i64 k ∧ vs = .string (bs N) ∧ N ++ termsL (ts.drop k) = (M ++ [32, 45, 62]) ++ termsL ts ∧ Below w.heap.size w wq) (fun _ vi _ _ _ _ => ts.length - (intOf vi).toNat)
      case atStart => exact ⟨⟨_, rfl⟩, ⟨_, rfl⟩, ⟨_, rfl⟩, 0, M ++ [32, 45, 62], Nat.zero_le _, rfl, rfl, rfl, hB⟩
      case round =>
        obtain ⟨⟨z9, rfl⟩, ⟨z10, rfl⟩, ⟨z11, rfl⟩, k, N, hk, rfl, rfl, hN, hB⟩ := hrel
        obtain ⟨wp, hwp⟩ : ∃ wp, wp = wr := ⟨_, rfl⟩
        subst hwp
        have hNl : N.length ≤ 1000000000000 := by have := congrArg List.length hN; simp only [List.length_append] at this hmt; omega
        have HN := hid hN; clear hN
        have hns : (bs N).size ≤ 1000000000000 := by rw [bs_size]; exact hNl
        have htr := (listR termR).later ht hB
        by_cases hlt : k < ts.length
        · obtain ⟨x, hxk⟩ := at_lt hlt
          obtain ⟨b1, o1, y1, rfl, hb1, z0, z1, z2, z3, z4, z5, hI, hy⟩ := term_at htr hxk
          obtain ⟨A3, c3, rfl, hc3, hm3⟩ := list_form hy
          unfold maxLen at hm3
          have hlt' : (k : Int) < ts.length := by omega
          have hx5 : allI [x.base, x.drop, x.take, x.up, x.sum] := by intro y hy; simp at hy; rcases hy with rfl | rfl | rfl | rfl | rfl <;> first | exact hI.1 | exact hI.2.1 | exact hI.2.2.1 | exact hI.2.2.2.1 | exact hI.2.2.2.2
          have hn5 := nums_le hx5 0
          have HN2 : Hid ((((N ++ [32, 40]) ++ numsFrom 0 [x.base, x.drop, x.take, x.up, x.sum]) ++ partsL x.parts) ++ [41] ++ termsL (ts.drop (k + 1)) = (M ++ [32, 45, 62]) ++ termsL ts) := hid (by have := HN.out; rw [drop_cons hxk] at this; simpa only [termsL, List.append_assoc] using this)
          have h40 : (⟨#[32, 40]⟩ : ByteArray).size = 2 := rfl
          have hns2 : (bs N ++ ⟨#[32, 40]⟩ : ByteArray).size ≤ 1000000000002 := by rw [ByteArray.size_append, h40]; omega
          have hsn : (bs (numsFrom 0 [x.base, x.drop, x.take, x.up, x.sum])).size ≤ 1000 := by rw [bs_size]; simp only [List.length_cons, List.length_nil] at hn5; omega
          have HNU := hid (rnumbers_calls (wp.heap.size + 1) [x.base, x.drop, x.take, x.up, x.sum] 5 hx5 (by simp) ((wp.alloc (.cells #[.int .i64 x.base, .int .i64 x.drop, .int .i64 x.take, .int .i64 x.up, .int .i64 x.sum, .slice A3 x.parts.length c3] 76)).alloc (.cells #[.int .i64 x.base, .int .i64 x.drop, .int .i64 x.take, .int .i64 x.up, .int .i64 x.sum] 3)) (by
            have := heap_alloc_new (wp.alloc (.cells #[.int .i64 x.base, .int .i64 x.drop, .int .i64 x.take, .int .i64 x.up, .int .i64 x.sum, .slice A3 x.parts.length c3] 76)) (.cells #[.int .i64 x.base, .int .i64 x.drop, .int .i64 x.take, .int .i64 x.up, .int .i64 x.sum] 3)
            simpa using this))
          clear hxk hlt htr hn5
          go_wp2_with fail
          refine HNU.out.mono ?_
          rintro e w5 ⟨rfl, hb5⟩
          clear HNU
          go_wp2_with fail
          have hT0 : ((wp.alloc (.cells #[.int .i64 x.base, .int .i64 x.drop, .int .i64 x.take, .int .i64 x.up, .int .i64 x.sum, .slice A3 x.parts.length c3] 76)).alloc (.cells #[.int .i64 x.base, .int .i64 x.drop, .int .i64 x.take, .int .i64 x.up, .int .i64 x.sum] 3)).heap[wp.heap.size]? = some (.cells #[.int .i64 x.base, .int .i64 x.drop, .int .i64 x.take, .int .i64 x.up, .int .i64 x.sum, .slice A3 x.parts.length c3] 76 (0, 0)) := (Below.heap_alloc _ _ _ (by simp)).trans (heap_alloc_new _ _)
          have hT1 : wp.heap.size < ((wp.alloc (.cells #[.int .i64 x.base, .int .i64 x.drop, .int .i64 x.take, .int .i64 x.up, .int .i64 x.sum, .slice A3 x.parts.length c3] 76)).alloc (.cells #[.int .i64 x.base, .int .i64 x.drop, .int .i64 x.take, .int .i64 x.up, .int .i64 x.sum] 3)).heap.size := by simp; omega
          have hbp : Below wp.heap.size wp ((wp.alloc (.cells #[.int .i64 x.base, .int .i64 x.drop, .int .i64 x.take, .int .i64 x.up, .int .i64 x.sum, .slice A3 x.parts.length c3] 76)).alloc (.cells #[.int .i64 x.base, .int .i64 x.drop, .int .i64 x.take, .int .i64 x.up, .int .i64 x.sum] 3)) := ((Below.refl _ _).alloc (Nat.le_refl _) _).alloc (by simp) _
          have hT := (hb5.block _ hT1).trans hT0
          have hT2 : wp.heap.size < w5.heap.size := Nat.lt_of_lt_of_le hT1 hb5.size
          have hb05 := hbp.trans (hb5.mono hbp.size)
          have hy5 := (listR partR).later hy hb05
          clear hT0 hT1 hbp hb5 z0 z1 z2 z3 z4 z5
          have hpt : (((N ++ [32, 40]) ++ numsFrom 0 [x.base, x.drop, x.take, x.up, x.sum]) ++ partsL x.parts).length ≤ 1000000000000 := by have := congrArg List.length HN2.out; simp only [List.length_append] at this hmt ⊢; omega
          rw [show (bs N ++ ⟨#[32, 40]⟩ ++ bs (numsFrom 0 [x.base, x.drop, x.take, x.up, x.sum]) : ByteArray) = bs ((N ++ [32, 40]) ++ numsFrom 0 [x.base, x.drop, x.take, x.up, x.sum]) from by rw [← bs_app, ← bs_app]; rfl]
          go_loopw [5, 10, 11] (fun vs vj v11 wq => (∃ z, z = v11) ∧ ∃ (j : Nat) (Q : By), j ≤ x.parts.length ∧ vj = .int .i64 j ∧ vs = .string (bs Q) ∧ Q ++ partsL (x.parts.drop j) = ((N ++ [32, 40]) ++ numsFrom 0 [x.base, x.drop, x.take, x.up, x.sum]) ++ partsL x.parts ∧ Below w5.heap.size w5 wq) (fun _ vj _ _ => x.parts.length - (intOf vj).toNat)
          case atStart => exact ⟨⟨_, rfl⟩, 0, _, Nat.zero_le _, rfl, rfl, rfl, Below.refl _ _⟩
          case round =>
            obtain ⟨⟨zz, rfl⟩, j, Q, hj, rfl, rfl, hQ, hBq⟩ := hrel
            obtain ⟨wq, hwq⟩ : ∃ wq, wq = wr := ⟨_, rfl⟩
            subst hwq
            have hQl : Q.length ≤ 1000000000000 := by have := congrArg List.length hQ; simp only [List.length_append] at this hpt; omega
            have HQ := hid hQ; clear hQ
            have hqs : (bs Q).size ≤ 1000000000000 := by rw [bs_size]; exact hQl
            have t5 : wq.cell? ⟨wp.heap.size, 5, none⟩ = some (.slice A3 x.parts.length c3) := by rw [Lib.cell_of_heap ((hBq.block _ hT2).trans hT)]; rfl
            have hyq := (listR partR).later hy5 hBq
            by_cases hlj : j < x.parts.length
            · obtain ⟨p, hpj⟩ := at_lt hlj
              obtain ⟨b2, o2, rfl, hb2, p0, p1, p2, p3, hok⟩ := part_at hyq hpj
              have hlj' : (j : Int) < x.parts.length := by omega
              have hx4 : allI [p.at_, p.drop, p.take, p.up] := by intro y hy; simp at hy; rcases hy with rfl | rfl | rfl | rfl <;> first | exact hok.1 | exact hok.2.1 | exact hok.2.2.1 | exact hok.2.2.2
              have hn4 := nums_le hx4 0
              have HQ2 : Hid (((Q ++ [59, 32]) ++ numsFrom 0 [p.at_, p.drop, p.take, p.up]) ++ partsL (x.parts.drop (j + 1)) = ((N ++ [32, 40]) ++ numsFrom 0 [x.base, x.drop, x.take, x.up, x.sum]) ++ partsL x.parts) := hid (by have := HQ.out; rw [drop_cons hpj] at this; simpa only [partsL, List.append_assoc] using this)
              have h59 : (⟨#[59, 32]⟩ : ByteArray).size = 2 := rfl
              have hqs2 : (bs Q ++ ⟨#[59, 32]⟩ : ByteArray).size ≤ 1000000000002 := by rw [ByteArray.size_append, h59]; omega
              have hsn4 : (bs (numsFrom 0 [p.at_, p.drop, p.take, p.up])).size ≤ 1000 := by rw [bs_size]; simp only [List.length_cons, List.length_nil] at hn4; omega
              have HNU := hid (rnumbers_calls (wq.heap.size + 1) [p.at_, p.drop, p.take, p.up] 4 hx4 (by simp) ((wq.alloc (.cells #[.int .i64 p.at_, .int .i64 p.drop, .int .i64 p.take, .int .i64 p.up] 88)).alloc (.cells #[.int .i64 p.at_, .int .i64 p.drop, .int .i64 p.take, .int .i64 p.up] 3)) (by
                have := heap_alloc_new (wq.alloc (.cells #[.int .i64 p.at_, .int .i64 p.drop, .int .i64 p.take, .int .i64 p.up] 88)) (.cells #[.int .i64 p.at_, .int .i64 p.drop, .int .i64 p.take, .int .i64 p.up] 3)
                simpa using this))
              clear hpj hyq hlj hn4 hok
              go_wp2_with fail
              refine HNU.out.mono ?_
              rintro e w6 ⟨rfl, hb6⟩
              clear HNU
              go_wp2_with fail
              go_simp
              have hbp : Below wq.heap.size wq ((wq.alloc (.cells #[.int .i64 p.at_, .int .i64 p.drop, .int .i64 p.take, .int .i64 p.up] 88)).alloc (.cells #[.int .i64 p.at_, .int .i64 p.drop, .int .i64 p.take, .int .i64 p.up] 3)) := ((Below.refl _ _).alloc (Nat.le_refl _) _).alloc (by simp) _
              refine ⟨⟨j + 1, by omega, by omega, (Q ++ [59, 32]) ++ numsFrom 0 [p.at_, p.drop, p.take, p.up], by rw [← bs_app, ← bs_app]; rfl, HQ2.out.trans (by simp), hBq.trans ((hbp.trans (hb6.mono hbp.size)).mono hBq.size)⟩, ?_⟩
              simp [intOf]; omega
            · have hje : j = x.parts.length := by omega
              have hQ2 : Q = ((N ++ [32, 40]) ++ numsFrom 0 [x.base, x.drop, x.take, x.up, x.sum]) ++ partsL x.parts := by have := HQ.out; rw [hje, List.drop_length] at this; simpa only [partsL, List.append_nil] using this
              have HQE := hid hQ2; clear hQ2
              have hlj' : ¬ (j : Int) < x.parts.length := by omega
              have h41 : (⟨#[41]⟩ : ByteArray).size = 1 := rfl
              clear HQ hyq
              go_wp2_with fail
              refine ⟨⟨⟨_, rfl⟩, ⟨_, rfl⟩, ⟨_, rfl⟩, k + 1, Q ++ [41], by omega, by go_num, by rw [← bs_app]; rfl, by rw [HQE.out]; exact HN2.out, hB.trans ((hb05.trans (hBq.mono hb05.size)).mono hB.size)⟩, ?_⟩
              simp [intOf]; omega
        · have hke : k = ts.length := by omega
          have hN2 : N = (M ++ [32, 45, 62]) ++ termsL ts := by have := HN.out; rw [hke, List.drop_length] at this; simpa [termsL] using this
          have HNE := hid hN2; clear hN2
          have hlt' : ¬ (k : Int) < ts.length := by omega
          have h10 : (⟨#[10]⟩ : ByteArray).size = 1 := rfl
          clear HN htr
          go_wp2_with fail
          go_ret
          exact ⟨congrArg (fun s => Ending.returned (.string s)) (by rw [show (⟨#[10]⟩ : ByteArray) = bs [10] from rfl, bs_app, HNE.out, HME.out]; rfl), hB⟩
end Go.Proofs.YtcdnkmefcldfmaaDoor
