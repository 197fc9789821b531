/-
  The writer's body: guards and terms.
-/
import Derived.Test.YtcdnkmefcldfmaaDoorPgPut
import Derived.Test.YtcdnkmefcldfmaaDoorPgReg
import Derived.Lib.Hide
namespace Go.Proofs.YtcdnkmefcldfmaaDoor
open Go.RowKit Go.Um

set_option maxHeartbeats 4000000 in
set_option maxRecDepth 100000 in
theorem body_calls (B b : Nat) (L : By) (gs : List (List Span)) (ts : List Term) (v u : Value) (w : World) (h : Wr B b L w) (hv : Vars B w) (hgs : (listR spansR).rel w (upto B) [v] gs) (hts : (listR termR).rel w (upto B) [u] ts) :
    Calls Tryd.prog 20 #[.pointer (some ⟨b, 0, none⟩), v, u] w fun e w' => e = .returned (.tuple #[]) ∧ Wr B b (L ++ nl (bodyL gs ts)) w' ∧ Fr B b w w' := by
  have HV := hid hv; clear hv
  obtain ⟨A1, cp1, rfl, hcp1, hm1⟩ := list_form hgs
  obtain ⟨A2, cp2, rfl, hcp2, hm2⟩ := list_form hts
  unfold maxLen at hm1 hm2
  go_enter Tryd.func20, Tryd.ntmps20
  go_wp2_with fail
  go_loopw [16] (fun vi wr => ∃ (k : Nat) (M : By), k ≤ gs.length ∧ vi = .int .i64 k ∧ Wr B b M wr ∧ M ++ guardsL (gs.drop k) = L ++ guardsL gs ∧ Fr B b w wr) (fun vi _ => gs.length - (intOf vi).toNat)
  case atStart => exact ⟨0, L, Nat.zero_le _, rfl, h, rfl, Fr.refl _ _ _⟩
  case round =>
    obtain ⟨wo, hwo⟩ : ∃ wo, wo = wr := ⟨_, rfl⟩
    subst hwo
    obtain ⟨k, M, hk, rfl, hw, hM, hf⟩ := hrel
    have HM := hid hM; clear hM
    have HVR := hid (HV.out.on hf.below)
    have hgr := (listR spansR).mono (below_cells hf.below) (fun _ h => h) hgs
    by_cases hlt : k < gs.length
    · obtain ⟨g, hgk⟩ := at_lt hlt
      obtain ⟨b1, o1, y, rfl, hb1, hy, hcy⟩ := list_at1 rfl hgr hgk
      obtain ⟨A3, cp3, rfl, hcp3, hm3⟩ := list_form hy
      unfold maxLen at hm3
      have hlt' : (k : Int) < gs.length := by omega
      have hcy' : wo.cell? ⟨b1, o1 + k, none⟩ = some (.slice A3 g.length cp3) := hcy
      have HF := hid (full_calls B b M wo hw)
      have HM2 : Hid ((((M ++ [32, 91]) ++ spansFrom 0 g) ++ [93]) ++ guardsL (gs.drop (k + 1)) = L ++ guardsL gs) := hid (by have := HM.out; rw [drop_cons hgk] at this; simpa [guardsL] using this)
      clear hgk hgr hcy
      by_cases hfull : 65536 < M.length
      · have e1 : decide (65536 < M.length) = true := by simp [hfull]
        rw [e1] at HF
        have HE : Hid (Wr B b (L ++ nl (bodyL gs ts)) wo) := hid (by
          have h1 := hw.more hfull (guardsL (gs.drop k) ++ [32, 45, 62] ++ termsL ts ++ [10])
          have e2 : M ++ (guardsL (gs.drop k) ++ [32, 45, 62] ++ termsL ts ++ [10]) = L ++ nl (bodyL gs ts) := by
            rw [← List.append_assoc, ← List.append_assoc, ← List.append_assoc, HM.out]
            simp [nl, bodyL]
          rwa [e2] at h1)
        clear e1 hfull HM HM2
        go_wp2_with fail
        refine HF.out.mono ?_
        rintro e w1 ⟨rfl, rfl⟩
        go_wp2_with fail
        refine bodyPost_ret (results_none rfl _ _ _) rfl ?_
        exact ⟨rfl, HE.out, hf⟩
      · have e1 : decide (65536 < M.length) = false := by simp [hfull]
        rw [e1] at HF
        clear e1 hfull HM
        go_wp2_with fail
        refine HF.out.mono ?_
        rintro e w1 ⟨rfl, rfl⟩
        go_wp2_with fail
        refine (put_calls B b M ⟨#[32, 91]⟩ (by decide) _ hw).mono ?_
        rintro e w2 ⟨rfl, hw2, hf2⟩
        have hy2 := spansR.mono (below_cells hf2.below) (fun _ h => h) hy
        have HV2 := hid (HVR.out.on hf2.below)
        clear hy hw HF
        go_wp2_with fail
        go_loopw [26] (fun vj wq => ∃ (j : Nat) (N : By), j ≤ g.length ∧ vj = .int .i64 j ∧ Wr B b N wq ∧ N ++ spansFrom j (g.drop j) = (M ++ [32, 91]) ++ spansFrom 0 g ∧ Fr B b w2 wq) (fun vj _ => g.length - (intOf vj).toNat)
        case atStart => exact ⟨0, _, Nat.zero_le _, rfl, hw2, rfl, Fr.refl _ _ _⟩
        case round =>
          obtain ⟨wq, hwq'⟩ : ∃ wq, wq = wr := ⟨_, rfl⟩
          subst hwq'
          obtain ⟨j, N, hj, rfl, hwq, hN, hfq⟩ := hrel
          have HN := hid hN; clear hN
          have HVQ := hid (HV2.out.on hfq.below)
          have hgq := spansR.mono (below_cells hfq.below) (fun _ h => h) hy2
          clear HV2
          by_cases hlj : j < g.length
          · obtain ⟨s, hs⟩ := at_lt hlj
            obtain ⟨b2, o2, rfl, hb2, c1, c2, hI1, hI2⟩ := span_at hgq hs
            have hL1 := itoa_le hI1
            have hL2 := itoa_le hI2
            have hlj' : (j : Int) < g.length := by omega
            have hwA : Wr B b N (wq.alloc (.cells #[.int .i64 s.lo, .int .i64 s.hi] 86)) := hwq.later ((Below.refl _ _).alloc (Nat.le_refl _) _)
            have hfa0 : Fr B b wq (wq.alloc (.cells #[.int .i64 s.lo, .int .i64 s.hi] 86)) := Fr.of_below ((Below.refl _ _).alloc (Nat.le_refl _) _) hwq.le
            have hpA : (wq.alloc (.cells #[.int .i64 s.lo, .int .i64 s.hi] 86)).heap[wq.heap.size]? = some (.cells #[.int .i64 s.lo, .int .i64 s.hi] 86 (0, 0)) := heap_alloc_new _ _
            have hpb : wq.heap.size ≠ b := by have := hwq.base.2; omega
            have HV2 := hid (HVQ.out.on hfa0.below)
            by_cases hj0 : j = 0
            · subst hj0
              have HN2 : Hid ((N ++ (Lib.itoa s.lo ++ [46, 46] ++ Lib.itoa s.hi)) ++ spansFrom 1 (g.drop 1) = (M ++ [32, 91]) ++ spansFrom 0 g) := hid (by have := HN.out; rw [drop_cons hs] at this; simpa [spansFrom, sepL] using this)
              clear hs hgq hlj
              simp only [Nat.zero_mul, Nat.add_zero] at c1 c2
              have hwR := hwA
              have HVR := HV2
              have hpo := hpA
              have hp : wq.heap.size < (wq.alloc (.cells #[.int .i64 s.lo, .int .i64 s.hi] 86)).heap.size := by simp
              have hfa := hfa0
              clear hwA hpA hfa0
              have HPB := hid hpb; clear hpb
              have HPO := hid hpo; clear hpo
              replace hwR := hwR.later (Below.drew (Below.refl _ _))
              replace HVR := hid (HVR.out.on (Below.drew (Below.refl B _)))
              replace hfa := hfa.trans (Fr.of_below (b := b) (Below.drew (Below.refl _ _)) (by have := hwR.le; exact this))
              go_wp2_with fail
              obtain ⟨ι, W, ⟨i0, hi0⟩, hW, Wsur⟩ := held_class ((wq.alloc (.cells #[.int .i64 s.lo, .int .i64 s.hi] 86))).drew (fun g => g = wq.heap.size)
              have hne : Nonempty ι := ⟨i0⟩
              have g1 : ∀ i, (W i).cell? ⟨wq.heap.size, 0, none⟩ = some (.int .i64 s.lo) := fun i => by rw [Lib.cell_of_heap ((hW i _ rfl).trans HPO.out)]; rfl
              have g2 : ∀ i, (W i).cell? ⟨wq.heap.size, 1, none⟩ = some (.int .i64 s.hi) := fun i => by rw [Lib.cell_of_heap ((hW i _ rfl).trans HPO.out)]; rfl
              have WS := hid Wsur; clear Wsur
              have HW := hid hW; clear hW
              have Hi0 := hid hi0; clear hi0
              refine region_anyL (S := fun w' => ∃ i, w' = W i) (last := 10) (by kernel_rfl) ?_
              refine anyL_seg 0 3 (by kernel_rfl) (fun _ _ _ _ _ h => h) ⟨i0, Hi0.out.symm⟩ (f := 7) rfl (by kernel_rfl) (by kernel_rfl) ?_
              simp only [List.drop_zero, List.take_succ_cons, List.take_zero]
              repeat go_big_quiet_step (fail)
              refine wpQuiet_nil ?_
              refine anyL_seg 5 2 (by kernel_rfl) (fun _ _ _ _ _ h => h) ⟨i0, Hi0.out.symm⟩ (f := 5) rfl (by kernel_rfl) (by kernel_rfl) ?_
              simp only [List.drop_succ_cons, List.drop_zero, List.take_succ_cons, List.take_zero]
              repeat go_big_quiet_step (fail)
              refine wpQuiet_nil ?_
              refine anyL_act (i := 3) (by kernel_rfl) rfl rfl ?_
              · intro K hK
                go_wp2_with fail
                refine (Itoa_calls s.lo hI1 _ HVR.out).mono ?_
                rintro e w5 ⟨rfl, hb5⟩
                go_wp2_with fail
                have HP5 := hid ((hb5.block _ hp).trans HPO.out)
                have hS1 : ∃ i, w5 = W i := WS.out w5 (fun g hg => by subst hg; exact HP5.out.trans HPO.out.symm)
                refine hK.out _ _ (fun _ => hS1) ?_
                clear hK K
                refine anyL_seg 4 1 (by kernel_rfl) (fun _ _ _ _ _ h => h) hS1 (f := 3) rfl (by kernel_rfl) (by kernel_rfl) ?_
                simp only [List.drop_succ_cons, List.drop_zero, List.take_succ_cons, List.take_zero]
                repeat go_big_quiet_step (fail)
                refine wpQuiet_nil ?_
                refine anyL_act (i := 7) (by kernel_rfl) rfl rfl ?_
                intro K hK
                have hf5 : Fr B b ((wq.alloc (.cells #[.int .i64 s.lo, .int .i64 s.hi] 86))).drew w5 := Fr.of_below hb5 hwR.le
                go_wp2_with fail
                refine (Itoa_calls s.hi hI2 _ (HVR.out.on hf5.below)).mono ?_
                rintro e w6 ⟨rfl, hb6⟩
                go_wp2_with fail
                have hw6 : Wr B b N w6 := (hwR.later hb5).later hb6
                have hfR6 : Fr B b ((wq.alloc (.cells #[.int .i64 s.lo, .int .i64 s.hi] 86))).drew w6 := hf5.trans (Fr.of_below hb6 (hwR.later hb5).le)
                have HP6 := hid ((hb6.block _ (Nat.lt_of_lt_of_le hp hb5.size)).trans HP5.out)
                have hS2 : ∃ i, w6 = W i := WS.out w6 (fun g hg => by subst hg; exact HP6.out.trans HPO.out.symm)
                refine hK.out _ _ (fun _ => hS2) ?_
                clear hK K hf5 hb5 hb6
                refine anyL_seg 8 1 (by kernel_rfl) (fun _ _ _ _ _ h => h) hS2 (f := 1) rfl (by kernel_rfl) (by kernel_rfl) ?_
                simp only [List.drop_succ_cons, List.drop_zero, List.take_succ_cons, List.take_zero]
                repeat go_big_quiet_step (fail)
                refine wpQuiet_nil ?_
                refine anyL_act (i := 9) (by kernel_rfl) rfl rfl ?_
                intro K hK
                go_wp2_with fail
                refine (put_calls B b N _ (by have e1 := hL1; have e2 := hL2; simp [ByteArray.data_append]; omega) _ hw6).mono ?_
                rintro e w7 ⟨rfl, hw7, hf7⟩
                go_wp2_with fail
                have hS3 : ∃ i, w7 = W i := WS.out w7 (fun g hg => by subst hg; exact (hf7.kept _ _ HP6.out (by simp; exact HPB.out) (by intro c fz e; cases e)).trans HPO.out.symm)
                refine hK.out _ _ (fun _ => hS3) ?_
                clear hK K
                refine anyL_done (by kernel_rfl) ?_ _
                have hw8 : Wr B b (N ++ (Lib.itoa s.lo ++ [46, 46] ++ Lib.itoa s.hi)) w7 := by simpa [ByteArray.data_append] using hw7
                have hf8 := hfR6.trans hf7
                clear hS3 hS2 hS1 g1 g2 WS HW Hi0 hne i0 W ι hw7 hf7 hw6 hfR6 HP5 HP6 HPO
                go_wp2_with fail
                refine ⟨⟨1, _, by omega, rfl, hw8, HN2.out, hfq.trans (hfa.trans hf8)⟩, ?_⟩
                simp [intOf]; omega
            · have HN2 : Hid (((N ++ [44]) ++ (Lib.itoa s.lo ++ [46, 46] ++ Lib.itoa s.hi)) ++ spansFrom (j + 1) (g.drop (j + 1)) = (M ++ [32, 91]) ++ spansFrom 0 g) := hid (by have := HN.out; rw [drop_cons hs] at this; simpa [spansFrom, sepL, hj0] using this)
              have hj1 : (0 : Int) < j := by omega
              have HPA := hid hpA
              clear hs hgq hlj hpA
              go_wp2_with fail
              refine (put_calls B b N ⟨#[44]⟩ (by decide) _ hwA).mono ?_
              rintro e w4 ⟨rfl, hwR, hf4⟩
              have hpo := hf4.kept _ _ HPA.out (by simp; exact hpb) (by intro c fz e; cases e)
              have HVR := hid (HV2.out.on hf4.below)
              have hp : wq.heap.size < w4.heap.size := Nat.lt_of_lt_of_le (by simp) hf4.below.size
              have hfa := hfa0.trans hf4
              clear hwA HPA hfa0 hf4
              have HPB := hid hpb; clear hpb
              have HPO := hid hpo; clear hpo
              replace hwR := hwR.later (Below.drew (Below.refl _ _))
              replace HVR := hid (HVR.out.on (Below.drew (Below.refl B _)))
              replace hfa := hfa.trans (Fr.of_below (b := b) (Below.drew (Below.refl _ _)) (by have := hwR.le; exact this))
              go_wp2_with fail
              obtain ⟨ι, W, ⟨i0, hi0⟩, hW, Wsur⟩ := held_class (w4).drew (fun g => g = wq.heap.size)
              have hne : Nonempty ι := ⟨i0⟩
              have g1 : ∀ i, (W i).cell? ⟨wq.heap.size, 0, none⟩ = some (.int .i64 s.lo) := fun i => by rw [Lib.cell_of_heap ((hW i _ rfl).trans HPO.out)]; rfl
              have g2 : ∀ i, (W i).cell? ⟨wq.heap.size, 1, none⟩ = some (.int .i64 s.hi) := fun i => by rw [Lib.cell_of_heap ((hW i _ rfl).trans HPO.out)]; rfl
              have WS := hid Wsur; clear Wsur
              have HW := hid hW; clear hW
              have Hi0 := hid hi0; clear hi0
              refine region_anyL (S := fun w' => ∃ i, w' = W i) (last := 10) (by kernel_rfl) ?_
              refine anyL_seg 0 3 (by kernel_rfl) (fun _ _ _ _ _ h => h) ⟨i0, Hi0.out.symm⟩ (f := 7) rfl (by kernel_rfl) (by kernel_rfl) ?_
              simp only [List.drop_zero, List.take_succ_cons, List.take_zero]
              repeat go_big_quiet_step (fail)
              refine wpQuiet_nil ?_
              refine anyL_seg 5 2 (by kernel_rfl) (fun _ _ _ _ _ h => h) ⟨i0, Hi0.out.symm⟩ (f := 5) rfl (by kernel_rfl) (by kernel_rfl) ?_
              simp only [List.drop_succ_cons, List.drop_zero, List.take_succ_cons, List.take_zero]
              repeat go_big_quiet_step (fail)
              refine wpQuiet_nil ?_
              refine anyL_act (i := 3) (by kernel_rfl) rfl rfl ?_
              · intro K hK
                go_wp2_with fail
                refine (Itoa_calls s.lo hI1 _ HVR.out).mono ?_
                rintro e w5 ⟨rfl, hb5⟩
                go_wp2_with fail
                have HP5 := hid ((hb5.block _ hp).trans HPO.out)
                have hS1 : ∃ i, w5 = W i := WS.out w5 (fun g hg => by subst hg; exact HP5.out.trans HPO.out.symm)
                refine hK.out _ _ (fun _ => hS1) ?_
                clear hK K
                refine anyL_seg 4 1 (by kernel_rfl) (fun _ _ _ _ _ h => h) hS1 (f := 3) rfl (by kernel_rfl) (by kernel_rfl) ?_
                simp only [List.drop_succ_cons, List.drop_zero, List.take_succ_cons, List.take_zero]
                repeat go_big_quiet_step (fail)
                refine wpQuiet_nil ?_
                refine anyL_act (i := 7) (by kernel_rfl) rfl rfl ?_
                intro K hK
                have hf5 : Fr B b (w4).drew w5 := Fr.of_below hb5 hwR.le
                go_wp2_with fail
                refine (Itoa_calls s.hi hI2 _ (HVR.out.on hf5.below)).mono ?_
                rintro e w6 ⟨rfl, hb6⟩
                go_wp2_with fail
                have hw6 : Wr B b (N ++ [44]) w6 := (hwR.later hb5).later hb6
                have hfR6 : Fr B b (w4).drew w6 := hf5.trans (Fr.of_below hb6 (hwR.later hb5).le)
                have HP6 := hid ((hb6.block _ (Nat.lt_of_lt_of_le hp hb5.size)).trans HP5.out)
                have hS2 : ∃ i, w6 = W i := WS.out w6 (fun g hg => by subst hg; exact HP6.out.trans HPO.out.symm)
                refine hK.out _ _ (fun _ => hS2) ?_
                clear hK K hf5 hb5 hb6
                refine anyL_seg 8 1 (by kernel_rfl) (fun _ _ _ _ _ h => h) hS2 (f := 1) rfl (by kernel_rfl) (by kernel_rfl) ?_
                simp only [List.drop_succ_cons, List.drop_zero, List.take_succ_cons, List.take_zero]
                repeat go_big_quiet_step (fail)
                refine wpQuiet_nil ?_
                refine anyL_act (i := 9) (by kernel_rfl) rfl rfl ?_
                intro K hK
                go_wp2_with fail
                refine (put_calls B b (N ++ [44]) _ (by have e1 := hL1; have e2 := hL2; simp [ByteArray.data_append]; omega) _ hw6).mono ?_
                rintro e w7 ⟨rfl, hw7, hf7⟩
                go_wp2_with fail
                have hS3 : ∃ i, w7 = W i := WS.out w7 (fun g hg => by subst hg; exact (hf7.kept _ _ HP6.out (by simp; exact HPB.out) (by intro c fz e; cases e)).trans HPO.out.symm)
                refine hK.out _ _ (fun _ => hS3) ?_
                clear hK K
                refine anyL_done (by kernel_rfl) ?_ _
                have hw8 : Wr B b ((N ++ [44]) ++ (Lib.itoa s.lo ++ [46, 46] ++ Lib.itoa s.hi)) w7 := by simpa [ByteArray.data_append] using hw7
                have hf8 := hfR6.trans hf7
                clear hS3 hS2 hS1 g1 g2 WS HW Hi0 hne i0 W ι hw7 hf7 hw6 hfR6 HP5 HP6 HPO
                go_wp2_with fail
                refine ⟨⟨j + 1, _, by omega, by go_num, hw8, HN2.out, hfq.trans (hfa.trans hf8)⟩, ?_⟩
                simp [intOf]; omega
          · have hje : j = g.length := by omega
            have hN2 : N = (M ++ [32, 91]) ++ spansFrom 0 g := by have := HN.out; rw [hje, List.drop_length] at this; simpa [spansFrom] using this
            subst hN2
            subst hje
            clear HN hgq
            go_wp2_with fail
            refine (put_calls B b _ ⟨#[93]⟩ (by decide) _ hwq).mono ?_
            rintro e w3 ⟨rfl, hw3, hf3⟩
            go_wp2_with fail
            refine ⟨⟨k + 1, _, by omega, by go_num, hw3, HM2.out, hf.trans (hf2.trans (hfq.trans hf3))⟩, ?_⟩
            simp [intOf]; omega
    · have hke : k = gs.length := by omega
      have hM2 : M = L ++ guardsL gs := by have := HM.out; rw [hke, List.drop_length] at this; simpa [guardsL] using this
      subst hM2
      subst hke
      clear HM hgr
      go_wp2_with fail
      refine (put_calls B b _ ⟨#[32, 45, 62]⟩ (by decide) _ hw).mono ?_
      rintro e w0 ⟨rfl, hw0, hf0⟩
      have HV0 := hid (HVR.out.on hf0.below)
      have hfw0 := hf.trans hf0
      have hts0 := (listR termR).mono (below_cells hfw0.below) (fun _ h => h) hts
      clear hw hf HVR hts hf0 HV
      go_wp2_with fail
      go_loopw [53] (fun vi wr => ∃ (k : Nat) (M : By), k ≤ ts.length ∧ vi = .int .i64 k ∧ Wr B b M wr ∧ M ++ termsL (ts.drop k) = (L ++ guardsL gs ++ [32, 45, 62]) ++ termsL ts ∧ Fr B b w0 wr) (fun vi _ => ts.length - (intOf vi).toNat)
      case atStart => exact ⟨0, _, Nat.zero_le _, rfl, hw0, rfl, Fr.refl _ _ _⟩
      case round =>
        obtain ⟨wo, hwo⟩ : ∃ wo, wo = wr := ⟨_, rfl⟩
        subst hwo
        obtain ⟨k, M, hk, rfl, hw, hM, hf⟩ := hrel
        have HM := hid hM; clear hM
        have HVR := hid (HV0.out.on hf.below)
        have htr := (listR termR).mono (below_cells hf.below) (fun _ h => h) hts0
        by_cases hlt : k < ts.length
        · obtain ⟨x, hxk⟩ := at_lt hlt
          obtain ⟨b1, o1, y, rfl, hb1, c0, c1, c2, c3, c4, c5, hI, hy⟩ := term_at htr hxk
          obtain ⟨A3, cp3, rfl, hcp3, hm3⟩ := list_form hy
          unfold maxLen at hm3
          have hlt' : (k : Int) < ts.length := by omega
          have hwA : Wr B b M (wo.alloc (.cells #[.int .i64 x.base, .int .i64 x.drop, .int .i64 x.take, .int .i64 x.up, .int .i64 x.sum, .slice A3 x.parts.length cp3] 76)) := hw.later ((Below.refl _ _).alloc (Nat.le_refl _) _)
          have hfA : Fr B b wo (wo.alloc (.cells #[.int .i64 x.base, .int .i64 x.drop, .int .i64 x.take, .int .i64 x.up, .int .i64 x.sum, .slice A3 x.parts.length cp3] 76)) := Fr.of_below ((Below.refl _ _).alloc (Nat.le_refl _) _) hw.le
          have hpA : (wo.alloc (.cells #[.int .i64 x.base, .int .i64 x.drop, .int .i64 x.take, .int .i64 x.up, .int .i64 x.sum, .slice A3 x.parts.length cp3] 76)).heap[wo.heap.size]? = some (.cells #[.int .i64 x.base, .int .i64 x.drop, .int .i64 x.take, .int .i64 x.up, .int .i64 x.sum, .slice A3 x.parts.length cp3] 76 (0, 0)) := heap_alloc_new _ _
          have hpb : wo.heap.size ≠ b := by have := hw.base.2; omega
          have HF := hid (full_calls B b M _ hwA)
          have HPA := hid hpA
          have HM2 : Hid (((((M ++ [32, 40]) ++ numsFrom 0 [x.base, x.drop, x.take, x.up, x.sum]) ++ partsL x.parts) ++ [41]) ++ termsL (ts.drop (k + 1)) = (L ++ guardsL gs ++ [32, 45, 62]) ++ termsL ts) := hid (by have := HM.out; rw [drop_cons hxk] at this; simpa [termsL] using this)
          clear hxk htr hpA
          by_cases hfull : 65536 < M.length
          · have e1 : decide (65536 < M.length) = true := by simp [hfull]
            rw [e1] at HF
            have HE : Hid (Wr B b (L ++ nl (bodyL gs ts)) (wo.alloc (.cells #[.int .i64 x.base, .int .i64 x.drop, .int .i64 x.take, .int .i64 x.up, .int .i64 x.sum, .slice A3 x.parts.length cp3] 76))) := hid (by
              have h1 := hwA.more hfull (termsL (ts.drop k) ++ [10])
              have e2 : M ++ (termsL (ts.drop k) ++ [10]) = L ++ nl (bodyL gs ts) := by
                rw [← List.append_assoc, HM.out]
                simp [nl, bodyL]
              rwa [e2] at h1)
            clear e1 hfull HM HM2
            go_wp2_with fail
            refine HF.out.mono ?_
            rintro e w1 ⟨rfl, rfl⟩
            go_wp2_with fail
            refine bodyPost_ret (results_none rfl _ _ _) rfl ?_
            exact ⟨rfl, HE.out, (hfw0.trans hf).trans hfA⟩
          · have e1 : decide (65536 < M.length) = false := by simp [hfull]
            rw [e1] at HF
            clear e1 hfull HM
            go_wp2_with fail
            refine HF.out.mono ?_
            rintro e w1 ⟨rfl, rfl⟩
            go_wp2_with fail
            refine (put_calls B b M ⟨#[32, 40]⟩ (by decide) _ hwA).mono ?_
            rintro e w2 ⟨rfl, hw2, hf2⟩
            have HP2 := hid (hf2.kept _ _ HPA.out (by simp; exact hpb) (by intro c fz e; cases e))
            have d0 : w2.cell? ⟨wo.heap.size, 0, none⟩ = some (.int .i64 x.base) := by rw [Lib.cell_of_heap HP2.out]; rfl
            have d1 : w2.cell? ⟨wo.heap.size, 1, none⟩ = some (.int .i64 x.drop) := by rw [Lib.cell_of_heap HP2.out]; rfl
            have d2 : w2.cell? ⟨wo.heap.size, 2, none⟩ = some (.int .i64 x.take) := by rw [Lib.cell_of_heap HP2.out]; rfl
            have d3 : w2.cell? ⟨wo.heap.size, 3, none⟩ = some (.int .i64 x.up) := by rw [Lib.cell_of_heap HP2.out]; rfl
            have d4 : w2.cell? ⟨wo.heap.size, 4, none⟩ = some (.int .i64 x.sum) := by rw [Lib.cell_of_heap HP2.out]; rfl
            have hfN : Fr B b w2 (w2.alloc (.cells #[.int .i64 x.base, .int .i64 x.drop, .int .i64 x.take, .int .i64 x.up, .int .i64 x.sum] 3)) := Fr.of_below ((Below.refl _ _).alloc (Nat.le_refl _) _) hw2.le
            have hwN : Wr B b (M ++ [32, 40]) (w2.alloc (.cells #[.int .i64 x.base, .int .i64 x.drop, .int .i64 x.take, .int .i64 x.up, .int .i64 x.sum] 3)) := hw2.later ((Below.refl _ _).alloc (Nat.le_refl _) _)
            have HVN := hid (((HVR.out.on hfA.below).on hf2.below).on hfN.below)
            have hall : allI [x.base, x.drop, x.take, x.up, x.sum] := by
              obtain ⟨i0, i1, i2, i3, i4⟩ := hI
              intro z hz
              simp at hz
              rcases hz with rfl | rfl | rfl | rfl | rfl <;> assumption
            have hgb2 : w2.heap.size ≠ b := by have := hw2.base.2; omega
            have HPN := hid (hfN.kept _ _ HP2.out (by simp; exact hpb) (by intro c fz e; cases e))
            clear c0 c1 c2 c3 c4 c5 HF hwA hw
            go_wp2_with fail
            refine (nums_calls B b (M ++ [32, 40]) _ [x.base, x.drop, x.take, x.up, x.sum] 5 hall (by simp) _ hwN HVN.out (heap_alloc_new _ _) hgb2).mono ?_
            rintro e w4 ⟨rfl, hw4, hf4⟩
            have HP4 := hid (hf4.kept _ _ HPN.out (by simp; exact hpb) (by intro c fz e; cases e))
            have d5 : w4.cell? ⟨wo.heap.size, 5, none⟩ = some (.slice A3 x.parts.length cp3) := by rw [Lib.cell_of_heap HP4.out]; rfl
            have hf04 := (((hf.trans hfA).trans hf2).trans hfN).trans hf4
            have hy4 := (listR partR).mono (below_cells ((((hfA.below).trans hf2.below).trans hfN.below).trans hf4.below)) (fun _ h => h) hy
            have HV4 := hid (HVN.out.on hf4.below)
            clear d0 d1 d2 d3 d4 hfA hf2 hfN hf4 HP2 HPA HPN hwN HVN HVR hy hw2 hall hI
            go_wp2_with fail
            go_loopw [77] (fun vj wq => ∃ (j : Nat) (N : By), j ≤ x.parts.length ∧ vj = .int .i64 j ∧ Wr B b N wq ∧ N ++ partsL (x.parts.drop j) = ((M ++ [32, 40]) ++ numsFrom 0 [x.base, x.drop, x.take, x.up, x.sum]) ++ partsL x.parts ∧ Fr B b w4 wq) (fun vj _ => x.parts.length - (intOf vj).toNat)
            case atStart => exact ⟨0, _, Nat.zero_le _, rfl, hw4, rfl, Fr.refl _ _ _⟩
            case round =>
              obtain ⟨wq, hwq'⟩ : ∃ wq, wq = wr := ⟨_, rfl⟩
              subst hwq'
              obtain ⟨j, N, hj, rfl, hwq, hN, hfq⟩ := hrel
              have HN := hid hN; clear hN
              have HVQ := hid (HV4.out.on hfq.below)
              have hpq := (listR partR).mono (below_cells hfq.below) (fun _ h => h) hy4
              by_cases hlj : j < x.parts.length
              · obtain ⟨y, hyj⟩ := at_lt hlj
                obtain ⟨b3, o3, rfl, hb3, c0, c1, c2, c3, hok⟩ := part_at hpq hyj
                have hlj' : (j : Int) < x.parts.length := by omega
                have hwP : Wr B b N (wq.alloc (.cells #[.int .i64 y.at_, .int .i64 y.drop, .int .i64 y.take, .int .i64 y.up] 88)) := hwq.later ((Below.refl _ _).alloc (Nat.le_refl _) _)
                have hfP : Fr B b wq (wq.alloc (.cells #[.int .i64 y.at_, .int .i64 y.drop, .int .i64 y.take, .int .i64 y.up] 88)) := Fr.of_below ((Below.refl _ _).alloc (Nat.le_refl _) _) hwq.le
                have HPP := hid (heap_alloc_new wq (.cells #[.int .i64 y.at_, .int .i64 y.drop, .int .i64 y.take, .int .i64 y.up] 88))
                have hqb : wq.heap.size ≠ b := by have := hwq.base.2; omega
                have HN2 : Hid (((N ++ [59, 32]) ++ numsFrom 0 [y.at_, y.drop, y.take, y.up]) ++ partsL (x.parts.drop (j + 1)) = ((M ++ [32, 40]) ++ numsFrom 0 [x.base, x.drop, x.take, x.up, x.sum]) ++ partsL x.parts) := hid (by have := HN.out; rw [drop_cons hyj] at this; simpa [partsL] using this)
                have hall : allI [y.at_, y.drop, y.take, y.up] := by
                  obtain ⟨i0, i1, i2, i3⟩ := hok
                  intro z hz
                  simp at hz
                  rcases hz with rfl | rfl | rfl | rfl <;> assumption
                clear hyj hpq HN hok
                go_wp2_with fail
                refine (put_calls B b N ⟨#[59, 32]⟩ (by decide) _ hwP).mono ?_
                rintro e w5 ⟨rfl, hw5, hf5⟩
                have HP5 := hid (hf5.kept _ _ HPP.out (by simp; exact hqb) (by intro c fz e; cases e))
                have d0 : w5.cell? ⟨wq.heap.size, 0, none⟩ = some (.int .i64 y.at_) := by rw [Lib.cell_of_heap HP5.out]; rfl
                have d1 : w5.cell? ⟨wq.heap.size, 1, none⟩ = some (.int .i64 y.drop) := by rw [Lib.cell_of_heap HP5.out]; rfl
                have d2 : w5.cell? ⟨wq.heap.size, 2, none⟩ = some (.int .i64 y.take) := by rw [Lib.cell_of_heap HP5.out]; rfl
                have d3 : w5.cell? ⟨wq.heap.size, 3, none⟩ = some (.int .i64 y.up) := by rw [Lib.cell_of_heap HP5.out]; rfl
                have hfN : Fr B b w5 (w5.alloc (.cells #[.int .i64 y.at_, .int .i64 y.drop, .int .i64 y.take, .int .i64 y.up] 3)) := Fr.of_below ((Below.refl _ _).alloc (Nat.le_refl _) _) hw5.le
                have hwN : Wr B b (N ++ [59, 32]) (w5.alloc (.cells #[.int .i64 y.at_, .int .i64 y.drop, .int .i64 y.take, .int .i64 y.up] 3)) := hw5.later ((Below.refl _ _).alloc (Nat.le_refl _) _)
                have HVN := hid (((HVQ.out.on hfP.below).on hf5.below).on hfN.below)
                have hgb2 : w5.heap.size ≠ b := by have := hw5.base.2; omega
                clear c0 c1 c2 c3 hwP hwq
                go_wp2_with fail
                refine (nums_calls B b (N ++ [59, 32]) _ [y.at_, y.drop, y.take, y.up] 4 hall (by simp) _ hwN HVN.out (heap_alloc_new _ _) hgb2).mono ?_
                rintro e w6 ⟨rfl, hw6, hf6⟩
                clear d0 d1 d2 d3 hwN
                go_wp2_with fail
                refine ⟨⟨j + 1, _, by omega, by go_num, hw6, HN2.out, (((hfq.trans hfP).trans hf5).trans hfN).trans hf6⟩, ?_⟩
                simp [intOf]; omega
              · have hje : j = x.parts.length := by omega
                have hN2 : N = ((M ++ [32, 40]) ++ numsFrom 0 [x.base, x.drop, x.take, x.up, x.sum]) ++ partsL x.parts := by have := HN.out; rw [hje, List.drop_length] at this; simpa only [partsL, List.append_nil] using this
                subst hN2
                subst hje
                clear HN hpq
                go_wp2_with fail
                refine (put_calls B b _ ⟨#[41]⟩ (by decide) _ hwq).mono ?_
                rintro e w7 ⟨rfl, hw7, hf7⟩
                go_wp2_with fail
                refine ⟨⟨k + 1, _, by omega, by go_num, hw7, HM2.out, (hf04.trans hfq).trans hf7⟩, ?_⟩
                simp [intOf]; omega
        · have hke : k = ts.length := by omega
          have hM2 : M = (L ++ guardsL gs ++ [32, 45, 62]) ++ termsL ts := by have := HM.out; rw [hke, List.drop_length] at this; simpa only [termsL, List.append_nil] using this
          subst hM2
          subst hke
          clear HM htr
          go_wp2_with fail
          refine (put_calls B b _ ⟨#[10]⟩ (by decide) _ hw).mono ?_
          rintro e w9 ⟨rfl, hw9, hf9⟩
          go_wp2_with fail
          go_end0
          refine ⟨rfl, ?_, (hfw0.trans hf).trans hf9⟩
          have e1 : L ++ nl (bodyL gs ts) = L ++ guardsL gs ++ [32, 45, 62] ++ termsL ts ++ [10] := by simp [nl, bodyL]
          rw [e1]
          exact hw9
end Go.Proofs.YtcdnkmefcldfmaaDoor
