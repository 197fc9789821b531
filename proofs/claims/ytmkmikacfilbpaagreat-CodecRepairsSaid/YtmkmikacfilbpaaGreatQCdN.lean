/-
  What stands at a place, as the reference finds it: the walk.
-/
import Derived.Test.YtmkmikacfilbpaaGreatQCdM
namespace Go.Proofs.YtmkmikacfilbpaaGreat
open Go.RowKit Go.Um Go.Proofs
theorem first_at {y : List Int} {k : Nat} (h1 : 1 ≤ k) (h4 : k ≤ 4) (hn : ∀ m, 1 ≤ m → m < k → tryF y m = none) {p : Int × Nat} (h : tryF y k = some p) : firstF y = some p := by
  unfold firstF
  obtain rfl | rfl | rfl | rfl : k = 1 ∨ k = 2 ∨ k = 3 ∨ k = 4 := by omega
  · rw [h]; rfl
  · rw [hn 1 (by omega) (by omega), h]; rfl
  · rw [hn 1 (by omega) (by omega), hn 2 (by omega) (by omega), h]; rfl
  · rw [hn 1 (by omega) (by omega), hn 2 (by omega) (by omega), hn 3 (by omega) (by omega), h]; rfl
theorem first_no {y : List Int} {k : Nat} (hn : ∀ m, 1 ≤ m → m < k → tryF y m = none) (hk : ¬ (k ≤ 4 ∧ k ≤ y.length)) : firstF y = none := by
  have h : ∀ m, 1 ≤ m → m ≤ 4 → tryF y m = none := fun m h1 h2 => by
    by_cases hm : m < k
    · exact hn m h1 hm
    · unfold tryF
      rw [if_neg (by omega)]
  unfold firstF
  rw [h 1 (by omega) (by omega), h 2 (by omega) (by omega), h 3 (by omega) (by omega), h 4 (by omega) (by omega)]
  rfl
set_option maxHeartbeats 1000000 in
set_option maxRecDepth 100000 in
theorem rscan_calls (b : List Int) (at_ : Nat) (hat : at_ < b.length) (hl : b.length ≤ 1000000) (v : Value) (w : World) (h : bytesR.rel w (upto w.heap.size) [v] b) :
    Calls Tryz.prog 56 #[v, .int .i64 at_] w fun e w' => e = .returned (.tuple #[.int .i32 (scanF (b.drop at_)).1, .int .i64 (scanF (b.drop at_)).2.1, .bool (scanF (b.drop at_)).2.2]) ∧ Below w.heap.size w w' := by
  obtain ⟨A, cp, rfl, hcp, hm⟩ := list_form h
  unfold maxLen at hm
  obtain ⟨x0, hx0⟩ := at_lt (show 0 < b.length by omega)
  obtain ⟨G, O, rfl, hG, _, _, _⟩ := byte_at h hx0
  obtain ⟨y, hy⟩ : ∃ y, y = b.drop at_ := ⟨_, rfl⟩
  have hyl : y.length = b.length - at_ := by rw [hy, List.length_drop]
  have HS := hid fun (n : Nat) W (hW : Below w.heap.size w W) (h1 : 1 ≤ n) (h4 : n ≤ 4) (hn : n ≤ y.length) => rscal_calls (y.take n) (by rw [List.length_take]; omega) (by rw [List.length_take]; omega) (.slice (some ⟨G, O + at_, none⟩) n (cp - at_)) W (by rw [hy]; exact bytesR.below (bytes_sub h (by omega)) hW hW.size)
  have HG := hid fun (k n : Nat) W (hW : Below w.heap.size w W) (h1 : 2 ≤ k) (hkn : k < n) (h4 : n ≤ 4) (hn : k ≤ y.length) => rbeg_calls (y.take k) n (by rw [List.length_take]; omega) (by rw [List.length_take]; omega) h4 (.slice (some ⟨G, O + at_, none⟩) k (cp - at_)) W (by rw [hy]; exact bytesR.below (bytes_sub h (by omega)) hW hW.size)
  have HSC := hid (show scanF y = match firstF y with | some p => (p.1, p.2, true) | none => (65533, mostF y, false) from rfl)
  rw [← hy]
  have hat' : (at_ : Int) < b.length := by omega
  obtain ⟨yl, hyl'⟩ : ∃ yl, yl = y.length := ⟨_, rfl⟩
  rw [← hyl'] at hyl
  have HYL := hid hyl'
  clear hy h hyl' hx0
  go_enter Tryz.func56, Tryz.ntmps56
  go_wp2_with fail
  rw [← hyl]
  have HYb := hid hyl
  have hyl1 : 1 ≤ yl := by omega
  have hylm : yl ≤ 1000000 := by omega
  have hycp : yl ≤ cp - at_ := by omega
  have hcpm : cp - at_ ≤ 2 ^ 63 - 1 := by omega
  obtain ⟨cq, hcq⟩ : ∃ cq, cq = cp - at_ := ⟨_, rfl⟩
  rw [← hcq] at HS HG hycp hcpm ⊢
  clear hyl hcq
  go_loopw [8, 9, 10] (fun vk _ _ wr => ∃ k : Nat, 1 ≤ k ∧ k ≤ 5 ∧ vk = .int .i64 k ∧ (∀ m, 1 ≤ m → m < k → tryF y m = none) ∧ Below w.heap.size w wr) (fun vk _ _ _ => 5 - (intOf vk).toNat)
  case atStart => exact ⟨1, Nat.le_refl _, by omega, rfl, fun m h1 h2 => by omega, Below.refl _ _⟩
  case round =>
    obtain ⟨wo, hwo⟩ : ∃ wo, wo = wr := ⟨_, rfl⟩
    subst hwo
    obtain ⟨k, hk1, hk5, rfl, hn, hB⟩ := hrel
    have HN := hid hn
    have HB := hid hB
    clear hn hB
    by_cases c1 : k ≤ 4
    · have c1' : (k : Int) ≤ 4 := by omega
      by_cases c2 : k ≤ yl
      · have c2' : (k : Int) ≤ yl := by omega
        have HK := HS.out k
        go_wp2_with fail
        refine (HS.out k _ HB.out hk1 c1 (by rw [← HYL.out]; exact c2)).mono ?_
        rintro e w5 ⟨rfl, hB5⟩
        have hBw : Hid (Below w.heap.size w w5) := hid (HB.out.trans (hB5.mono HB.out.size))
        clear hB5 HK
        cases hs : scalF (y.take k) with
        | some x =>
          have HF := hid (first_at hk1 c1 HN.out (try_of (by rw [← HYL.out]; exact c2) hs))
          clear hs
          go_wp2_with fail
          go_ret3
          refine ⟨?_, hBw.out⟩
          rw [HSC.out, HF.out]
          rfl
        | none =>
          have HT := hid (try_none (y := y) (n := k) fun x h => by rw [hs] at h; cases h)
          clear hs
          go_wp2_with fail
          refine ⟨⟨k + 1, by omega, by omega, by push_cast; rfl, fun m h1 h2 => ?_, hBw.out⟩, ?_⟩
          · by_cases e : m = k
            · rw [e]; exact HT.out
            · exact HN.out m h1 (by omega)
          · simp [intOf]; omega
      · have c2' : ¬ (k : Int) ≤ yl := by omega
        have HF := hid (first_no HN.out (fun h => c2 (by rw [HYL.out]; exact h.2)))
        have HM : Hid (scanF y = (65533, mostF y, false)) := hid (by rw [HSC.out, HF.out])
        clear HF HSC HN
        by_cases d2 : 2 ≤ yl
        · have d2' : (2 : Int) ≤ yl := by omega
          by_cases d3 : 3 ≤ yl
          · have d3' : (3 : Int) ≤ yl := by omega
            obtain ⟨b23, hb23⟩ : ∃ q, q = begF (y.take 2) 3 := ⟨_, rfl⟩
            obtain ⟨b24, hb24⟩ : ∃ q, q = begF (y.take 2) 4 := ⟨_, rfl⟩
            have Hb23 := hid hb23
            have Hb24 := hid hb24
            obtain ⟨b34, hb34⟩ : ∃ q, q = begF (y.take 3) 4 := ⟨_, rfl⟩
            have Hb34 := hid hb34
            have HX0 : mostF y = if (3 ≤ yl ∧ begF (y.take 3) 4 = true) then 3 else if 2 ≤ yl ∧ (begF (y.take 2) 3 = true ∨ begF (y.take 2) 4 = true) then 2 else 1 := by unfold mostF; rw [← HYL.out]
            rw [← hb23, ← hb24, ← hb34] at HX0
            clear hb23 hb24 hb34
            cases b23 with
            | false =>
              cases b24 with
              | false =>
                cases b34 with
                | false =>
                  have HX : Hid (mostF y = 1) := hid (by rw [HX0]; simp; try omega)
                  clear HX0
                  go_wp2_with fail
                  refine wp_loop_rounds 3 ?_
                  rw [rounds_succ]
                  go_wp2_with fail
                  refine wp_loop_rounds 3 ?_
                  rw [rounds_succ]
                  go_wp2_with fail
                  refine (HG.out 2 3 _ HB.out (by omega) (by omega) (by omega) (by rw [← HYL.out]; omega)).mono ?_
                  rintro e w6 ⟨rfl, hB_⟩
                  have Hw6 : Hid (Below w.heap.size w w6) := hid (HB.out.trans (hB_.mono HB.out.size))
                  clear hB_
                  rw [← Hb23.out]
                  go_wp2_with fail
                  rw [rounds_succ]
                  go_wp2_with fail
                  refine (HG.out 2 4 _ Hw6.out (by omega) (by omega) (by omega) (by rw [← HYL.out]; omega)).mono ?_
                  rintro e w7 ⟨rfl, hB_⟩
                  have Hw7 : Hid (Below w.heap.size w w7) := hid (Hw6.out.trans (hB_.mono Hw6.out.size))
                  clear hB_
                  rw [← Hb24.out]
                  go_wp2_with fail
                  rw [rounds_succ]
                  go_wp2_with fail
                  rw [rounds_succ]
                  go_wp2_with fail
                  refine wp_loop_rounds 2 ?_
                  rw [rounds_succ]
                  go_wp2_with fail
                  refine (HG.out 3 4 _ Hw7.out (by omega) (by omega) (by omega) (by rw [← HYL.out]; omega)).mono ?_
                  rintro e w8 ⟨rfl, hB_⟩
                  have Hw8 : Hid (Below w.heap.size w w8) := hid (Hw7.out.trans (hB_.mono Hw7.out.size))
                  clear hB_
                  rw [← Hb34.out]
                  go_wp2_with fail
                  rw [rounds_succ]
                  go_wp2_with fail
                  rw [rounds_succ]
                  go_wp2_with fail
                  go_ret3
                  exact ⟨by rw [HM.out, HX.out]; rfl, Hw8.out⟩
                | true =>
                  have HX : Hid (mostF y = 3) := hid (by rw [HX0]; simp; try omega)
                  clear HX0
                  go_wp2_with fail
                  refine wp_loop_rounds 3 ?_
                  rw [rounds_succ]
                  go_wp2_with fail
                  refine wp_loop_rounds 3 ?_
                  rw [rounds_succ]
                  go_wp2_with fail
                  refine (HG.out 2 3 _ HB.out (by omega) (by omega) (by omega) (by rw [← HYL.out]; omega)).mono ?_
                  rintro e w6 ⟨rfl, hB_⟩
                  have Hw6 : Hid (Below w.heap.size w w6) := hid (HB.out.trans (hB_.mono HB.out.size))
                  clear hB_
                  rw [← Hb23.out]
                  go_wp2_with fail
                  rw [rounds_succ]
                  go_wp2_with fail
                  refine (HG.out 2 4 _ Hw6.out (by omega) (by omega) (by omega) (by rw [← HYL.out]; omega)).mono ?_
                  rintro e w7 ⟨rfl, hB_⟩
                  have Hw7 : Hid (Below w.heap.size w w7) := hid (Hw6.out.trans (hB_.mono Hw6.out.size))
                  clear hB_
                  rw [← Hb24.out]
                  go_wp2_with fail
                  rw [rounds_succ]
                  go_wp2_with fail
                  rw [rounds_succ]
                  go_wp2_with fail
                  refine wp_loop_rounds 2 ?_
                  rw [rounds_succ]
                  go_wp2_with fail
                  refine (HG.out 3 4 _ Hw7.out (by omega) (by omega) (by omega) (by rw [← HYL.out]; omega)).mono ?_
                  rintro e w8 ⟨rfl, hB_⟩
                  have Hw8 : Hid (Below w.heap.size w w8) := hid (Hw7.out.trans (hB_.mono Hw7.out.size))
                  clear hB_
                  rw [← Hb34.out]
                  go_wp2_with fail
                  rw [rounds_succ]
                  go_wp2_with fail
                  rw [rounds_succ]
                  go_wp2_with fail
                  go_ret3
                  exact ⟨by rw [HM.out, HX.out]; rfl, Hw8.out⟩
              | true =>
                cases b34 with
                | false =>
                  have HX : Hid (mostF y = 2) := hid (by rw [HX0]; simp; try omega)
                  clear HX0
                  go_wp2_with fail
                  refine wp_loop_rounds 3 ?_
                  rw [rounds_succ]
                  go_wp2_with fail
                  refine wp_loop_rounds 3 ?_
                  rw [rounds_succ]
                  go_wp2_with fail
                  refine (HG.out 2 3 _ HB.out (by omega) (by omega) (by omega) (by rw [← HYL.out]; omega)).mono ?_
                  rintro e w6 ⟨rfl, hB_⟩
                  have Hw6 : Hid (Below w.heap.size w w6) := hid (HB.out.trans (hB_.mono HB.out.size))
                  clear hB_
                  rw [← Hb23.out]
                  go_wp2_with fail
                  rw [rounds_succ]
                  go_wp2_with fail
                  refine (HG.out 2 4 _ Hw6.out (by omega) (by omega) (by omega) (by rw [← HYL.out]; omega)).mono ?_
                  rintro e w7 ⟨rfl, hB_⟩
                  have Hw7 : Hid (Below w.heap.size w w7) := hid (Hw6.out.trans (hB_.mono Hw6.out.size))
                  clear hB_
                  rw [← Hb24.out]
                  go_wp2_with fail
                  rw [rounds_succ]
                  go_wp2_with fail
                  rw [rounds_succ]
                  go_wp2_with fail
                  refine wp_loop_rounds 2 ?_
                  rw [rounds_succ]
                  go_wp2_with fail
                  refine (HG.out 3 4 _ Hw7.out (by omega) (by omega) (by omega) (by rw [← HYL.out]; omega)).mono ?_
                  rintro e w8 ⟨rfl, hB_⟩
                  have Hw8 : Hid (Below w.heap.size w w8) := hid (Hw7.out.trans (hB_.mono Hw7.out.size))
                  clear hB_
                  rw [← Hb34.out]
                  go_wp2_with fail
                  rw [rounds_succ]
                  go_wp2_with fail
                  rw [rounds_succ]
                  go_wp2_with fail
                  go_ret3
                  exact ⟨by rw [HM.out, HX.out]; rfl, Hw8.out⟩
                | true =>
                  have HX : Hid (mostF y = 3) := hid (by rw [HX0]; simp; try omega)
                  clear HX0
                  go_wp2_with fail
                  refine wp_loop_rounds 3 ?_
                  rw [rounds_succ]
                  go_wp2_with fail
                  refine wp_loop_rounds 3 ?_
                  rw [rounds_succ]
                  go_wp2_with fail
                  refine (HG.out 2 3 _ HB.out (by omega) (by omega) (by omega) (by rw [← HYL.out]; omega)).mono ?_
                  rintro e w6 ⟨rfl, hB_⟩
                  have Hw6 : Hid (Below w.heap.size w w6) := hid (HB.out.trans (hB_.mono HB.out.size))
                  clear hB_
                  rw [← Hb23.out]
                  go_wp2_with fail
                  rw [rounds_succ]
                  go_wp2_with fail
                  refine (HG.out 2 4 _ Hw6.out (by omega) (by omega) (by omega) (by rw [← HYL.out]; omega)).mono ?_
                  rintro e w7 ⟨rfl, hB_⟩
                  have Hw7 : Hid (Below w.heap.size w w7) := hid (Hw6.out.trans (hB_.mono Hw6.out.size))
                  clear hB_
                  rw [← Hb24.out]
                  go_wp2_with fail
                  rw [rounds_succ]
                  go_wp2_with fail
                  rw [rounds_succ]
                  go_wp2_with fail
                  refine wp_loop_rounds 2 ?_
                  rw [rounds_succ]
                  go_wp2_with fail
                  refine (HG.out 3 4 _ Hw7.out (by omega) (by omega) (by omega) (by rw [← HYL.out]; omega)).mono ?_
                  rintro e w8 ⟨rfl, hB_⟩
                  have Hw8 : Hid (Below w.heap.size w w8) := hid (Hw7.out.trans (hB_.mono Hw7.out.size))
                  clear hB_
                  rw [← Hb34.out]
                  go_wp2_with fail
                  rw [rounds_succ]
                  go_wp2_with fail
                  rw [rounds_succ]
                  go_wp2_with fail
                  go_ret3
                  exact ⟨by rw [HM.out, HX.out]; rfl, Hw8.out⟩
            | true =>
              cases b24 with
              | false =>
                cases b34 with
                | false =>
                  have HX : Hid (mostF y = 2) := hid (by rw [HX0]; simp; try omega)
                  clear HX0
                  go_wp2_with fail
                  refine wp_loop_rounds 3 ?_
                  rw [rounds_succ]
                  go_wp2_with fail
                  refine wp_loop_rounds 3 ?_
                  rw [rounds_succ]
                  go_wp2_with fail
                  refine (HG.out 2 3 _ HB.out (by omega) (by omega) (by omega) (by rw [← HYL.out]; omega)).mono ?_
                  rintro e w6 ⟨rfl, hB_⟩
                  have Hw6 : Hid (Below w.heap.size w w6) := hid (HB.out.trans (hB_.mono HB.out.size))
                  clear hB_
                  rw [← Hb23.out]
                  go_wp2_with fail
                  rw [rounds_succ]
                  go_wp2_with fail
                  refine (HG.out 2 4 _ Hw6.out (by omega) (by omega) (by omega) (by rw [← HYL.out]; omega)).mono ?_
                  rintro e w7 ⟨rfl, hB_⟩
                  have Hw7 : Hid (Below w.heap.size w w7) := hid (Hw6.out.trans (hB_.mono Hw6.out.size))
                  clear hB_
                  rw [← Hb24.out]
                  go_wp2_with fail
                  rw [rounds_succ]
                  go_wp2_with fail
                  rw [rounds_succ]
                  go_wp2_with fail
                  refine wp_loop_rounds 2 ?_
                  rw [rounds_succ]
                  go_wp2_with fail
                  refine (HG.out 3 4 _ Hw7.out (by omega) (by omega) (by omega) (by rw [← HYL.out]; omega)).mono ?_
                  rintro e w8 ⟨rfl, hB_⟩
                  have Hw8 : Hid (Below w.heap.size w w8) := hid (Hw7.out.trans (hB_.mono Hw7.out.size))
                  clear hB_
                  rw [← Hb34.out]
                  go_wp2_with fail
                  rw [rounds_succ]
                  go_wp2_with fail
                  rw [rounds_succ]
                  go_wp2_with fail
                  go_ret3
                  exact ⟨by rw [HM.out, HX.out]; rfl, Hw8.out⟩
                | true =>
                  have HX : Hid (mostF y = 3) := hid (by rw [HX0]; simp; try omega)
                  clear HX0
                  go_wp2_with fail
                  refine wp_loop_rounds 3 ?_
                  rw [rounds_succ]
                  go_wp2_with fail
                  refine wp_loop_rounds 3 ?_
                  rw [rounds_succ]
                  go_wp2_with fail
                  refine (HG.out 2 3 _ HB.out (by omega) (by omega) (by omega) (by rw [← HYL.out]; omega)).mono ?_
                  rintro e w6 ⟨rfl, hB_⟩
                  have Hw6 : Hid (Below w.heap.size w w6) := hid (HB.out.trans (hB_.mono HB.out.size))
                  clear hB_
                  rw [← Hb23.out]
                  go_wp2_with fail
                  rw [rounds_succ]
                  go_wp2_with fail
                  refine (HG.out 2 4 _ Hw6.out (by omega) (by omega) (by omega) (by rw [← HYL.out]; omega)).mono ?_
                  rintro e w7 ⟨rfl, hB_⟩
                  have Hw7 : Hid (Below w.heap.size w w7) := hid (Hw6.out.trans (hB_.mono Hw6.out.size))
                  clear hB_
                  rw [← Hb24.out]
                  go_wp2_with fail
                  rw [rounds_succ]
                  go_wp2_with fail
                  rw [rounds_succ]
                  go_wp2_with fail
                  refine wp_loop_rounds 2 ?_
                  rw [rounds_succ]
                  go_wp2_with fail
                  refine (HG.out 3 4 _ Hw7.out (by omega) (by omega) (by omega) (by rw [← HYL.out]; omega)).mono ?_
                  rintro e w8 ⟨rfl, hB_⟩
                  have Hw8 : Hid (Below w.heap.size w w8) := hid (Hw7.out.trans (hB_.mono Hw7.out.size))
                  clear hB_
                  rw [← Hb34.out]
                  go_wp2_with fail
                  rw [rounds_succ]
                  go_wp2_with fail
                  rw [rounds_succ]
                  go_wp2_with fail
                  go_ret3
                  exact ⟨by rw [HM.out, HX.out]; rfl, Hw8.out⟩
              | true =>
                cases b34 with
                | false =>
                  have HX : Hid (mostF y = 2) := hid (by rw [HX0]; simp; try omega)
                  clear HX0
                  go_wp2_with fail
                  refine wp_loop_rounds 3 ?_
                  rw [rounds_succ]
                  go_wp2_with fail
                  refine wp_loop_rounds 3 ?_
                  rw [rounds_succ]
                  go_wp2_with fail
                  refine (HG.out 2 3 _ HB.out (by omega) (by omega) (by omega) (by rw [← HYL.out]; omega)).mono ?_
                  rintro e w6 ⟨rfl, hB_⟩
                  have Hw6 : Hid (Below w.heap.size w w6) := hid (HB.out.trans (hB_.mono HB.out.size))
                  clear hB_
                  rw [← Hb23.out]
                  go_wp2_with fail
                  rw [rounds_succ]
                  go_wp2_with fail
                  refine (HG.out 2 4 _ Hw6.out (by omega) (by omega) (by omega) (by rw [← HYL.out]; omega)).mono ?_
                  rintro e w7 ⟨rfl, hB_⟩
                  have Hw7 : Hid (Below w.heap.size w w7) := hid (Hw6.out.trans (hB_.mono Hw6.out.size))
                  clear hB_
                  rw [← Hb24.out]
                  go_wp2_with fail
                  rw [rounds_succ]
                  go_wp2_with fail
                  rw [rounds_succ]
                  go_wp2_with fail
                  refine wp_loop_rounds 2 ?_
                  rw [rounds_succ]
                  go_wp2_with fail
                  refine (HG.out 3 4 _ Hw7.out (by omega) (by omega) (by omega) (by rw [← HYL.out]; omega)).mono ?_
                  rintro e w8 ⟨rfl, hB_⟩
                  have Hw8 : Hid (Below w.heap.size w w8) := hid (Hw7.out.trans (hB_.mono Hw7.out.size))
                  clear hB_
                  rw [← Hb34.out]
                  go_wp2_with fail
                  rw [rounds_succ]
                  go_wp2_with fail
                  rw [rounds_succ]
                  go_wp2_with fail
                  go_ret3
                  exact ⟨by rw [HM.out, HX.out]; rfl, Hw8.out⟩
                | true =>
                  have HX : Hid (mostF y = 3) := hid (by rw [HX0]; simp; try omega)
                  clear HX0
                  go_wp2_with fail
                  refine wp_loop_rounds 3 ?_
                  rw [rounds_succ]
                  go_wp2_with fail
                  refine wp_loop_rounds 3 ?_
                  rw [rounds_succ]
                  go_wp2_with fail
                  refine (HG.out 2 3 _ HB.out (by omega) (by omega) (by omega) (by rw [← HYL.out]; omega)).mono ?_
                  rintro e w6 ⟨rfl, hB_⟩
                  have Hw6 : Hid (Below w.heap.size w w6) := hid (HB.out.trans (hB_.mono HB.out.size))
                  clear hB_
                  rw [← Hb23.out]
                  go_wp2_with fail
                  rw [rounds_succ]
                  go_wp2_with fail
                  refine (HG.out 2 4 _ Hw6.out (by omega) (by omega) (by omega) (by rw [← HYL.out]; omega)).mono ?_
                  rintro e w7 ⟨rfl, hB_⟩
                  have Hw7 : Hid (Below w.heap.size w w7) := hid (Hw6.out.trans (hB_.mono Hw6.out.size))
                  clear hB_
                  rw [← Hb24.out]
                  go_wp2_with fail
                  rw [rounds_succ]
                  go_wp2_with fail
                  rw [rounds_succ]
                  go_wp2_with fail
                  refine wp_loop_rounds 2 ?_
                  rw [rounds_succ]
                  go_wp2_with fail
                  refine (HG.out 3 4 _ Hw7.out (by omega) (by omega) (by omega) (by rw [← HYL.out]; omega)).mono ?_
                  rintro e w8 ⟨rfl, hB_⟩
                  have Hw8 : Hid (Below w.heap.size w w8) := hid (Hw7.out.trans (hB_.mono Hw7.out.size))
                  clear hB_
                  rw [← Hb34.out]
                  go_wp2_with fail
                  rw [rounds_succ]
                  go_wp2_with fail
                  rw [rounds_succ]
                  go_wp2_with fail
                  go_ret3
                  exact ⟨by rw [HM.out, HX.out]; rfl, Hw8.out⟩
          · have d3' : ¬ (3 : Int) ≤ yl := by omega
            obtain ⟨b23, hb23⟩ : ∃ q, q = begF (y.take 2) 3 := ⟨_, rfl⟩
            obtain ⟨b24, hb24⟩ : ∃ q, q = begF (y.take 2) 4 := ⟨_, rfl⟩
            have Hb23 := hid hb23
            have Hb24 := hid hb24
            have HX0 : mostF y = if (3 ≤ yl ∧ begF (y.take 3) 4 = true) then 3 else if 2 ≤ yl ∧ (begF (y.take 2) 3 = true ∨ begF (y.take 2) 4 = true) then 2 else 1 := by unfold mostF; rw [← HYL.out]
            rw [← hb23, ← hb24] at HX0
            clear hb23 hb24
            cases b23 with
            | false =>
              cases b24 with
              | false =>
                have HX : Hid (mostF y = 1) := hid (by rw [HX0, if_neg (fun h => absurd h.1 (by omega))]; simp; try omega)
                clear HX0
                go_wp2_with fail
                refine wp_loop_rounds 3 ?_
                rw [rounds_succ]
                go_wp2_with fail
                refine wp_loop_rounds 3 ?_
                rw [rounds_succ]
                go_wp2_with fail
                refine (HG.out 2 3 _ HB.out (by omega) (by omega) (by omega) (by rw [← HYL.out]; omega)).mono ?_
                rintro e w6 ⟨rfl, hB_⟩
                have Hw6 : Hid (Below w.heap.size w w6) := hid (HB.out.trans (hB_.mono HB.out.size))
                clear hB_
                rw [← Hb23.out]
                go_wp2_with fail
                rw [rounds_succ]
                go_wp2_with fail
                refine (HG.out 2 4 _ Hw6.out (by omega) (by omega) (by omega) (by rw [← HYL.out]; omega)).mono ?_
                rintro e w7 ⟨rfl, hB_⟩
                have Hw7 : Hid (Below w.heap.size w w7) := hid (Hw6.out.trans (hB_.mono Hw6.out.size))
                clear hB_
                rw [← Hb24.out]
                go_wp2_with fail
                rw [rounds_succ]
                go_wp2_with fail
                rw [rounds_succ]
                go_wp2_with fail
                go_ret3
                exact ⟨by rw [HM.out, HX.out]; rfl, Hw7.out⟩
              | true =>
                have HX : Hid (mostF y = 2) := hid (by rw [HX0, if_neg (fun h => absurd h.1 (by omega))]; simp; try omega)
                clear HX0
                go_wp2_with fail
                refine wp_loop_rounds 3 ?_
                rw [rounds_succ]
                go_wp2_with fail
                refine wp_loop_rounds 3 ?_
                rw [rounds_succ]
                go_wp2_with fail
                refine (HG.out 2 3 _ HB.out (by omega) (by omega) (by omega) (by rw [← HYL.out]; omega)).mono ?_
                rintro e w6 ⟨rfl, hB_⟩
                have Hw6 : Hid (Below w.heap.size w w6) := hid (HB.out.trans (hB_.mono HB.out.size))
                clear hB_
                rw [← Hb23.out]
                go_wp2_with fail
                rw [rounds_succ]
                go_wp2_with fail
                refine (HG.out 2 4 _ Hw6.out (by omega) (by omega) (by omega) (by rw [← HYL.out]; omega)).mono ?_
                rintro e w7 ⟨rfl, hB_⟩
                have Hw7 : Hid (Below w.heap.size w w7) := hid (Hw6.out.trans (hB_.mono Hw6.out.size))
                clear hB_
                rw [← Hb24.out]
                go_wp2_with fail
                rw [rounds_succ]
                go_wp2_with fail
                rw [rounds_succ]
                go_wp2_with fail
                go_ret3
                exact ⟨by rw [HM.out, HX.out]; rfl, Hw7.out⟩
            | true =>
              cases b24 with
              | false =>
                have HX : Hid (mostF y = 2) := hid (by rw [HX0, if_neg (fun h => absurd h.1 (by omega))]; simp; try omega)
                clear HX0
                go_wp2_with fail
                refine wp_loop_rounds 3 ?_
                rw [rounds_succ]
                go_wp2_with fail
                refine wp_loop_rounds 3 ?_
                rw [rounds_succ]
                go_wp2_with fail
                refine (HG.out 2 3 _ HB.out (by omega) (by omega) (by omega) (by rw [← HYL.out]; omega)).mono ?_
                rintro e w6 ⟨rfl, hB_⟩
                have Hw6 : Hid (Below w.heap.size w w6) := hid (HB.out.trans (hB_.mono HB.out.size))
                clear hB_
                rw [← Hb23.out]
                go_wp2_with fail
                rw [rounds_succ]
                go_wp2_with fail
                refine (HG.out 2 4 _ Hw6.out (by omega) (by omega) (by omega) (by rw [← HYL.out]; omega)).mono ?_
                rintro e w7 ⟨rfl, hB_⟩
                have Hw7 : Hid (Below w.heap.size w w7) := hid (Hw6.out.trans (hB_.mono Hw6.out.size))
                clear hB_
                rw [← Hb24.out]
                go_wp2_with fail
                rw [rounds_succ]
                go_wp2_with fail
                rw [rounds_succ]
                go_wp2_with fail
                go_ret3
                exact ⟨by rw [HM.out, HX.out]; rfl, Hw7.out⟩
              | true =>
                have HX : Hid (mostF y = 2) := hid (by rw [HX0, if_neg (fun h => absurd h.1 (by omega))]; simp; try omega)
                clear HX0
                go_wp2_with fail
                refine wp_loop_rounds 3 ?_
                rw [rounds_succ]
                go_wp2_with fail
                refine wp_loop_rounds 3 ?_
                rw [rounds_succ]
                go_wp2_with fail
                refine (HG.out 2 3 _ HB.out (by omega) (by omega) (by omega) (by rw [← HYL.out]; omega)).mono ?_
                rintro e w6 ⟨rfl, hB_⟩
                have Hw6 : Hid (Below w.heap.size w w6) := hid (HB.out.trans (hB_.mono HB.out.size))
                clear hB_
                rw [← Hb23.out]
                go_wp2_with fail
                rw [rounds_succ]
                go_wp2_with fail
                refine (HG.out 2 4 _ Hw6.out (by omega) (by omega) (by omega) (by rw [← HYL.out]; omega)).mono ?_
                rintro e w7 ⟨rfl, hB_⟩
                have Hw7 : Hid (Below w.heap.size w w7) := hid (Hw6.out.trans (hB_.mono Hw6.out.size))
                clear hB_
                rw [← Hb24.out]
                go_wp2_with fail
                rw [rounds_succ]
                go_wp2_with fail
                rw [rounds_succ]
                go_wp2_with fail
                go_ret3
                exact ⟨by rw [HM.out, HX.out]; rfl, Hw7.out⟩
        · have d2' : ¬ (2 : Int) ≤ yl := by omega
          have HX : Hid (mostF y = 1) := hid (by unfold mostF; rw [if_neg (by rw [← HYL.out]; omega), if_neg (by rw [← HYL.out]; omega)])
          go_wp2_with fail
          refine wp_loop_rounds 1 ?_
          rw [rounds_succ]
          go_wp2_with fail
          go_ret3
          exact ⟨by rw [HM.out, HX.out]; rfl, HB.out⟩
    · have c1' : ¬ (k : Int) ≤ 4 := by omega
      have HF := hid (first_no HN.out (fun h => c1 h.1))
      have HM : Hid (scanF y = (65533, mostF y, false)) := hid (by rw [HSC.out, HF.out])
      clear HF HSC HN
      by_cases d2 : 2 ≤ yl
      · have d2' : (2 : Int) ≤ yl := by omega
        by_cases d3 : 3 ≤ yl
        · have d3' : (3 : Int) ≤ yl := by omega
          obtain ⟨b23, hb23⟩ : ∃ q, q = begF (y.take 2) 3 := ⟨_, rfl⟩
          obtain ⟨b24, hb24⟩ : ∃ q, q = begF (y.take 2) 4 := ⟨_, rfl⟩
          have Hb23 := hid hb23
          have Hb24 := hid hb24
          obtain ⟨b34, hb34⟩ : ∃ q, q = begF (y.take 3) 4 := ⟨_, rfl⟩
          have Hb34 := hid hb34
          have HX0 : mostF y = if (3 ≤ yl ∧ begF (y.take 3) 4 = true) then 3 else if 2 ≤ yl ∧ (begF (y.take 2) 3 = true ∨ begF (y.take 2) 4 = true) then 2 else 1 := by unfold mostF; rw [← HYL.out]
          rw [← hb23, ← hb24, ← hb34] at HX0
          clear hb23 hb24 hb34
          cases b23 with
          | false =>
            cases b24 with
            | false =>
              cases b34 with
              | false =>
                have HX : Hid (mostF y = 1) := hid (by rw [HX0]; simp; try omega)
                clear HX0
                go_wp2_with fail
                refine wp_loop_rounds 3 ?_
                rw [rounds_succ]
                go_wp2_with fail
                refine wp_loop_rounds 3 ?_
                rw [rounds_succ]
                go_wp2_with fail
                refine (HG.out 2 3 _ HB.out (by omega) (by omega) (by omega) (by rw [← HYL.out]; omega)).mono ?_
                rintro e w6 ⟨rfl, hB_⟩
                have Hw6 : Hid (Below w.heap.size w w6) := hid (HB.out.trans (hB_.mono HB.out.size))
                clear hB_
                rw [← Hb23.out]
                go_wp2_with fail
                rw [rounds_succ]
                go_wp2_with fail
                refine (HG.out 2 4 _ Hw6.out (by omega) (by omega) (by omega) (by rw [← HYL.out]; omega)).mono ?_
                rintro e w7 ⟨rfl, hB_⟩
                have Hw7 : Hid (Below w.heap.size w w7) := hid (Hw6.out.trans (hB_.mono Hw6.out.size))
                clear hB_
                rw [← Hb24.out]
                go_wp2_with fail
                rw [rounds_succ]
                go_wp2_with fail
                rw [rounds_succ]
                go_wp2_with fail
                refine wp_loop_rounds 2 ?_
                rw [rounds_succ]
                go_wp2_with fail
                refine (HG.out 3 4 _ Hw7.out (by omega) (by omega) (by omega) (by rw [← HYL.out]; omega)).mono ?_
                rintro e w8 ⟨rfl, hB_⟩
                have Hw8 : Hid (Below w.heap.size w w8) := hid (Hw7.out.trans (hB_.mono Hw7.out.size))
                clear hB_
                rw [← Hb34.out]
                go_wp2_with fail
                rw [rounds_succ]
                go_wp2_with fail
                rw [rounds_succ]
                go_wp2_with fail
                go_ret3
                exact ⟨by rw [HM.out, HX.out]; rfl, Hw8.out⟩
              | true =>
                have HX : Hid (mostF y = 3) := hid (by rw [HX0]; simp; try omega)
                clear HX0
                go_wp2_with fail
                refine wp_loop_rounds 3 ?_
                rw [rounds_succ]
                go_wp2_with fail
                refine wp_loop_rounds 3 ?_
                rw [rounds_succ]
                go_wp2_with fail
                refine (HG.out 2 3 _ HB.out (by omega) (by omega) (by omega) (by rw [← HYL.out]; omega)).mono ?_
                rintro e w6 ⟨rfl, hB_⟩
                have Hw6 : Hid (Below w.heap.size w w6) := hid (HB.out.trans (hB_.mono HB.out.size))
                clear hB_
                rw [← Hb23.out]
                go_wp2_with fail
                rw [rounds_succ]
                go_wp2_with fail
                refine (HG.out 2 4 _ Hw6.out (by omega) (by omega) (by omega) (by rw [← HYL.out]; omega)).mono ?_
                rintro e w7 ⟨rfl, hB_⟩
                have Hw7 : Hid (Below w.heap.size w w7) := hid (Hw6.out.trans (hB_.mono Hw6.out.size))
                clear hB_
                rw [← Hb24.out]
                go_wp2_with fail
                rw [rounds_succ]
                go_wp2_with fail
                rw [rounds_succ]
                go_wp2_with fail
                refine wp_loop_rounds 2 ?_
                rw [rounds_succ]
                go_wp2_with fail
                refine (HG.out 3 4 _ Hw7.out (by omega) (by omega) (by omega) (by rw [← HYL.out]; omega)).mono ?_
                rintro e w8 ⟨rfl, hB_⟩
                have Hw8 : Hid (Below w.heap.size w w8) := hid (Hw7.out.trans (hB_.mono Hw7.out.size))
                clear hB_
                rw [← Hb34.out]
                go_wp2_with fail
                rw [rounds_succ]
                go_wp2_with fail
                rw [rounds_succ]
                go_wp2_with fail
                go_ret3
                exact ⟨by rw [HM.out, HX.out]; rfl, Hw8.out⟩
            | true =>
              cases b34 with
              | false =>
                have HX : Hid (mostF y = 2) := hid (by rw [HX0]; simp; try omega)
                clear HX0
                go_wp2_with fail
                refine wp_loop_rounds 3 ?_
                rw [rounds_succ]
                go_wp2_with fail
                refine wp_loop_rounds 3 ?_
                rw [rounds_succ]
                go_wp2_with fail
                refine (HG.out 2 3 _ HB.out (by omega) (by omega) (by omega) (by rw [← HYL.out]; omega)).mono ?_
                rintro e w6 ⟨rfl, hB_⟩
                have Hw6 : Hid (Below w.heap.size w w6) := hid (HB.out.trans (hB_.mono HB.out.size))
                clear hB_
                rw [← Hb23.out]
                go_wp2_with fail
                rw [rounds_succ]
                go_wp2_with fail
                refine (HG.out 2 4 _ Hw6.out (by omega) (by omega) (by omega) (by rw [← HYL.out]; omega)).mono ?_
                rintro e w7 ⟨rfl, hB_⟩
                have Hw7 : Hid (Below w.heap.size w w7) := hid (Hw6.out.trans (hB_.mono Hw6.out.size))
                clear hB_
                rw [← Hb24.out]
                go_wp2_with fail
                rw [rounds_succ]
                go_wp2_with fail
                rw [rounds_succ]
                go_wp2_with fail
                refine wp_loop_rounds 2 ?_
                rw [rounds_succ]
                go_wp2_with fail
                refine (HG.out 3 4 _ Hw7.out (by omega) (by omega) (by omega) (by rw [← HYL.out]; omega)).mono ?_
                rintro e w8 ⟨rfl, hB_⟩
                have Hw8 : Hid (Below w.heap.size w w8) := hid (Hw7.out.trans (hB_.mono Hw7.out.size))
                clear hB_
                rw [← Hb34.out]
                go_wp2_with fail
                rw [rounds_succ]
                go_wp2_with fail
                rw [rounds_succ]
                go_wp2_with fail
                go_ret3
                exact ⟨by rw [HM.out, HX.out]; rfl, Hw8.out⟩
              | true =>
                have HX : Hid (mostF y = 3) := hid (by rw [HX0]; simp; try omega)
                clear HX0
                go_wp2_with fail
                refine wp_loop_rounds 3 ?_
                rw [rounds_succ]
                go_wp2_with fail
                refine wp_loop_rounds 3 ?_
                rw [rounds_succ]
                go_wp2_with fail
                refine (HG.out 2 3 _ HB.out (by omega) (by omega) (by omega) (by rw [← HYL.out]; omega)).mono ?_
                rintro e w6 ⟨rfl, hB_⟩
                have Hw6 : Hid (Below w.heap.size w w6) := hid (HB.out.trans (hB_.mono HB.out.size))
                clear hB_
                rw [← Hb23.out]
                go_wp2_with fail
                rw [rounds_succ]
                go_wp2_with fail
                refine (HG.out 2 4 _ Hw6.out (by omega) (by omega) (by omega) (by rw [← HYL.out]; omega)).mono ?_
                rintro e w7 ⟨rfl, hB_⟩
                have Hw7 : Hid (Below w.heap.size w w7) := hid (Hw6.out.trans (hB_.mono Hw6.out.size))
                clear hB_
                rw [← Hb24.out]
                go_wp2_with fail
                rw [rounds_succ]
                go_wp2_with fail
                rw [rounds_succ]
                go_wp2_with fail
                refine wp_loop_rounds 2 ?_
                rw [rounds_succ]
                go_wp2_with fail
                refine (HG.out 3 4 _ Hw7.out (by omega) (by omega) (by omega) (by rw [← HYL.out]; omega)).mono ?_
                rintro e w8 ⟨rfl, hB_⟩
                have Hw8 : Hid (Below w.heap.size w w8) := hid (Hw7.out.trans (hB_.mono Hw7.out.size))
                clear hB_
                rw [← Hb34.out]
                go_wp2_with fail
                rw [rounds_succ]
                go_wp2_with fail
                rw [rounds_succ]
                go_wp2_with fail
                go_ret3
                exact ⟨by rw [HM.out, HX.out]; rfl, Hw8.out⟩
          | true =>
            cases b24 with
            | false =>
              cases b34 with
              | false =>
                have HX : Hid (mostF y = 2) := hid (by rw [HX0]; simp; try omega)
                clear HX0
                go_wp2_with fail
                refine wp_loop_rounds 3 ?_
                rw [rounds_succ]
                go_wp2_with fail
                refine wp_loop_rounds 3 ?_
                rw [rounds_succ]
                go_wp2_with fail
                refine (HG.out 2 3 _ HB.out (by omega) (by omega) (by omega) (by rw [← HYL.out]; omega)).mono ?_
                rintro e w6 ⟨rfl, hB_⟩
                have Hw6 : Hid (Below w.heap.size w w6) := hid (HB.out.trans (hB_.mono HB.out.size))
                clear hB_
                rw [← Hb23.out]
                go_wp2_with fail
                rw [rounds_succ]
                go_wp2_with fail
                refine (HG.out 2 4 _ Hw6.out (by omega) (by omega) (by omega) (by rw [← HYL.out]; omega)).mono ?_
                rintro e w7 ⟨rfl, hB_⟩
                have Hw7 : Hid (Below w.heap.size w w7) := hid (Hw6.out.trans (hB_.mono Hw6.out.size))
                clear hB_
                rw [← Hb24.out]
                go_wp2_with fail
                rw [rounds_succ]
                go_wp2_with fail
                rw [rounds_succ]
                go_wp2_with fail
                refine wp_loop_rounds 2 ?_
                rw [rounds_succ]
                go_wp2_with fail
                refine (HG.out 3 4 _ Hw7.out (by omega) (by omega) (by omega) (by rw [← HYL.out]; omega)).mono ?_
                rintro e w8 ⟨rfl, hB_⟩
                have Hw8 : Hid (Below w.heap.size w w8) := hid (Hw7.out.trans (hB_.mono Hw7.out.size))
                clear hB_
                rw [← Hb34.out]
                go_wp2_with fail
                rw [rounds_succ]
                go_wp2_with fail
                rw [rounds_succ]
                go_wp2_with fail
                go_ret3
                exact ⟨by rw [HM.out, HX.out]; rfl, Hw8.out⟩
              | true =>
                have HX : Hid (mostF y = 3) := hid (by rw [HX0]; simp; try omega)
                clear HX0
                go_wp2_with fail
                refine wp_loop_rounds 3 ?_
                rw [rounds_succ]
                go_wp2_with fail
                refine wp_loop_rounds 3 ?_
                rw [rounds_succ]
                go_wp2_with fail
                refine (HG.out 2 3 _ HB.out (by omega) (by omega) (by omega) (by rw [← HYL.out]; omega)).mono ?_
                rintro e w6 ⟨rfl, hB_⟩
                have Hw6 : Hid (Below w.heap.size w w6) := hid (HB.out.trans (hB_.mono HB.out.size))
                clear hB_
                rw [← Hb23.out]
                go_wp2_with fail
                rw [rounds_succ]
                go_wp2_with fail
                refine (HG.out 2 4 _ Hw6.out (by omega) (by omega) (by omega) (by rw [← HYL.out]; omega)).mono ?_
                rintro e w7 ⟨rfl, hB_⟩
                have Hw7 : Hid (Below w.heap.size w w7) := hid (Hw6.out.trans (hB_.mono Hw6.out.size))
                clear hB_
                rw [← Hb24.out]
                go_wp2_with fail
                rw [rounds_succ]
                go_wp2_with fail
                rw [rounds_succ]
                go_wp2_with fail
                refine wp_loop_rounds 2 ?_
                rw [rounds_succ]
                go_wp2_with fail
                refine (HG.out 3 4 _ Hw7.out (by omega) (by omega) (by omega) (by rw [← HYL.out]; omega)).mono ?_
                rintro e w8 ⟨rfl, hB_⟩
                have Hw8 : Hid (Below w.heap.size w w8) := hid (Hw7.out.trans (hB_.mono Hw7.out.size))
                clear hB_
                rw [← Hb34.out]
                go_wp2_with fail
                rw [rounds_succ]
                go_wp2_with fail
                rw [rounds_succ]
                go_wp2_with fail
                go_ret3
                exact ⟨by rw [HM.out, HX.out]; rfl, Hw8.out⟩
            | true =>
              cases b34 with
              | false =>
                have HX : Hid (mostF y = 2) := hid (by rw [HX0]; simp; try omega)
                clear HX0
                go_wp2_with fail
                refine wp_loop_rounds 3 ?_
                rw [rounds_succ]
                go_wp2_with fail
                refine wp_loop_rounds 3 ?_
                rw [rounds_succ]
                go_wp2_with fail
                refine (HG.out 2 3 _ HB.out (by omega) (by omega) (by omega) (by rw [← HYL.out]; omega)).mono ?_
                rintro e w6 ⟨rfl, hB_⟩
                have Hw6 : Hid (Below w.heap.size w w6) := hid (HB.out.trans (hB_.mono HB.out.size))
                clear hB_
                rw [← Hb23.out]
                go_wp2_with fail
                rw [rounds_succ]
                go_wp2_with fail
                refine (HG.out 2 4 _ Hw6.out (by omega) (by omega) (by omega) (by rw [← HYL.out]; omega)).mono ?_
                rintro e w7 ⟨rfl, hB_⟩
                have Hw7 : Hid (Below w.heap.size w w7) := hid (Hw6.out.trans (hB_.mono Hw6.out.size))
                clear hB_
                rw [← Hb24.out]
                go_wp2_with fail
                rw [rounds_succ]
                go_wp2_with fail
                rw [rounds_succ]
                go_wp2_with fail
                refine wp_loop_rounds 2 ?_
                rw [rounds_succ]
                go_wp2_with fail
                refine (HG.out 3 4 _ Hw7.out (by omega) (by omega) (by omega) (by rw [← HYL.out]; omega)).mono ?_
                rintro e w8 ⟨rfl, hB_⟩
                have Hw8 : Hid (Below w.heap.size w w8) := hid (Hw7.out.trans (hB_.mono Hw7.out.size))
                clear hB_
                rw [← Hb34.out]
                go_wp2_with fail
                rw [rounds_succ]
                go_wp2_with fail
                rw [rounds_succ]
                go_wp2_with fail
                go_ret3
                exact ⟨by rw [HM.out, HX.out]; rfl, Hw8.out⟩
              | true =>
                have HX : Hid (mostF y = 3) := hid (by rw [HX0]; simp; try omega)
                clear HX0
                go_wp2_with fail
                refine wp_loop_rounds 3 ?_
                rw [rounds_succ]
                go_wp2_with fail
                refine wp_loop_rounds 3 ?_
                rw [rounds_succ]
                go_wp2_with fail
                refine (HG.out 2 3 _ HB.out (by omega) (by omega) (by omega) (by rw [← HYL.out]; omega)).mono ?_
                rintro e w6 ⟨rfl, hB_⟩
                have Hw6 : Hid (Below w.heap.size w w6) := hid (HB.out.trans (hB_.mono HB.out.size))
                clear hB_
                rw [← Hb23.out]
                go_wp2_with fail
                rw [rounds_succ]
                go_wp2_with fail
                refine (HG.out 2 4 _ Hw6.out (by omega) (by omega) (by omega) (by rw [← HYL.out]; omega)).mono ?_
                rintro e w7 ⟨rfl, hB_⟩
                have Hw7 : Hid (Below w.heap.size w w7) := hid (Hw6.out.trans (hB_.mono Hw6.out.size))
                clear hB_
                rw [← Hb24.out]
                go_wp2_with fail
                rw [rounds_succ]
                go_wp2_with fail
                rw [rounds_succ]
                go_wp2_with fail
                refine wp_loop_rounds 2 ?_
                rw [rounds_succ]
                go_wp2_with fail
                refine (HG.out 3 4 _ Hw7.out (by omega) (by omega) (by omega) (by rw [← HYL.out]; omega)).mono ?_
                rintro e w8 ⟨rfl, hB_⟩
                have Hw8 : Hid (Below w.heap.size w w8) := hid (Hw7.out.trans (hB_.mono Hw7.out.size))
                clear hB_
                rw [← Hb34.out]
                go_wp2_with fail
                rw [rounds_succ]
                go_wp2_with fail
                rw [rounds_succ]
                go_wp2_with fail
                go_ret3
                exact ⟨by rw [HM.out, HX.out]; rfl, Hw8.out⟩
        · have d3' : ¬ (3 : Int) ≤ yl := by omega
          obtain ⟨b23, hb23⟩ : ∃ q, q = begF (y.take 2) 3 := ⟨_, rfl⟩
          obtain ⟨b24, hb24⟩ : ∃ q, q = begF (y.take 2) 4 := ⟨_, rfl⟩
          have Hb23 := hid hb23
          have Hb24 := hid hb24
          have HX0 : mostF y = if (3 ≤ yl ∧ begF (y.take 3) 4 = true) then 3 else if 2 ≤ yl ∧ (begF (y.take 2) 3 = true ∨ begF (y.take 2) 4 = true) then 2 else 1 := by unfold mostF; rw [← HYL.out]
          rw [← hb23, ← hb24] at HX0
          clear hb23 hb24
          cases b23 with
          | false =>
            cases b24 with
            | false =>
              have HX : Hid (mostF y = 1) := hid (by rw [HX0, if_neg (fun h => absurd h.1 (by omega))]; simp; try omega)
              clear HX0
              go_wp2_with fail
              refine wp_loop_rounds 3 ?_
              rw [rounds_succ]
              go_wp2_with fail
              refine wp_loop_rounds 3 ?_
              rw [rounds_succ]
              go_wp2_with fail
              refine (HG.out 2 3 _ HB.out (by omega) (by omega) (by omega) (by rw [← HYL.out]; omega)).mono ?_
              rintro e w6 ⟨rfl, hB_⟩
              have Hw6 : Hid (Below w.heap.size w w6) := hid (HB.out.trans (hB_.mono HB.out.size))
              clear hB_
              rw [← Hb23.out]
              go_wp2_with fail
              rw [rounds_succ]
              go_wp2_with fail
              refine (HG.out 2 4 _ Hw6.out (by omega) (by omega) (by omega) (by rw [← HYL.out]; omega)).mono ?_
              rintro e w7 ⟨rfl, hB_⟩
              have Hw7 : Hid (Below w.heap.size w w7) := hid (Hw6.out.trans (hB_.mono Hw6.out.size))
              clear hB_
              rw [← Hb24.out]
              go_wp2_with fail
              rw [rounds_succ]
              go_wp2_with fail
              rw [rounds_succ]
              go_wp2_with fail
              go_ret3
              exact ⟨by rw [HM.out, HX.out]; rfl, Hw7.out⟩
            | true =>
              have HX : Hid (mostF y = 2) := hid (by rw [HX0, if_neg (fun h => absurd h.1 (by omega))]; simp; try omega)
              clear HX0
              go_wp2_with fail
              refine wp_loop_rounds 3 ?_
              rw [rounds_succ]
              go_wp2_with fail
              refine wp_loop_rounds 3 ?_
              rw [rounds_succ]
              go_wp2_with fail
              refine (HG.out 2 3 _ HB.out (by omega) (by omega) (by omega) (by rw [← HYL.out]; omega)).mono ?_
              rintro e w6 ⟨rfl, hB_⟩
              have Hw6 : Hid (Below w.heap.size w w6) := hid (HB.out.trans (hB_.mono HB.out.size))
              clear hB_
              rw [← Hb23.out]
              go_wp2_with fail
              rw [rounds_succ]
              go_wp2_with fail
              refine (HG.out 2 4 _ Hw6.out (by omega) (by omega) (by omega) (by rw [← HYL.out]; omega)).mono ?_
              rintro e w7 ⟨rfl, hB_⟩
              have Hw7 : Hid (Below w.heap.size w w7) := hid (Hw6.out.trans (hB_.mono Hw6.out.size))
              clear hB_
              rw [← Hb24.out]
              go_wp2_with fail
              rw [rounds_succ]
              go_wp2_with fail
              rw [rounds_succ]
              go_wp2_with fail
              go_ret3
              exact ⟨by rw [HM.out, HX.out]; rfl, Hw7.out⟩
          | true =>
            cases b24 with
            | false =>
              have HX : Hid (mostF y = 2) := hid (by rw [HX0, if_neg (fun h => absurd h.1 (by omega))]; simp; try omega)
              clear HX0
              go_wp2_with fail
              refine wp_loop_rounds 3 ?_
              rw [rounds_succ]
              go_wp2_with fail
              refine wp_loop_rounds 3 ?_
              rw [rounds_succ]
              go_wp2_with fail
              refine (HG.out 2 3 _ HB.out (by omega) (by omega) (by omega) (by rw [← HYL.out]; omega)).mono ?_
              rintro e w6 ⟨rfl, hB_⟩
              have Hw6 : Hid (Below w.heap.size w w6) := hid (HB.out.trans (hB_.mono HB.out.size))
              clear hB_
              rw [← Hb23.out]
              go_wp2_with fail
              rw [rounds_succ]
              go_wp2_with fail
              refine (HG.out 2 4 _ Hw6.out (by omega) (by omega) (by omega) (by rw [← HYL.out]; omega)).mono ?_
              rintro e w7 ⟨rfl, hB_⟩
              have Hw7 : Hid (Below w.heap.size w w7) := hid (Hw6.out.trans (hB_.mono Hw6.out.size))
              clear hB_
              rw [← Hb24.out]
              go_wp2_with fail
              rw [rounds_succ]
              go_wp2_with fail
              rw [rounds_succ]
              go_wp2_with fail
              go_ret3
              exact ⟨by rw [HM.out, HX.out]; rfl, Hw7.out⟩
            | true =>
              have HX : Hid (mostF y = 2) := hid (by rw [HX0, if_neg (fun h => absurd h.1 (by omega))]; simp; try omega)
              clear HX0
              go_wp2_with fail
              refine wp_loop_rounds 3 ?_
              rw [rounds_succ]
              go_wp2_with fail
              refine wp_loop_rounds 3 ?_
              rw [rounds_succ]
              go_wp2_with fail
              refine (HG.out 2 3 _ HB.out (by omega) (by omega) (by omega) (by rw [← HYL.out]; omega)).mono ?_
              rintro e w6 ⟨rfl, hB_⟩
              have Hw6 : Hid (Below w.heap.size w w6) := hid (HB.out.trans (hB_.mono HB.out.size))
              clear hB_
              rw [← Hb23.out]
              go_wp2_with fail
              rw [rounds_succ]
              go_wp2_with fail
              refine (HG.out 2 4 _ Hw6.out (by omega) (by omega) (by omega) (by rw [← HYL.out]; omega)).mono ?_
              rintro e w7 ⟨rfl, hB_⟩
              have Hw7 : Hid (Below w.heap.size w w7) := hid (Hw6.out.trans (hB_.mono Hw6.out.size))
              clear hB_
              rw [← Hb24.out]
              go_wp2_with fail
              rw [rounds_succ]
              go_wp2_with fail
              rw [rounds_succ]
              go_wp2_with fail
              go_ret3
              exact ⟨by rw [HM.out, HX.out]; rfl, Hw7.out⟩
      · have d2' : ¬ (2 : Int) ≤ yl := by omega
        have HX : Hid (mostF y = 1) := hid (by unfold mostF; rw [if_neg (by rw [← HYL.out]; omega), if_neg (by rw [← HYL.out]; omega)])
        go_wp2_with fail
        refine wp_loop_rounds 1 ?_
        rw [rounds_succ]
        go_wp2_with fail
        go_ret3
        exact ⟨by rw [HM.out, HX.out]; rfl, HB.out⟩
end Go.Proofs.YtmkmikacfilbpaaGreat
