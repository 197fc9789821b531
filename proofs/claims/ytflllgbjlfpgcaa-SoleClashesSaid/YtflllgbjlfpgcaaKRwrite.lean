/-
  The reference's writes.
-/
import Derived.Test.YtflllgbjlfpgcaaKRfits
namespace Go.Proofs.Ytflllgbjlfpgcaa
open Go.RowKit Go.Um Go.Proofs
set_option maxHeartbeats 2000000 in
set_option maxRecDepth 100000 in
theorem RWrites_calls (inn out a3 a4 : Int) (r f tv gv : Value) (ts : List Term) (gs : List (List Span)) (w : World) (ht : (listR termR).rel w (upto w.heap.size) [tv] ts) (hs : (listR spansR).rel w (upto w.heap.size) [gv] gs) (hg : goodG gs) (hgl : ∀ g ∈ gs, g.length ≤ 90000) (hby : inn = 1 → ∀ g ∈ gs, ∀ z, mem g z → z ≤ 255) :
    Calls Try.prog 23 #[.agg #[.int .i64 inn, .int .i64 out, .int .i64 a3, .int .i64 a4, r, f], tv, gv] w fun e w' => e = .returned (.bool (writesF inn out ts gs)) ∧ Below w.heap.size w w' := by
  obtain ⟨A, c, rfl, hc, hm⟩ := list_form ht
  obtain ⟨A2, c2, rfl, hc2, hm2⟩ := list_form hs
  unfold maxLen at hm hm2
  have HF : Hid (writesF inn out ts gs = (decide (ts.length ≤ 64) && ts.all fun t => fitsF t inn out gs)) := hid rfl
  have hbx := heap_alloc_new w (.cells #[.int .i64 inn, .int .i64 out, .int .i64 a3, .int .i64 a4, r, f] 26)
  have hB0 := (Below.refl w.heap.size w).alloc (Nat.le_refl _) (.cells #[.int .i64 inn, .int .i64 out, .int .i64 a3, .int .i64 a4, r, f] 26)
  by_cases h64 : 64 < ts.length
  · have h64' : ¬ (ts.length : Int) ≤ 64 := by omega
    have h0' : (0 : Int) < ts.length := by omega
    have hF : Hid (writesF inn out ts gs = false) := hid (by rw [HF.out, decide_eq_false (by omega)]; rfl)
    clear h64 ht hs hbx
    go_enter Try.func23, Try.ntmps23
    go_wp2_with fail
    generalize w.alloc (.cells #[.int .i64 inn, .int .i64 out, .int .i64 a3, .int .i64 a4, r, f] 26) = w0 at *
    go_loop [7] (fun vi => vi = .int .i64 0) (fun _ => 0)
    case atStart => exact rfl
    case round =>
      subst hrel
      go_wp2_with fail
      go_ret
      exact ⟨by rw [hF.out]; show Ending.returned (.bool (decide ((ts.length : Int) ≤ 64))) = _; rw [decide_eq_false (by omega)], hB0⟩
  · have h64' : (ts.length : Int) ≤ 64 := by omega
    have hF : Hid (writesF inn out ts gs = ts.all fun t => fitsF t inn out gs) := hid (by rw [HF.out, decide_eq_true (by omega)]; rfl)
    clear h64 HF
    go_enter Try.func23, Try.ntmps23
    go_wp2_with fail
    generalize w.alloc (.cells #[.int .i64 inn, .int .i64 out, .int .i64 a3, .int .i64 a4, r, f] 26) = w0 at *
    go_loopw [7] (fun vi wr => ∃ k : Nat, k ≤ ts.length ∧ vi = .int .i64 k ∧ Hid ((ts.drop k).all (fun t => fitsF t inn out gs) = ts.all fun t => fitsF t inn out gs) ∧ Below w0.heap.size w0 wr) (fun vi _ => ts.length - (intOf vi).toNat)
    case atStart => exact ⟨0, Nat.zero_le _, rfl, hid rfl, Below.refl _ _⟩
    case round =>
      obtain ⟨k, hk, rfl, HP, hB⟩ := hrel
      obtain ⟨wo, hwo⟩ : ∃ wo, wo = wr := ⟨_, rfl⟩
      subst hwo
      have hBw : Below w.heap.size w wo := hB0.trans (hB.mono hB0.size)
      by_cases hlt : k < ts.length
      · obtain ⟨t, hx⟩ := at_lt hlt
        have hlt' : (k : Int) < ts.length := by omega
        have hrw := (listR termR).mono (below_cells hBw) (fun _ h => h) ht
        obtain ⟨tb, to, pv, rfl, hbS, t0, t1, t2, t3, t4, t5, hi64, hpr⟩ := term_at hrw hx
        obtain ⟨A3, c3, rfl, hc3, hm3⟩ := list_form hpr
        have hbs : tb < wo.heap.size := Nat.lt_of_lt_of_le hbS hBw.size
        have HFit := hid fun W (hW : Below wo.heap.size wo W) => RFits_calls t inn out gs (.slice A3 t.parts.length c3) (.slice A2 gs.length c2) W ((listR partR).mono (fun p hp => hW.cell (Nat.lt_of_lt_of_le hp hBw.size)) (fun b hb => Nat.lt_of_lt_of_le hb (Nat.le_trans hBw.size hW.size)) hpr) ((listR spansR).below hs (hBw.trans (hW.mono hBw.size)) (Nat.le_trans hBw.size hW.size)) hg hgl hby
        have HP2 : Hid ((fitsF t inn out gs && (ts.drop (k + 1)).all (fun t => fitsF t inn out gs)) = ts.all fun t => fitsF t inn out gs) := hid (by have := HP.out; rw [drop_cons hx] at this; exact this)
        have hbo := (hB.block w.heap.size (heap_lt hbx)).trans hbx
        have d0 := cell_of_row _ _ 0 _ _ _ hbo
        have d1 := cell_of_row _ _ 1 _ _ _ hbo
        have hwl := heap_lt hbo
        simp at d0 d1
        unfold tval at HFit
        clear hx hrw hpr HP hbo
        cases hfit : fitsF t inn out gs
        · rw [hfit] at HFit HP2
          have hG : Hid (false = ts.all fun t => fitsF t inn out gs) := hid (by rw [← HP2.out]; rfl)
          clear hfit HP2
          go_wp2_with fail
          obtain ⟨ι, W, ⟨i0, hi0⟩, hW, Wsur⟩ := ext_class wo.drew
          have hne : Nonempty ι := ⟨i0⟩
          have WS := hid Wsur; clear Wsur
          have HW := hid hW; clear hW
          have Hi0 := hid hi0; clear hi0
          have g0 : ∀ i, (W i).cell? ⟨tb, to + k * 6, none⟩ = _ := fun i => ((HW.out i).cell (p := ⟨tb, to + k * 6, none⟩) hbs).trans t0
          have g1 : ∀ i, (W i).cell? ⟨tb, to + k * 6 + 1, none⟩ = _ := fun i => ((HW.out i).cell (p := ⟨tb, to + k * 6 + 1, none⟩) hbs).trans t1
          have g2 : ∀ i, (W i).cell? ⟨tb, to + k * 6 + 2, none⟩ = _ := fun i => ((HW.out i).cell (p := ⟨tb, to + k * 6 + 2, none⟩) hbs).trans t2
          have g3 : ∀ i, (W i).cell? ⟨tb, to + k * 6 + 3, none⟩ = _ := fun i => ((HW.out i).cell (p := ⟨tb, to + k * 6 + 3, none⟩) hbs).trans t3
          have g4 : ∀ i, (W i).cell? ⟨tb, to + k * 6 + 4, none⟩ = _ := fun i => ((HW.out i).cell (p := ⟨tb, to + k * 6 + 4, none⟩) hbs).trans t4
          have g5 : ∀ i, (W i).cell? ⟨tb, to + k * 6 + 5, none⟩ = _ := fun i => ((HW.out i).cell (p := ⟨tb, to + k * 6 + 5, none⟩) hbs).trans t5
          have g6 : ∀ i, (W i).cell? ⟨w.heap.size, 0, none⟩ = _ := fun i => ((HW.out i).cell (p := ⟨w.heap.size, 0, none⟩) hwl).trans d0
          have g7 : ∀ i, (W i).cell? ⟨w.heap.size, 1, none⟩ = _ := fun i => ((HW.out i).cell (p := ⟨w.heap.size, 1, none⟩) hwl).trans d1
          refine region_anyL (S := fun w' => ∃ i, w' = W i) (last := 11) (by kernel_rfl) ?_
          refine anyL_seg 0 4 (by kernel_rfl) (fun _ _ _ _ _ h => h) ⟨i0, Hi0.out.symm⟩ (f := 7) rfl (by kernel_rfl) (by kernel_rfl) ?_
          simp only [List.drop_zero, List.take_succ_cons, List.take_zero]
          repeat go_big_quiet_step (fail)
          refine wpQuiet_nil ?_
          refine anyL_seg 4 5 (by kernel_rfl) (fun _ _ _ _ _ h => h) ⟨i0, Hi0.out.symm⟩ (f := 2) rfl (by kernel_rfl) (by kernel_rfl) ?_
          simp only [List.drop_succ_cons, List.drop_zero, List.take_succ_cons, List.take_zero]
          repeat go_big_quiet_step (fail)
          refine wpQuiet_nil ?_
          refine anyL_act (i := 9) (by kernel_rfl) rfl rfl ?_
          intro K hK
          go_wp2_with fail
          refine (HFit.out _ (Below.refl _ wo).drew).mono ?_
          rintro e w3 ⟨rfl, hB3⟩
          have hS3 : ∃ i, w3 = W i := WS.out i0 _ (by rw [Hi0.out]; exact hB3)
          go_wp2_with fail
          refine hK.out _ _ (fun _ => hS3) ?_
          clear hK K
          refine anyL_seg 10 1 (by kernel_rfl) (fun _ _ _ _ _ h => h) hS3 (f := 0) rfl (by kernel_rfl) (by kernel_rfl) ?_
          simp only [List.drop_succ_cons, List.drop_zero, List.take_succ_cons, List.take_zero]
          repeat go_big_quiet_step (fail)
          refine wpQuiet_nil ?_
          refine anyL_done (by kernel_rfl) ?_ 0
          have hB3w := hB.trans (show Below w0.heap.size wo w3 from ⟨hB3.os, hB3.tape, hB3.output, hB3.size, fun q hq => hB3.block q (Nat.lt_of_lt_of_le hq hB.size)⟩)
          have hBw3 := hB0.trans (hB3w.mono hB0.size)
          clear g0 g1 g2 g3 g4 g5 g6 g7 WS HW Hi0 hne i0 W ι hS3
          go_wp2_with fail
          go_ret
          exact ⟨by rw [hF.out, ← hG.out]; rfl, hBw3⟩
        · rw [hfit] at HFit HP2
          have hG : Hid ((ts.drop (k + 1)).all (fun t => fitsF t inn out gs) = ts.all fun t => fitsF t inn out gs) := hid (by rw [← HP2.out]; rfl)
          clear hfit HP2
          go_wp2_with fail
          obtain ⟨ι, W, ⟨i0, hi0⟩, hW, Wsur⟩ := ext_class wo.drew
          have hne : Nonempty ι := ⟨i0⟩
          have WS := hid Wsur; clear Wsur
          have HW := hid hW; clear hW
          have Hi0 := hid hi0; clear hi0
          have g0 : ∀ i, (W i).cell? ⟨tb, to + k * 6, none⟩ = _ := fun i => ((HW.out i).cell (p := ⟨tb, to + k * 6, none⟩) hbs).trans t0
          have g1 : ∀ i, (W i).cell? ⟨tb, to + k * 6 + 1, none⟩ = _ := fun i => ((HW.out i).cell (p := ⟨tb, to + k * 6 + 1, none⟩) hbs).trans t1
          have g2 : ∀ i, (W i).cell? ⟨tb, to + k * 6 + 2, none⟩ = _ := fun i => ((HW.out i).cell (p := ⟨tb, to + k * 6 + 2, none⟩) hbs).trans t2
          have g3 : ∀ i, (W i).cell? ⟨tb, to + k * 6 + 3, none⟩ = _ := fun i => ((HW.out i).cell (p := ⟨tb, to + k * 6 + 3, none⟩) hbs).trans t3
          have g4 : ∀ i, (W i).cell? ⟨tb, to + k * 6 + 4, none⟩ = _ := fun i => ((HW.out i).cell (p := ⟨tb, to + k * 6 + 4, none⟩) hbs).trans t4
          have g5 : ∀ i, (W i).cell? ⟨tb, to + k * 6 + 5, none⟩ = _ := fun i => ((HW.out i).cell (p := ⟨tb, to + k * 6 + 5, none⟩) hbs).trans t5
          have g6 : ∀ i, (W i).cell? ⟨w.heap.size, 0, none⟩ = _ := fun i => ((HW.out i).cell (p := ⟨w.heap.size, 0, none⟩) hwl).trans d0
          have g7 : ∀ i, (W i).cell? ⟨w.heap.size, 1, none⟩ = _ := fun i => ((HW.out i).cell (p := ⟨w.heap.size, 1, none⟩) hwl).trans d1
          refine region_anyL (S := fun w' => ∃ i, w' = W i) (last := 11) (by kernel_rfl) ?_
          refine anyL_seg 0 4 (by kernel_rfl) (fun _ _ _ _ _ h => h) ⟨i0, Hi0.out.symm⟩ (f := 7) rfl (by kernel_rfl) (by kernel_rfl) ?_
          simp only [List.drop_zero, List.take_succ_cons, List.take_zero]
          repeat go_big_quiet_step (fail)
          refine wpQuiet_nil ?_
          refine anyL_seg 4 5 (by kernel_rfl) (fun _ _ _ _ _ h => h) ⟨i0, Hi0.out.symm⟩ (f := 2) rfl (by kernel_rfl) (by kernel_rfl) ?_
          simp only [List.drop_succ_cons, List.drop_zero, List.take_succ_cons, List.take_zero]
          repeat go_big_quiet_step (fail)
          refine wpQuiet_nil ?_
          refine anyL_act (i := 9) (by kernel_rfl) rfl rfl ?_
          intro K hK
          go_wp2_with fail
          refine (HFit.out _ (Below.refl _ wo).drew).mono ?_
          rintro e w3 ⟨rfl, hB3⟩
          have hS3 : ∃ i, w3 = W i := WS.out i0 _ (by rw [Hi0.out]; exact hB3)
          go_wp2_with fail
          refine hK.out _ _ (fun _ => hS3) ?_
          clear hK K
          refine anyL_seg 10 1 (by kernel_rfl) (fun _ _ _ _ _ h => h) hS3 (f := 0) rfl (by kernel_rfl) (by kernel_rfl) ?_
          simp only [List.drop_succ_cons, List.drop_zero, List.take_succ_cons, List.take_zero]
          repeat go_big_quiet_step (fail)
          refine wpQuiet_nil ?_
          refine anyL_done (by kernel_rfl) ?_ 0
          have hB3w := hB.trans (show Below w0.heap.size wo w3 from ⟨hB3.os, hB3.tape, hB3.output, hB3.size, fun q hq => hB3.block q (Nat.lt_of_lt_of_le hq hB.size)⟩)
          have hBw3 := hB0.trans (hB3w.mono hB0.size)
          clear g0 g1 g2 g3 g4 g5 g6 g7 WS HW Hi0 hne i0 W ι hS3
          go_wp2_with fail
          have HE : Hid (∃ j' : Nat, j' ≤ ts.length ∧ Value.int .i64 ((k : Int) + 1) = .int .i64 j' ∧ Hid ((ts.drop j').all (fun t => fitsF t inn out gs) = ts.all fun t => fitsF t inn out gs) ∧ Below w0.heap.size w0 w3) := hid ⟨k + 1, by omega, by push_cast; rfl, hG, hB3w⟩
          first
            | (refine ⟨HE.out, ?_⟩; simp [intOf]; omega)
            | (go_simp; refine ⟨by simpa using HE.out, ?_⟩; simp [intOf]; omega)
      · obtain rfl : k = ts.length := by omega
        have HP2 : Hid (true = ts.all fun t => fitsF t inn out gs) := hid (by rw [← HP.out, List.drop_length]; rfl)
        clear HP
        go_wp2_with fail
        go_ret
        exact ⟨by rw [hF.out, ← HP2.out]; rfl, hBw⟩
end Go.Proofs.Ytflllgbjlfpgcaa
