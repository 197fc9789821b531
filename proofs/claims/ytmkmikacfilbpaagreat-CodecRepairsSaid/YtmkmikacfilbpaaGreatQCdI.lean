/-
  The scalar of one to four bytes, as the reference finds it.
-/
import Derived.Test.YtmkmikacfilbpaaGreatQCdH
namespace Go.Proofs.YtmkmikacfilbpaaGreat
open Go.RowKit Go.Um Go.Proofs
set_option maxHeartbeats 1000000 in
set_option maxRecDepth 100000 in
theorem rscal1 (a : Int) (v : Value) (w : World) (h : bytesR.rel w (upto w.heap.size) [v] [a]) :
    Calls Tryz.prog 98 #[v] w fun e w' => e = .returned (.tuple #[.int .i32 ((scalF [a]).getD 0), .bool (scalF [a]).isSome]) ∧ Below w.heap.size w w' := by
  have HB := hid fun z W => rbytes_calls z W
  obtain ⟨A, cp, rfl, hcp, hm⟩ := list_form h
  unfold maxLen at hm
  obtain ⟨G, O, rfl, hG, c0, ha0, ha1⟩ := byte_at h (i := 0) (x := a) rfl
  have HY : Hid (byteL [a]) := hid (by intro x hx; simp only [List.mem_cons, List.not_mem_nil, or_false] at hx; omega)
  have hvb : valB [a] = a := by simp [valB, leadF]
  have HV := hid hvb
  have HH := hid h
  have hcw : ∀ W : World, (∀ p : Addr, p.block < w.heap.size → W.cell? p = w.cell? p) → (convert 37 9 (.slice (some ⟨G, O, none⟩) 1 cp)).run Tryz.prog W = .ok (.string (strOfNums [a])) W := fun W hW =>
    conv_bytes (xs := [a]) (S := upto w.heap.size) (by simp) (bytesR.mono (fun p hp => hW p hp) (fun _ h => h) h)
  have HCW := hid hcw
  clear hcw
  have HSF : Hid (scalF [a] = if valB [a] < 0 ∨ 1114111 < valB [a] ∨ bytesF (valB [a]) ≠ [a] then none else some (valB [a])) := hid rfl
  obtain ⟨sf, hsf⟩ : ∃ sf, sf = scalF [a] := ⟨_, rfl⟩
  rw [← hsf] at HSF ⊢
  clear h hvb hsf
  simp only [Nat.add_zero] at c0
  simp only [List.length_cons, List.length_nil, Nat.zero_add] at hcp ⊢
  go_enter Tryz.func98, Tryz.ntmps98
  go_wp2_with fail
  obtain ⟨ι, Wc, ⟨i0, hi0⟩, hWc, Wsur⟩ := held_class w.drew (fun g => g < w.heap.size)
  have hne : Nonempty ι := ⟨i0⟩
  have WS := hid Wsur; clear Wsur
  have HWc := hid hWc; clear hWc
  have Hi0 := hid hi0; clear hi0
  have g1 : ∀ i, (Wc i).cell? ⟨G, O, none⟩ = some (.int .u8 a) := fun i => (cell_of_heap_eq (p := ⟨G, O, none⟩) (HWc.out i _ hG)).trans c0
  refine region_anyL (S := fun w' => ∃ i, w' = Wc i) (last := 9) (by kernel_rfl) ?_
  refine anyL_seg 0 4 (by kernel_rfl) (fun _ _ _ _ _ h => h) ⟨i0, Hi0.out.symm⟩ (f := 6) rfl (by kernel_rfl) (by kernel_rfl) ?_
  simp only [List.drop_zero, List.take_succ_cons, List.take_zero]
  repeat go_big_quiet_step (fail)
  refine wpQuiet_nil ?_
  refine anyL_seg 5 1 (by kernel_rfl) (fun _ _ _ _ _ h => h) ⟨i0, Hi0.out.symm⟩ (f := 5) rfl (by kernel_rfl) (by kernel_rfl) ?_
  simp only [List.drop_succ_cons, List.drop_zero, List.take_succ_cons, List.take_zero]
  repeat go_big_quiet_step (fail)
  refine wpQuiet_nil ?_
  refine anyL_act (i := 4) (by kernel_rfl) rfl rfl ?_
  intro K hK
  go_wp2_with fail
  obtain ⟨wa, hwa⟩ : ∃ wa, wa = (w.alloc (.cells #[.int .i64 0, .int .i64 0, .int .i64 192, .int .i64 224, .int .i64 240] 3)).drew := ⟨_, rfl⟩
  rw [← hwa]
  have hBa : Below w.heap.size w wa := by rw [hwa]; exact ((Below.refl _ w).alloc (Nat.le_refl _) _).drew
  have la : wa.cell? ⟨w.heap.size, 1, none⟩ = some (.int .i64 0) := by
    rw [hwa]
    exact Lib.cell_of_heap (heap_alloc_new w _) _
  have hS1 : ∃ i, wa = Wc i := WS.out _ (fun g hg => by rw [hwa]; exact Below.heap_alloc _ _ _ hg)
  refine hK.out _ _ (fun _ => hS1) ?_
  clear hK K hwa
  refine anyL_act (i := 6) (by kernel_rfl) rfl rfl ?_
  intro K hK
  go_wp2_with fail
  refine hK.out _ _ (fun _ => hS1) ?_
  clear hK K
  refine anyL_act (i := 7) (by kernel_rfl) rfl rfl ?_
  intro K hK
  go_wp2_with fail
  refine hK.out _ _ (fun _ => hS1) ?_
  clear hK K
  refine anyL_act (i := 8) (by kernel_rfl) rfl rfl ?_
  intro K hK
  go_wp2_with fail
  refine hK.out _ _ (fun _ => hS1) ?_
  clear hK K
  refine anyL_act (i := 9) (by kernel_rfl) rfl rfl ?_
  intro K hK
  go_wp2_with fail
  refine hK.out _ _ (fun _ => hS1) ?_
  clear hK K
  refine anyL_done (by kernel_rfl) ?_ 0

  have d0 := (hBa.cell (p := ⟨G, O, none⟩) hG).trans c0
  have HBA := hid hBa
  clear hBa la hS1 WS HWc Hi0 hne i0 Wc ι g1 c0
  go_wp2_with fail
  refine wp_loop_rounds 1 ?_
  rw [rounds_succ]
  go_wp2_with fail
  have hn : ¬ a < 0 := by omega
  have hp : ¬ 1114111 < a := by omega
  obtain ⟨ι, Wc, ⟨i0, hi0⟩, hWc, Wsur⟩ := held_class wa.drew (fun g => g < wa.heap.size)
  have hne : Nonempty ι := ⟨i0⟩
  have WS := hid Wsur; clear Wsur
  have HWc := hid hWc; clear hWc
  have Hi0 := hid hi0; clear hi0
  have hsz := HBA.out.size
  have hcv : ∀ i, (convert 37 9 (.slice (some ⟨G, O, none⟩) 1 cp)).run Tryz.prog (Wc i) = .ok (.string (strOfNums [a])) (Wc i) := fun i =>
    HCW.out _ fun p hp => (cell_of_heap_eq (p := p) (HWc.out i _ (Nat.lt_of_lt_of_le hp hsz))).trans (HBA.out.cell hp)
  refine region_anyL (S := fun w' => ∃ i, w' = Wc i) (last := 15) (by kernel_rfl) ?_
  refine anyL_seg 0 9 (by kernel_rfl) (fun _ _ _ _ _ h => h) ⟨i0, Hi0.out.symm⟩ (f := 6) rfl (by kernel_rfl) (by kernel_rfl) ?_
  simp only [List.drop_zero, List.take_succ_cons, List.take_zero]
  repeat go_big_quiet_step (fail)
  refine wpQuiet_nil ?_
  refine anyL_seg 11 2 (by kernel_rfl) (fun _ _ _ _ _ h => h) ⟨i0, Hi0.out.symm⟩ (f := 4) rfl (by kernel_rfl) (by kernel_rfl) ?_
  simp only [List.drop_succ_cons, List.drop_zero, List.take_succ_cons, List.take_zero]
  repeat go_big_quiet_step (fail)
  refine wpQuiet_nil ?_
  refine anyL_actG (i := 9) (by kernel_rfl) rfl (by rfl) ?_
  intro K hK
  go_wp2_with fail
  refine (HB.out a _).mono ?_
  rintro e w5 ⟨u, rfl, hu, hB5⟩
  have hcu := conv_own hu
  have hBw5 : Below w.heap.size w w5 := HBA.out.trans ((show Below wa.heap.size wa w5 from ⟨hB5.os, hB5.tape, hB5.output, hB5.size, hB5.block⟩).mono hsz)
  have hS2 : ∃ i, w5 = Wc i := WS.out _ (fun g hg => hB5.block g hg)
  have HBu : Hid (byteL (bytesF a)) := hid hu.2
  have HBW := hid hBw5
  clear hu hB5 hBw5
  refine hK.out _ _ (fun _ => hS2) ?_
  clear hK K
  refine anyL_actG (i := 10) (by kernel_rfl) rfl (by rfl) ?_
  intro K hK
  go_wp2_with fail
  refine hK.out _ _ (fun _ => hS2) ?_
  clear hK K hcu hcv
  have hin : strOfNums (bytesF a) = strOfNums [a] ↔ bytesF a = [a] := str_inj HBu.out HY.out
  by_cases hq : bytesF a = [a]
  · have HSN : Hid (sf = some a) := hid (by rw [HSF.out, HV.out, if_neg (fun h => h.elim (Int.not_lt.2 hn) fun h => h.elim (Int.not_lt.2 hp) fun h => h hq)])
    have hsq := hin.2 hq
    obtain ⟨s1, hs1⟩ : ∃ s1, s1 = strOfNums (bytesF a) := ⟨_, rfl⟩
    rw [← hsq, ← hs1]
    clear hin hq HSF hsq hs1
    refine anyL_actG (i := 13) (by kernel_rfl) rfl (by rfl) ?_
    intro K hK
    go_wp2_with fail
    refine hK.out _ _ (fun _ => hS2) ?_
    clear hK K
    refine anyL_act (i := 14) (by kernel_rfl) rfl rfl ?_
    intro K hK
    go_wp2_with fail
    refine hK.out _ _ (fun _ => hS2) ?_
    clear hK K
    refine anyL_done (by kernel_rfl) ?_ 0
    clear WS HWc Hi0 hne i0 hS2 Wc ι
    go_wp2_with fail
    go_ret2
    exact ⟨by rw [HSN.out]; rfl, HBW.out⟩
  · have HSN : Hid (sf = none) := hid (by rw [HSF.out, HV.out, if_pos (.inr (.inr hq))])
    have hsq := fun h => hq (hin.1 h)
    obtain ⟨s1, hs1⟩ : ∃ s1, s1 = strOfNums (bytesF a) := ⟨_, rfl⟩
    obtain ⟨s2, hs2⟩ : ∃ s2, s2 = strOfNums [a] := ⟨_, rfl⟩
    rw [← hs1, ← hs2] at hsq ⊢
    have hsb : (s1.toList == s2.toList) = false := Bool.eq_false_iff.2 fun h => hsq (bytes_ext (eq_of_beq h))
    clear hin hq HSF hs1 hs2 hsq
    refine anyL_actG (i := 13) (by kernel_rfl) rfl (by rfl) ?_
    intro K hK
    go_wp2_with fail
    refine hK.out _ _ (fun _ => hS2) ?_
    clear hK K
    refine anyL_act (i := 14) (by kernel_rfl) rfl rfl ?_
    intro K hK
    go_wp2_with fail
    refine hK.out _ _ (fun _ => hS2) ?_
    clear hK K
    refine anyL_done (by kernel_rfl) ?_ 0
    clear WS HWc Hi0 hne i0 hS2 Wc ι
    go_wp2_with fail
    go_ret2
    exact ⟨by rw [HSN.out]; rfl, HBW.out⟩
set_option maxHeartbeats 1000000 in
set_option maxRecDepth 100000 in
theorem rscal2 (a b : Int) (v : Value) (w : World) (h : bytesR.rel w (upto w.heap.size) [v] [a, b]) :
    Calls Tryz.prog 98 #[v] w fun e w' => e = .returned (.tuple #[.int .i32 ((scalF [a, b]).getD 0), .bool (scalF [a, b]).isSome]) ∧ Below w.heap.size w w' := by
  have HB := hid fun z W => rbytes_calls z W
  obtain ⟨A, cp, rfl, hcp, hm⟩ := list_form h
  unfold maxLen at hm
  obtain ⟨G, O, rfl, hG, c0, ha0, ha1⟩ := byte_at h (i := 0) (x := a) rfl
  obtain ⟨G', O', he, _, c1, hb0, hb1⟩ := byte_at h (i := 1) (x := b) rfl
  injection he with he
  injection he with e1 e2
  subst e1 e2
  have HY : Hid (byteL [a, b]) := hid (by intro x hx; simp only [List.mem_cons, List.not_mem_nil, or_false] at hx; omega)
  have hvb : valB [a, b] = (a - 192) * 64 + b - 128 := by simp [valB, leadF]
  have HV := hid hvb
  have HH := hid h
  have hcw : ∀ W : World, (∀ p : Addr, p.block < w.heap.size → W.cell? p = w.cell? p) → (convert 37 9 (.slice (some ⟨G, O, none⟩) 2 cp)).run Tryz.prog W = .ok (.string (strOfNums [a, b])) W := fun W hW =>
    conv_bytes (xs := [a, b]) (S := upto w.heap.size) (by simp) (bytesR.mono (fun p hp => hW p hp) (fun _ h => h) h)
  have HCW := hid hcw
  clear hcw
  have HSF : Hid (scalF [a, b] = if valB [a, b] < 0 ∨ 1114111 < valB [a, b] ∨ bytesF (valB [a, b]) ≠ [a, b] then none else some (valB [a, b])) := hid rfl
  obtain ⟨sf, hsf⟩ : ∃ sf, sf = scalF [a, b] := ⟨_, rfl⟩
  rw [← hsf] at HSF ⊢
  clear h hvb hsf
  simp only [Nat.add_zero] at c0
  simp only [List.length_cons, List.length_nil, Nat.zero_add, Nat.reduceAdd] at hcp ⊢
  go_enter Tryz.func98, Tryz.ntmps98
  go_wp2_with fail
  obtain ⟨ι, Wc, ⟨i0, hi0⟩, hWc, Wsur⟩ := held_class w.drew (fun g => g < w.heap.size)
  have hne : Nonempty ι := ⟨i0⟩
  have WS := hid Wsur; clear Wsur
  have HWc := hid hWc; clear hWc
  have Hi0 := hid hi0; clear hi0
  have g1 : ∀ i, (Wc i).cell? ⟨G, O, none⟩ = some (.int .u8 a) := fun i => (cell_of_heap_eq (p := ⟨G, O, none⟩) (HWc.out i _ hG)).trans c0
  refine region_anyL (S := fun w' => ∃ i, w' = Wc i) (last := 9) (by kernel_rfl) ?_
  refine anyL_seg 0 4 (by kernel_rfl) (fun _ _ _ _ _ h => h) ⟨i0, Hi0.out.symm⟩ (f := 6) rfl (by kernel_rfl) (by kernel_rfl) ?_
  simp only [List.drop_zero, List.take_succ_cons, List.take_zero]
  repeat go_big_quiet_step (fail)
  refine wpQuiet_nil ?_
  refine anyL_seg 5 1 (by kernel_rfl) (fun _ _ _ _ _ h => h) ⟨i0, Hi0.out.symm⟩ (f := 5) rfl (by kernel_rfl) (by kernel_rfl) ?_
  simp only [List.drop_succ_cons, List.drop_zero, List.take_succ_cons, List.take_zero]
  repeat go_big_quiet_step (fail)
  refine wpQuiet_nil ?_
  refine anyL_act (i := 4) (by kernel_rfl) rfl rfl ?_
  intro K hK
  go_wp2_with fail
  obtain ⟨wa, hwa⟩ : ∃ wa, wa = (w.alloc (.cells #[.int .i64 0, .int .i64 0, .int .i64 192, .int .i64 224, .int .i64 240] 3)).drew := ⟨_, rfl⟩
  rw [← hwa]
  have hBa : Below w.heap.size w wa := by rw [hwa]; exact ((Below.refl _ w).alloc (Nat.le_refl _) _).drew
  have la : wa.cell? ⟨w.heap.size, 2, none⟩ = some (.int .i64 192) := by
    rw [hwa]
    exact Lib.cell_of_heap (heap_alloc_new w _) _
  have hS1 : ∃ i, wa = Wc i := WS.out _ (fun g hg => by rw [hwa]; exact Below.heap_alloc _ _ _ hg)
  refine hK.out _ _ (fun _ => hS1) ?_
  clear hK K hwa
  refine anyL_act (i := 6) (by kernel_rfl) rfl rfl ?_
  intro K hK
  go_wp2_with fail
  refine hK.out _ _ (fun _ => hS1) ?_
  clear hK K
  refine anyL_act (i := 7) (by kernel_rfl) rfl rfl ?_
  intro K hK
  go_wp2_with fail
  refine hK.out _ _ (fun _ => hS1) ?_
  clear hK K
  refine anyL_act (i := 8) (by kernel_rfl) rfl rfl ?_
  intro K hK
  go_wp2_with fail
  refine hK.out _ _ (fun _ => hS1) ?_
  clear hK K
  refine anyL_act (i := 9) (by kernel_rfl) rfl rfl ?_
  intro K hK
  go_wp2_with fail
  refine hK.out _ _ (fun _ => hS1) ?_
  clear hK K
  refine anyL_done (by kernel_rfl) ?_ 0

  have d0 := (hBa.cell (p := ⟨G, O, none⟩) hG).trans c0
  have d1 := (hBa.cell (p := ⟨G, O + 1, none⟩) hG).trans c1
  have HBA := hid hBa
  clear hBa la hS1 WS HWc Hi0 hne i0 Wc ι g1 c0 c1
  go_wp2_with fail
  refine wp_loop_rounds 2 ?_
  rw [rounds_succ]
  go_wp2_with fail
  rw [rounds_succ]
  go_wp2_with fail
  generalize hVe : (a - 192) * 64 + b - 128 = V at *
  have hVb : -100000000 ≤ V ∧ V ≤ 100000000 := by omega
  have HVe := hid hVe
  clear hVe
  by_cases hn : V < 0
  · have HSN : Hid (sf = none) := hid (by rw [HSF.out, HV.out, if_pos (.inl hn)])
    clear HSF
    go_wp2_with fail
    go_quiet (fail)
    have HBn : Hid (Below w.heap.size w (wa.drewN nq)) := hid ⟨HBA.out.os, HBA.out.tape, HBA.out.output, HBA.out.size, HBA.out.block⟩
    generalize wa.drewN nq = we at *
    go_wp2_with fail
    go_ret2
    exact ⟨by rw [HSN.out]; rfl, HBn.out⟩
  by_cases hp : 1114111 < V
  · have HSN : Hid (sf = none) := hid (by rw [HSF.out, HV.out, if_pos (.inr (.inl hp))])
    clear HSF
    obtain ⟨ι, Wc, ⟨i0, hi0⟩, hWc, Wsur⟩ := held_class wa.drew (fun g => g < wa.heap.size)
    have hne : Nonempty ι := ⟨i0⟩
    have WS := hid Wsur; clear Wsur
    have HWc := hid hWc; clear hWc
    have Hi0 := hid hi0; clear hi0
    refine region_anyL (S := fun w' => ∃ i, w' = Wc i) (last := 15) (by kernel_rfl) ?_
    refine anyL_seg 0 9 (by kernel_rfl) (fun _ _ _ _ _ h => h) ⟨i0, Hi0.out.symm⟩ (f := 6) rfl (by kernel_rfl) (by kernel_rfl) ?_
    simp only [List.drop_zero, List.take_succ_cons, List.take_zero]
    repeat go_big_quiet_step (fail)
    refine wpQuiet_nil ?_
    refine anyL_seg 11 2 (by kernel_rfl) (fun _ _ _ _ _ h => h) ⟨i0, Hi0.out.symm⟩ (f := 4) rfl (by kernel_rfl) (by kernel_rfl) ?_
    simp only [List.drop_succ_cons, List.drop_zero, List.take_succ_cons, List.take_zero]
    repeat go_big_quiet_step (fail)
    refine wpQuiet_nil ?_
    refine anyL_skip (i := 9) (by kernel_rfl) rfl (by rfl) ⟨i0, Hi0.out.symm⟩ ?_
    go_simp
    refine anyL_seg 10 1 (by kernel_rfl) (fun _ _ _ _ _ h => h) ⟨i0, Hi0.out.symm⟩ (f := 2) rfl (by kernel_rfl) (by kernel_rfl) ?_
    simp only [List.drop_succ_cons, List.drop_zero, List.take_succ_cons, List.take_zero]
    repeat go_big_quiet_step (fail)
    refine wpQuiet_nil ?_
    refine anyL_seg 13 2 (by kernel_rfl) (fun _ _ _ _ _ h => h) ⟨i0, Hi0.out.symm⟩ (f := 0) rfl (by kernel_rfl) (by kernel_rfl) ?_
    simp only [List.drop_succ_cons, List.drop_zero, List.take_succ_cons, List.take_zero]
    repeat go_big_quiet_step (fail)
    refine wpQuiet_nil ?_
    refine anyL_done (by kernel_rfl) ?_ 0
    have HBn : Hid (Below w.heap.size w wa.drew) := hid HBA.out.drew
    clear WS HWc Hi0 hne i0 Wc ι
    generalize wa.drew = we at *
    go_wp2_with fail
    go_ret2
    exact ⟨by rw [HSN.out]; rfl, HBn.out⟩
  obtain ⟨ι, Wc, ⟨i0, hi0⟩, hWc, Wsur⟩ := held_class wa.drew (fun g => g < wa.heap.size)
  have hne : Nonempty ι := ⟨i0⟩
  have WS := hid Wsur; clear Wsur
  have HWc := hid hWc; clear hWc
  have Hi0 := hid hi0; clear hi0
  have hsz := HBA.out.size
  have hcv : ∀ i, (convert 37 9 (.slice (some ⟨G, O, none⟩) 2 cp)).run Tryz.prog (Wc i) = .ok (.string (strOfNums [a, b])) (Wc i) := fun i =>
    HCW.out _ fun p hp => (cell_of_heap_eq (p := p) (HWc.out i _ (Nat.lt_of_lt_of_le hp hsz))).trans (HBA.out.cell hp)
  refine region_anyL (S := fun w' => ∃ i, w' = Wc i) (last := 15) (by kernel_rfl) ?_
  refine anyL_seg 0 9 (by kernel_rfl) (fun _ _ _ _ _ h => h) ⟨i0, Hi0.out.symm⟩ (f := 6) rfl (by kernel_rfl) (by kernel_rfl) ?_
  simp only [List.drop_zero, List.take_succ_cons, List.take_zero]
  repeat go_big_quiet_step (fail)
  refine wpQuiet_nil ?_
  refine anyL_seg 11 2 (by kernel_rfl) (fun _ _ _ _ _ h => h) ⟨i0, Hi0.out.symm⟩ (f := 4) rfl (by kernel_rfl) (by kernel_rfl) ?_
  simp only [List.drop_succ_cons, List.drop_zero, List.take_succ_cons, List.take_zero]
  repeat go_big_quiet_step (fail)
  refine wpQuiet_nil ?_
  refine anyL_actG (i := 9) (by kernel_rfl) rfl (by rfl) ?_
  intro K hK
  go_wp2_with fail
  refine (HB.out V _).mono ?_
  rintro e w5 ⟨u, rfl, hu, hB5⟩
  have hcu := conv_own hu
  have hBw5 : Below w.heap.size w w5 := HBA.out.trans ((show Below wa.heap.size wa w5 from ⟨hB5.os, hB5.tape, hB5.output, hB5.size, hB5.block⟩).mono hsz)
  have hS2 : ∃ i, w5 = Wc i := WS.out _ (fun g hg => hB5.block g hg)
  have HBu : Hid (byteL (bytesF V)) := hid hu.2
  have HBW := hid hBw5
  clear hu hB5 hBw5
  refine hK.out _ _ (fun _ => hS2) ?_
  clear hK K
  refine anyL_actG (i := 10) (by kernel_rfl) rfl (by rfl) ?_
  intro K hK
  go_wp2_with fail
  refine hK.out _ _ (fun _ => hS2) ?_
  clear hK K hcu hcv
  have hin : strOfNums (bytesF V) = strOfNums [a, b] ↔ bytesF V = [a, b] := str_inj HBu.out HY.out
  by_cases hq : bytesF V = [a, b]
  · have HSN : Hid (sf = some V) := hid (by rw [HSF.out, HV.out, if_neg (fun h => h.elim (Int.not_lt.2 hn) fun h => h.elim (Int.not_lt.2 hp) fun h => h hq)])
    have hsq := hin.2 hq
    obtain ⟨s1, hs1⟩ : ∃ s1, s1 = strOfNums (bytesF V) := ⟨_, rfl⟩
    rw [← hsq, ← hs1]
    clear hin hq HSF hsq hs1
    refine anyL_actG (i := 13) (by kernel_rfl) rfl (by rfl) ?_
    intro K hK
    go_wp2_with fail
    refine hK.out _ _ (fun _ => hS2) ?_
    clear hK K
    refine anyL_act (i := 14) (by kernel_rfl) rfl rfl ?_
    intro K hK
    go_wp2_with fail
    refine hK.out _ _ (fun _ => hS2) ?_
    clear hK K
    refine anyL_done (by kernel_rfl) ?_ 0
    clear WS HWc Hi0 hne i0 hS2 Wc ι
    go_wp2_with fail
    go_ret2
    exact ⟨by rw [HSN.out]; rfl, HBW.out⟩
  · have HSN : Hid (sf = none) := hid (by rw [HSF.out, HV.out, if_pos (.inr (.inr hq))])
    have hsq := fun h => hq (hin.1 h)
    obtain ⟨s1, hs1⟩ : ∃ s1, s1 = strOfNums (bytesF V) := ⟨_, rfl⟩
    obtain ⟨s2, hs2⟩ : ∃ s2, s2 = strOfNums [a, b] := ⟨_, rfl⟩
    rw [← hs1, ← hs2] at hsq ⊢
    have hsb : (s1.toList == s2.toList) = false := Bool.eq_false_iff.2 fun h => hsq (bytes_ext (eq_of_beq h))
    clear hin hq HSF hs1 hs2 hsq
    refine anyL_actG (i := 13) (by kernel_rfl) rfl (by rfl) ?_
    intro K hK
    go_wp2_with fail
    refine hK.out _ _ (fun _ => hS2) ?_
    clear hK K
    refine anyL_act (i := 14) (by kernel_rfl) rfl rfl ?_
    intro K hK
    go_wp2_with fail
    refine hK.out _ _ (fun _ => hS2) ?_
    clear hK K
    refine anyL_done (by kernel_rfl) ?_ 0
    clear WS HWc Hi0 hne i0 hS2 Wc ι
    go_wp2_with fail
    go_ret2
    exact ⟨by rw [HSN.out]; rfl, HBW.out⟩
set_option maxHeartbeats 1000000 in
set_option maxRecDepth 100000 in
theorem rscal3 (a b c : Int) (v : Value) (w : World) (h : bytesR.rel w (upto w.heap.size) [v] [a, b, c]) :
    Calls Tryz.prog 98 #[v] w fun e w' => e = .returned (.tuple #[.int .i32 ((scalF [a, b, c]).getD 0), .bool (scalF [a, b, c]).isSome]) ∧ Below w.heap.size w w' := by
  have HB := hid fun z W => rbytes_calls z W
  obtain ⟨A, cp, rfl, hcp, hm⟩ := list_form h
  unfold maxLen at hm
  obtain ⟨G, O, rfl, hG, c0, ha0, ha1⟩ := byte_at h (i := 0) (x := a) rfl
  obtain ⟨G', O', he, _, c1, hb0, hb1⟩ := byte_at h (i := 1) (x := b) rfl
  injection he with he
  injection he with e1 e2
  subst e1 e2
  obtain ⟨G', O', he, _, c2, hc0, hc1⟩ := byte_at h (i := 2) (x := c) rfl
  injection he with he
  injection he with e1 e2
  subst e1 e2
  have HY : Hid (byteL [a, b, c]) := hid (by intro x hx; simp only [List.mem_cons, List.not_mem_nil, or_false] at hx; omega)
  have hvb : valB [a, b, c] = ((a - 224) * 64 + b - 128) * 64 + c - 128 := by simp [valB, leadF]
  have HV := hid hvb
  have HH := hid h
  have hcw : ∀ W : World, (∀ p : Addr, p.block < w.heap.size → W.cell? p = w.cell? p) → (convert 37 9 (.slice (some ⟨G, O, none⟩) 3 cp)).run Tryz.prog W = .ok (.string (strOfNums [a, b, c])) W := fun W hW =>
    conv_bytes (xs := [a, b, c]) (S := upto w.heap.size) (by simp) (bytesR.mono (fun p hp => hW p hp) (fun _ h => h) h)
  have HCW := hid hcw
  clear hcw
  have HSF : Hid (scalF [a, b, c] = if valB [a, b, c] < 0 ∨ 1114111 < valB [a, b, c] ∨ bytesF (valB [a, b, c]) ≠ [a, b, c] then none else some (valB [a, b, c])) := hid rfl
  obtain ⟨sf, hsf⟩ : ∃ sf, sf = scalF [a, b, c] := ⟨_, rfl⟩
  rw [← hsf] at HSF ⊢
  clear h hvb hsf
  simp only [Nat.add_zero] at c0
  simp only [List.length_cons, List.length_nil, Nat.zero_add, Nat.reduceAdd] at hcp ⊢
  go_enter Tryz.func98, Tryz.ntmps98
  go_wp2_with fail
  obtain ⟨ι, Wc, ⟨i0, hi0⟩, hWc, Wsur⟩ := held_class w.drew (fun g => g < w.heap.size)
  have hne : Nonempty ι := ⟨i0⟩
  have WS := hid Wsur; clear Wsur
  have HWc := hid hWc; clear hWc
  have Hi0 := hid hi0; clear hi0
  have g1 : ∀ i, (Wc i).cell? ⟨G, O, none⟩ = some (.int .u8 a) := fun i => (cell_of_heap_eq (p := ⟨G, O, none⟩) (HWc.out i _ hG)).trans c0
  refine region_anyL (S := fun w' => ∃ i, w' = Wc i) (last := 9) (by kernel_rfl) ?_
  refine anyL_seg 0 4 (by kernel_rfl) (fun _ _ _ _ _ h => h) ⟨i0, Hi0.out.symm⟩ (f := 6) rfl (by kernel_rfl) (by kernel_rfl) ?_
  simp only [List.drop_zero, List.take_succ_cons, List.take_zero]
  repeat go_big_quiet_step (fail)
  refine wpQuiet_nil ?_
  refine anyL_seg 5 1 (by kernel_rfl) (fun _ _ _ _ _ h => h) ⟨i0, Hi0.out.symm⟩ (f := 5) rfl (by kernel_rfl) (by kernel_rfl) ?_
  simp only [List.drop_succ_cons, List.drop_zero, List.take_succ_cons, List.take_zero]
  repeat go_big_quiet_step (fail)
  refine wpQuiet_nil ?_
  refine anyL_act (i := 4) (by kernel_rfl) rfl rfl ?_
  intro K hK
  go_wp2_with fail
  obtain ⟨wa, hwa⟩ : ∃ wa, wa = (w.alloc (.cells #[.int .i64 0, .int .i64 0, .int .i64 192, .int .i64 224, .int .i64 240] 3)).drew := ⟨_, rfl⟩
  rw [← hwa]
  have hBa : Below w.heap.size w wa := by rw [hwa]; exact ((Below.refl _ w).alloc (Nat.le_refl _) _).drew
  have la : wa.cell? ⟨w.heap.size, 3, none⟩ = some (.int .i64 224) := by
    rw [hwa]
    exact Lib.cell_of_heap (heap_alloc_new w _) _
  have hS1 : ∃ i, wa = Wc i := WS.out _ (fun g hg => by rw [hwa]; exact Below.heap_alloc _ _ _ hg)
  refine hK.out _ _ (fun _ => hS1) ?_
  clear hK K hwa
  refine anyL_act (i := 6) (by kernel_rfl) rfl rfl ?_
  intro K hK
  go_wp2_with fail
  refine hK.out _ _ (fun _ => hS1) ?_
  clear hK K
  refine anyL_act (i := 7) (by kernel_rfl) rfl rfl ?_
  intro K hK
  go_wp2_with fail
  refine hK.out _ _ (fun _ => hS1) ?_
  clear hK K
  refine anyL_act (i := 8) (by kernel_rfl) rfl rfl ?_
  intro K hK
  go_wp2_with fail
  refine hK.out _ _ (fun _ => hS1) ?_
  clear hK K
  refine anyL_act (i := 9) (by kernel_rfl) rfl rfl ?_
  intro K hK
  go_wp2_with fail
  refine hK.out _ _ (fun _ => hS1) ?_
  clear hK K
  refine anyL_done (by kernel_rfl) ?_ 0

  have d0 := (hBa.cell (p := ⟨G, O, none⟩) hG).trans c0
  have d1 := (hBa.cell (p := ⟨G, O + 1, none⟩) hG).trans c1
  have d2 := (hBa.cell (p := ⟨G, O + 2, none⟩) hG).trans c2
  have HBA := hid hBa
  clear hBa la hS1 WS HWc Hi0 hne i0 Wc ι g1 c0 c1 c2
  go_wp2_with fail
  refine wp_loop_rounds 3 ?_
  rw [rounds_succ]
  go_wp2_with fail
  rw [rounds_succ]
  go_wp2_with fail
  rw [rounds_succ]
  go_wp2_with fail
  generalize hVe : ((a - 224) * 64 + b - 128) * 64 + c - 128 = V at *
  have hVb : -100000000 ≤ V ∧ V ≤ 100000000 := by omega
  have HVe := hid hVe
  clear hVe
  by_cases hn : V < 0
  · have HSN : Hid (sf = none) := hid (by rw [HSF.out, HV.out, if_pos (.inl hn)])
    clear HSF
    go_wp2_with fail
    go_quiet (fail)
    have HBn : Hid (Below w.heap.size w (wa.drewN nq)) := hid ⟨HBA.out.os, HBA.out.tape, HBA.out.output, HBA.out.size, HBA.out.block⟩
    generalize wa.drewN nq = we at *
    go_wp2_with fail
    go_ret2
    exact ⟨by rw [HSN.out]; rfl, HBn.out⟩
  by_cases hp : 1114111 < V
  · have HSN : Hid (sf = none) := hid (by rw [HSF.out, HV.out, if_pos (.inr (.inl hp))])
    clear HSF
    obtain ⟨ι, Wc, ⟨i0, hi0⟩, hWc, Wsur⟩ := held_class wa.drew (fun g => g < wa.heap.size)
    have hne : Nonempty ι := ⟨i0⟩
    have WS := hid Wsur; clear Wsur
    have HWc := hid hWc; clear hWc
    have Hi0 := hid hi0; clear hi0
    refine region_anyL (S := fun w' => ∃ i, w' = Wc i) (last := 15) (by kernel_rfl) ?_
    refine anyL_seg 0 9 (by kernel_rfl) (fun _ _ _ _ _ h => h) ⟨i0, Hi0.out.symm⟩ (f := 6) rfl (by kernel_rfl) (by kernel_rfl) ?_
    simp only [List.drop_zero, List.take_succ_cons, List.take_zero]
    repeat go_big_quiet_step (fail)
    refine wpQuiet_nil ?_
    refine anyL_seg 11 2 (by kernel_rfl) (fun _ _ _ _ _ h => h) ⟨i0, Hi0.out.symm⟩ (f := 4) rfl (by kernel_rfl) (by kernel_rfl) ?_
    simp only [List.drop_succ_cons, List.drop_zero, List.take_succ_cons, List.take_zero]
    repeat go_big_quiet_step (fail)
    refine wpQuiet_nil ?_
    refine anyL_skip (i := 9) (by kernel_rfl) rfl (by rfl) ⟨i0, Hi0.out.symm⟩ ?_
    go_simp
    refine anyL_seg 10 1 (by kernel_rfl) (fun _ _ _ _ _ h => h) ⟨i0, Hi0.out.symm⟩ (f := 2) rfl (by kernel_rfl) (by kernel_rfl) ?_
    simp only [List.drop_succ_cons, List.drop_zero, List.take_succ_cons, List.take_zero]
    repeat go_big_quiet_step (fail)
    refine wpQuiet_nil ?_
    refine anyL_seg 13 2 (by kernel_rfl) (fun _ _ _ _ _ h => h) ⟨i0, Hi0.out.symm⟩ (f := 0) rfl (by kernel_rfl) (by kernel_rfl) ?_
    simp only [List.drop_succ_cons, List.drop_zero, List.take_succ_cons, List.take_zero]
    repeat go_big_quiet_step (fail)
    refine wpQuiet_nil ?_
    refine anyL_done (by kernel_rfl) ?_ 0
    have HBn : Hid (Below w.heap.size w wa.drew) := hid HBA.out.drew
    clear WS HWc Hi0 hne i0 Wc ι
    generalize wa.drew = we at *
    go_wp2_with fail
    go_ret2
    exact ⟨by rw [HSN.out]; rfl, HBn.out⟩
  obtain ⟨ι, Wc, ⟨i0, hi0⟩, hWc, Wsur⟩ := held_class wa.drew (fun g => g < wa.heap.size)
  have hne : Nonempty ι := ⟨i0⟩
  have WS := hid Wsur; clear Wsur
  have HWc := hid hWc; clear hWc
  have Hi0 := hid hi0; clear hi0
  have hsz := HBA.out.size
  have hcv : ∀ i, (convert 37 9 (.slice (some ⟨G, O, none⟩) 3 cp)).run Tryz.prog (Wc i) = .ok (.string (strOfNums [a, b, c])) (Wc i) := fun i =>
    HCW.out _ fun p hp => (cell_of_heap_eq (p := p) (HWc.out i _ (Nat.lt_of_lt_of_le hp hsz))).trans (HBA.out.cell hp)
  refine region_anyL (S := fun w' => ∃ i, w' = Wc i) (last := 15) (by kernel_rfl) ?_
  refine anyL_seg 0 9 (by kernel_rfl) (fun _ _ _ _ _ h => h) ⟨i0, Hi0.out.symm⟩ (f := 6) rfl (by kernel_rfl) (by kernel_rfl) ?_
  simp only [List.drop_zero, List.take_succ_cons, List.take_zero]
  repeat go_big_quiet_step (fail)
  refine wpQuiet_nil ?_
  refine anyL_seg 11 2 (by kernel_rfl) (fun _ _ _ _ _ h => h) ⟨i0, Hi0.out.symm⟩ (f := 4) rfl (by kernel_rfl) (by kernel_rfl) ?_
  simp only [List.drop_succ_cons, List.drop_zero, List.take_succ_cons, List.take_zero]
  repeat go_big_quiet_step (fail)
  refine wpQuiet_nil ?_
  refine anyL_actG (i := 9) (by kernel_rfl) rfl (by rfl) ?_
  intro K hK
  go_wp2_with fail
  refine (HB.out V _).mono ?_
  rintro e w5 ⟨u, rfl, hu, hB5⟩
  have hcu := conv_own hu
  have hBw5 : Below w.heap.size w w5 := HBA.out.trans ((show Below wa.heap.size wa w5 from ⟨hB5.os, hB5.tape, hB5.output, hB5.size, hB5.block⟩).mono hsz)
  have hS2 : ∃ i, w5 = Wc i := WS.out _ (fun g hg => hB5.block g hg)
  have HBu : Hid (byteL (bytesF V)) := hid hu.2
  have HBW := hid hBw5
  clear hu hB5 hBw5
  refine hK.out _ _ (fun _ => hS2) ?_
  clear hK K
  refine anyL_actG (i := 10) (by kernel_rfl) rfl (by rfl) ?_
  intro K hK
  go_wp2_with fail
  refine hK.out _ _ (fun _ => hS2) ?_
  clear hK K hcu hcv
  have hin : strOfNums (bytesF V) = strOfNums [a, b, c] ↔ bytesF V = [a, b, c] := str_inj HBu.out HY.out
  by_cases hq : bytesF V = [a, b, c]
  · have HSN : Hid (sf = some V) := hid (by rw [HSF.out, HV.out, if_neg (fun h => h.elim (Int.not_lt.2 hn) fun h => h.elim (Int.not_lt.2 hp) fun h => h hq)])
    have hsq := hin.2 hq
    obtain ⟨s1, hs1⟩ : ∃ s1, s1 = strOfNums (bytesF V) := ⟨_, rfl⟩
    rw [← hsq, ← hs1]
    clear hin hq HSF hsq hs1
    refine anyL_actG (i := 13) (by kernel_rfl) rfl (by rfl) ?_
    intro K hK
    go_wp2_with fail
    refine hK.out _ _ (fun _ => hS2) ?_
    clear hK K
    refine anyL_act (i := 14) (by kernel_rfl) rfl rfl ?_
    intro K hK
    go_wp2_with fail
    refine hK.out _ _ (fun _ => hS2) ?_
    clear hK K
    refine anyL_done (by kernel_rfl) ?_ 0
    clear WS HWc Hi0 hne i0 hS2 Wc ι
    go_wp2_with fail
    go_ret2
    exact ⟨by rw [HSN.out]; rfl, HBW.out⟩
  · have HSN : Hid (sf = none) := hid (by rw [HSF.out, HV.out, if_pos (.inr (.inr hq))])
    have hsq := fun h => hq (hin.1 h)
    obtain ⟨s1, hs1⟩ : ∃ s1, s1 = strOfNums (bytesF V) := ⟨_, rfl⟩
    obtain ⟨s2, hs2⟩ : ∃ s2, s2 = strOfNums [a, b, c] := ⟨_, rfl⟩
    rw [← hs1, ← hs2] at hsq ⊢
    have hsb : (s1.toList == s2.toList) = false := Bool.eq_false_iff.2 fun h => hsq (bytes_ext (eq_of_beq h))
    clear hin hq HSF hs1 hs2 hsq
    refine anyL_actG (i := 13) (by kernel_rfl) rfl (by rfl) ?_
    intro K hK
    go_wp2_with fail
    refine hK.out _ _ (fun _ => hS2) ?_
    clear hK K
    refine anyL_act (i := 14) (by kernel_rfl) rfl rfl ?_
    intro K hK
    go_wp2_with fail
    refine hK.out _ _ (fun _ => hS2) ?_
    clear hK K
    refine anyL_done (by kernel_rfl) ?_ 0
    clear WS HWc Hi0 hne i0 hS2 Wc ι
    go_wp2_with fail
    go_ret2
    exact ⟨by rw [HSN.out]; rfl, HBW.out⟩
set_option maxHeartbeats 1000000 in
set_option maxRecDepth 100000 in
theorem rscal4 (a b c d : Int) (v : Value) (w : World) (h : bytesR.rel w (upto w.heap.size) [v] [a, b, c, d]) :
    Calls Tryz.prog 98 #[v] w fun e w' => e = .returned (.tuple #[.int .i32 ((scalF [a, b, c, d]).getD 0), .bool (scalF [a, b, c, d]).isSome]) ∧ Below w.heap.size w w' := by
  have HB := hid fun z W => rbytes_calls z W
  obtain ⟨A, cp, rfl, hcp, hm⟩ := list_form h
  unfold maxLen at hm
  obtain ⟨G, O, rfl, hG, c0, ha0, ha1⟩ := byte_at h (i := 0) (x := a) rfl
  obtain ⟨G', O', he, _, c1, hb0, hb1⟩ := byte_at h (i := 1) (x := b) rfl
  injection he with he
  injection he with e1 e2
  subst e1 e2
  obtain ⟨G', O', he, _, c2, hc0, hc1⟩ := byte_at h (i := 2) (x := c) rfl
  injection he with he
  injection he with e1 e2
  subst e1 e2
  obtain ⟨G', O', he, _, c3, hd0, hd1⟩ := byte_at h (i := 3) (x := d) rfl
  injection he with he
  injection he with e1 e2
  subst e1 e2
  have HY : Hid (byteL [a, b, c, d]) := hid (by intro x hx; simp only [List.mem_cons, List.not_mem_nil, or_false] at hx; omega)
  have hvb : valB [a, b, c, d] = (((a - 240) * 64 + b - 128) * 64 + c - 128) * 64 + d - 128 := by simp [valB, leadF]
  have HV := hid hvb
  have HH := hid h
  have hcw : ∀ W : World, (∀ p : Addr, p.block < w.heap.size → W.cell? p = w.cell? p) → (convert 37 9 (.slice (some ⟨G, O, none⟩) 4 cp)).run Tryz.prog W = .ok (.string (strOfNums [a, b, c, d])) W := fun W hW =>
    conv_bytes (xs := [a, b, c, d]) (S := upto w.heap.size) (by simp) (bytesR.mono (fun p hp => hW p hp) (fun _ h => h) h)
  have HCW := hid hcw
  clear hcw
  have HSF : Hid (scalF [a, b, c, d] = if valB [a, b, c, d] < 0 ∨ 1114111 < valB [a, b, c, d] ∨ bytesF (valB [a, b, c, d]) ≠ [a, b, c, d] then none else some (valB [a, b, c, d])) := hid rfl
  obtain ⟨sf, hsf⟩ : ∃ sf, sf = scalF [a, b, c, d] := ⟨_, rfl⟩
  rw [← hsf] at HSF ⊢
  clear h hvb hsf
  simp only [Nat.add_zero] at c0
  simp only [List.length_cons, List.length_nil, Nat.zero_add, Nat.reduceAdd] at hcp ⊢
  go_enter Tryz.func98, Tryz.ntmps98
  go_wp2_with fail
  obtain ⟨ι, Wc, ⟨i0, hi0⟩, hWc, Wsur⟩ := held_class w.drew (fun g => g < w.heap.size)
  have hne : Nonempty ι := ⟨i0⟩
  have WS := hid Wsur; clear Wsur
  have HWc := hid hWc; clear hWc
  have Hi0 := hid hi0; clear hi0
  have g1 : ∀ i, (Wc i).cell? ⟨G, O, none⟩ = some (.int .u8 a) := fun i => (cell_of_heap_eq (p := ⟨G, O, none⟩) (HWc.out i _ hG)).trans c0
  refine region_anyL (S := fun w' => ∃ i, w' = Wc i) (last := 9) (by kernel_rfl) ?_
  refine anyL_seg 0 4 (by kernel_rfl) (fun _ _ _ _ _ h => h) ⟨i0, Hi0.out.symm⟩ (f := 6) rfl (by kernel_rfl) (by kernel_rfl) ?_
  simp only [List.drop_zero, List.take_succ_cons, List.take_zero]
  repeat go_big_quiet_step (fail)
  refine wpQuiet_nil ?_
  refine anyL_seg 5 1 (by kernel_rfl) (fun _ _ _ _ _ h => h) ⟨i0, Hi0.out.symm⟩ (f := 5) rfl (by kernel_rfl) (by kernel_rfl) ?_
  simp only [List.drop_succ_cons, List.drop_zero, List.take_succ_cons, List.take_zero]
  repeat go_big_quiet_step (fail)
  refine wpQuiet_nil ?_
  refine anyL_act (i := 4) (by kernel_rfl) rfl rfl ?_
  intro K hK
  go_wp2_with fail
  obtain ⟨wa, hwa⟩ : ∃ wa, wa = (w.alloc (.cells #[.int .i64 0, .int .i64 0, .int .i64 192, .int .i64 224, .int .i64 240] 3)).drew := ⟨_, rfl⟩
  rw [← hwa]
  have hBa : Below w.heap.size w wa := by rw [hwa]; exact ((Below.refl _ w).alloc (Nat.le_refl _) _).drew
  have la : wa.cell? ⟨w.heap.size, 4, none⟩ = some (.int .i64 240) := by
    rw [hwa]
    exact Lib.cell_of_heap (heap_alloc_new w _) _
  have hS1 : ∃ i, wa = Wc i := WS.out _ (fun g hg => by rw [hwa]; exact Below.heap_alloc _ _ _ hg)
  refine hK.out _ _ (fun _ => hS1) ?_
  clear hK K hwa
  refine anyL_act (i := 6) (by kernel_rfl) rfl rfl ?_
  intro K hK
  go_wp2_with fail
  refine hK.out _ _ (fun _ => hS1) ?_
  clear hK K
  refine anyL_act (i := 7) (by kernel_rfl) rfl rfl ?_
  intro K hK
  go_wp2_with fail
  refine hK.out _ _ (fun _ => hS1) ?_
  clear hK K
  refine anyL_act (i := 8) (by kernel_rfl) rfl rfl ?_
  intro K hK
  go_wp2_with fail
  refine hK.out _ _ (fun _ => hS1) ?_
  clear hK K
  refine anyL_act (i := 9) (by kernel_rfl) rfl rfl ?_
  intro K hK
  go_wp2_with fail
  refine hK.out _ _ (fun _ => hS1) ?_
  clear hK K
  refine anyL_done (by kernel_rfl) ?_ 0

  have d0 := (hBa.cell (p := ⟨G, O, none⟩) hG).trans c0
  have d1 := (hBa.cell (p := ⟨G, O + 1, none⟩) hG).trans c1
  have d2 := (hBa.cell (p := ⟨G, O + 2, none⟩) hG).trans c2
  have d3 := (hBa.cell (p := ⟨G, O + 3, none⟩) hG).trans c3
  have HBA := hid hBa
  clear hBa la hS1 WS HWc Hi0 hne i0 Wc ι g1 c0 c1 c2 c3
  go_wp2_with fail
  refine wp_loop_rounds 4 ?_
  rw [rounds_succ]
  go_wp2_with fail
  rw [rounds_succ]
  go_wp2_with fail
  rw [rounds_succ]
  go_wp2_with fail
  rw [rounds_succ]
  go_wp2_with fail
  generalize hVe : (((a - 240) * 64 + b - 128) * 64 + c - 128) * 64 + d - 128 = V at *
  have hVb : -100000000 ≤ V ∧ V ≤ 100000000 := by omega
  have HVe := hid hVe
  clear hVe
  by_cases hn : V < 0
  · have HSN : Hid (sf = none) := hid (by rw [HSF.out, HV.out, if_pos (.inl hn)])
    clear HSF
    go_wp2_with fail
    go_quiet (fail)
    have HBn : Hid (Below w.heap.size w (wa.drewN nq)) := hid ⟨HBA.out.os, HBA.out.tape, HBA.out.output, HBA.out.size, HBA.out.block⟩
    generalize wa.drewN nq = we at *
    go_wp2_with fail
    go_ret2
    exact ⟨by rw [HSN.out]; rfl, HBn.out⟩
  by_cases hp : 1114111 < V
  · have HSN : Hid (sf = none) := hid (by rw [HSF.out, HV.out, if_pos (.inr (.inl hp))])
    clear HSF
    obtain ⟨ι, Wc, ⟨i0, hi0⟩, hWc, Wsur⟩ := held_class wa.drew (fun g => g < wa.heap.size)
    have hne : Nonempty ι := ⟨i0⟩
    have WS := hid Wsur; clear Wsur
    have HWc := hid hWc; clear hWc
    have Hi0 := hid hi0; clear hi0
    refine region_anyL (S := fun w' => ∃ i, w' = Wc i) (last := 15) (by kernel_rfl) ?_
    refine anyL_seg 0 9 (by kernel_rfl) (fun _ _ _ _ _ h => h) ⟨i0, Hi0.out.symm⟩ (f := 6) rfl (by kernel_rfl) (by kernel_rfl) ?_
    simp only [List.drop_zero, List.take_succ_cons, List.take_zero]
    repeat go_big_quiet_step (fail)
    refine wpQuiet_nil ?_
    refine anyL_seg 11 2 (by kernel_rfl) (fun _ _ _ _ _ h => h) ⟨i0, Hi0.out.symm⟩ (f := 4) rfl (by kernel_rfl) (by kernel_rfl) ?_
    simp only [List.drop_succ_cons, List.drop_zero, List.take_succ_cons, List.take_zero]
    repeat go_big_quiet_step (fail)
    refine wpQuiet_nil ?_
    refine anyL_skip (i := 9) (by kernel_rfl) rfl (by rfl) ⟨i0, Hi0.out.symm⟩ ?_
    go_simp
    refine anyL_seg 10 1 (by kernel_rfl) (fun _ _ _ _ _ h => h) ⟨i0, Hi0.out.symm⟩ (f := 2) rfl (by kernel_rfl) (by kernel_rfl) ?_
    simp only [List.drop_succ_cons, List.drop_zero, List.take_succ_cons, List.take_zero]
    repeat go_big_quiet_step (fail)
    refine wpQuiet_nil ?_
    refine anyL_seg 13 2 (by kernel_rfl) (fun _ _ _ _ _ h => h) ⟨i0, Hi0.out.symm⟩ (f := 0) rfl (by kernel_rfl) (by kernel_rfl) ?_
    simp only [List.drop_succ_cons, List.drop_zero, List.take_succ_cons, List.take_zero]
    repeat go_big_quiet_step (fail)
    refine wpQuiet_nil ?_
    refine anyL_done (by kernel_rfl) ?_ 0
    have HBn : Hid (Below w.heap.size w wa.drew) := hid HBA.out.drew
    clear WS HWc Hi0 hne i0 Wc ι
    generalize wa.drew = we at *
    go_wp2_with fail
    go_ret2
    exact ⟨by rw [HSN.out]; rfl, HBn.out⟩
  obtain ⟨ι, Wc, ⟨i0, hi0⟩, hWc, Wsur⟩ := held_class wa.drew (fun g => g < wa.heap.size)
  have hne : Nonempty ι := ⟨i0⟩
  have WS := hid Wsur; clear Wsur
  have HWc := hid hWc; clear hWc
  have Hi0 := hid hi0; clear hi0
  have hsz := HBA.out.size
  have hcv : ∀ i, (convert 37 9 (.slice (some ⟨G, O, none⟩) 4 cp)).run Tryz.prog (Wc i) = .ok (.string (strOfNums [a, b, c, d])) (Wc i) := fun i =>
    HCW.out _ fun p hp => (cell_of_heap_eq (p := p) (HWc.out i _ (Nat.lt_of_lt_of_le hp hsz))).trans (HBA.out.cell hp)
  refine region_anyL (S := fun w' => ∃ i, w' = Wc i) (last := 15) (by kernel_rfl) ?_
  refine anyL_seg 0 9 (by kernel_rfl) (fun _ _ _ _ _ h => h) ⟨i0, Hi0.out.symm⟩ (f := 6) rfl (by kernel_rfl) (by kernel_rfl) ?_
  simp only [List.drop_zero, List.take_succ_cons, List.take_zero]
  repeat go_big_quiet_step (fail)
  refine wpQuiet_nil ?_
  refine anyL_seg 11 2 (by kernel_rfl) (fun _ _ _ _ _ h => h) ⟨i0, Hi0.out.symm⟩ (f := 4) rfl (by kernel_rfl) (by kernel_rfl) ?_
  simp only [List.drop_succ_cons, List.drop_zero, List.take_succ_cons, List.take_zero]
  repeat go_big_quiet_step (fail)
  refine wpQuiet_nil ?_
  refine anyL_actG (i := 9) (by kernel_rfl) rfl (by rfl) ?_
  intro K hK
  go_wp2_with fail
  refine (HB.out V _).mono ?_
  rintro e w5 ⟨u, rfl, hu, hB5⟩
  have hcu := conv_own hu
  have hBw5 : Below w.heap.size w w5 := HBA.out.trans ((show Below wa.heap.size wa w5 from ⟨hB5.os, hB5.tape, hB5.output, hB5.size, hB5.block⟩).mono hsz)
  have hS2 : ∃ i, w5 = Wc i := WS.out _ (fun g hg => hB5.block g hg)
  have HBu : Hid (byteL (bytesF V)) := hid hu.2
  have HBW := hid hBw5
  clear hu hB5 hBw5
  refine hK.out _ _ (fun _ => hS2) ?_
  clear hK K
  refine anyL_actG (i := 10) (by kernel_rfl) rfl (by rfl) ?_
  intro K hK
  go_wp2_with fail
  refine hK.out _ _ (fun _ => hS2) ?_
  clear hK K hcu hcv
  have hin : strOfNums (bytesF V) = strOfNums [a, b, c, d] ↔ bytesF V = [a, b, c, d] := str_inj HBu.out HY.out
  by_cases hq : bytesF V = [a, b, c, d]
  · have HSN : Hid (sf = some V) := hid (by rw [HSF.out, HV.out, if_neg (fun h => h.elim (Int.not_lt.2 hn) fun h => h.elim (Int.not_lt.2 hp) fun h => h hq)])
    have hsq := hin.2 hq
    obtain ⟨s1, hs1⟩ : ∃ s1, s1 = strOfNums (bytesF V) := ⟨_, rfl⟩
    rw [← hsq, ← hs1]
    clear hin hq HSF hsq hs1
    refine anyL_actG (i := 13) (by kernel_rfl) rfl (by rfl) ?_
    intro K hK
    go_wp2_with fail
    refine hK.out _ _ (fun _ => hS2) ?_
    clear hK K
    refine anyL_act (i := 14) (by kernel_rfl) rfl rfl ?_
    intro K hK
    go_wp2_with fail
    refine hK.out _ _ (fun _ => hS2) ?_
    clear hK K
    refine anyL_done (by kernel_rfl) ?_ 0
    clear WS HWc Hi0 hne i0 hS2 Wc ι
    go_wp2_with fail
    go_ret2
    exact ⟨by rw [HSN.out]; rfl, HBW.out⟩
  · have HSN : Hid (sf = none) := hid (by rw [HSF.out, HV.out, if_pos (.inr (.inr hq))])
    have hsq := fun h => hq (hin.1 h)
    obtain ⟨s1, hs1⟩ : ∃ s1, s1 = strOfNums (bytesF V) := ⟨_, rfl⟩
    obtain ⟨s2, hs2⟩ : ∃ s2, s2 = strOfNums [a, b, c, d] := ⟨_, rfl⟩
    rw [← hs1, ← hs2] at hsq ⊢
    have hsb : (s1.toList == s2.toList) = false := Bool.eq_false_iff.2 fun h => hsq (bytes_ext (eq_of_beq h))
    clear hin hq HSF hs1 hs2 hsq
    refine anyL_actG (i := 13) (by kernel_rfl) rfl (by rfl) ?_
    intro K hK
    go_wp2_with fail
    refine hK.out _ _ (fun _ => hS2) ?_
    clear hK K
    refine anyL_act (i := 14) (by kernel_rfl) rfl rfl ?_
    intro K hK
    go_wp2_with fail
    refine hK.out _ _ (fun _ => hS2) ?_
    clear hK K
    refine anyL_done (by kernel_rfl) ?_ 0
    clear WS HWc Hi0 hne i0 hS2 Wc ι
    go_wp2_with fail
    go_ret2
    exact ⟨by rw [HSN.out]; rfl, HBW.out⟩
end Go.Proofs.YtmkmikacfilbpaaGreat
