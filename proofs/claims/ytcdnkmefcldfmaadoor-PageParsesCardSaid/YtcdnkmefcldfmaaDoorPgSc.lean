/-
  The reference's Same, where both read as the same data: it returns true.
-/
import Derived.Test.YtcdnkmefcldfmaaDoorPgSb
namespace Go.Proofs.YtcdnkmefcldfmaaDoor
open Go.RowKit Go.Um

theorem store3 {w : World} {b : Nat} {t : TypeId} {a0 a1 a2 : Value} (h : w.heap[b]? = some (.cells #[a0, a1, a2] t (0, 0))) (v0 v1 v2 : Value) : (((w.setCell ⟨b, 0, none⟩ v0).setCell ⟨b, 1, none⟩ v1).setCell ⟨b, 2, none⟩ v2).heap[b]? = some (.cells #[v0, v1, v2] t (0, 0)) :=
  heap_set _ b 2 _ (heap_set _ b 1 _ (heap_set _ b 0 _ h))
theorem store3_other {w : World} {b b' : Nat} (h : b' ≠ b) (v0 v1 v2 : Value) : (((w.setCell ⟨b, 0, none⟩ v0).setCell ⟨b, 1, none⟩ v1).setCell ⟨b, 2, none⟩ v2).heap[b']? = w.heap[b']? := by
  rw [Below.heap_setCell _ _ _ _ h, Below.heap_setCell _ _ _ _ h, Below.heap_setCell _ _ _ _ h]
theorem store3_below {w a : World} {b B : Nat} (h : Below B a w) (hb : B ≤ b) (v0 v1 v2 : Value) : Below B a (((w.setCell ⟨b, 0, none⟩ v0).setCell ⟨b, 1, none⟩ v1).setCell ⟨b, 2, none⟩ v2) :=
  ((h.setCell (p := ⟨b, 0, none⟩) hb _).setCell (p := ⟨b, 1, none⟩) hb _).setCell (p := ⟨b, 2, none⟩) hb _
theorem store3_size (w : World) (b : Nat) (v0 v1 v2 : Value) : (((w.setCell ⟨b, 0, none⟩ v0).setCell ⟨b, 1, none⟩ v1).setCell ⟨b, 2, none⟩ v2).heap.size = w.heap.size := by simp [World.setCell]

set_option maxHeartbeats 4000000 in
set_option maxRecDepth 100000 in
theorem same_desc (d : Desc) (v u v' u' : Value) (w : World) (h1 : (listR ruleR).rel w (upto w.heap.size) [v] d.rules) (h2 : (listR finalR).rel w (upto w.heap.size) [u] d.finals) (h3 : (listR ruleR).rel w (upto w.heap.size) [v'] d.rules) (h4 : (listR finalR).rel w (upto w.heap.size) [u'] d.finals) :
    Calls Tryd.prog 13 #[.agg #[.int .i64 d.inn, .int .i64 d.out, .int .i64 d.states, .int .i64 d.start, v, u], .agg #[.int .i64 d.inn, .int .i64 d.out, .int .i64 d.states, .int .i64 d.start, v', u']] w fun e w' => e = .returned (.bool true) ∧ Below w.heap.size w w' := by
  obtain ⟨A1, c1, rfl, hc1, hm1⟩ := list_form h1
  obtain ⟨A2, c2, rfl, hc2, hm2⟩ := list_form h2
  obtain ⟨A3, c3, rfl, hc3, hm3⟩ := list_form h3
  obtain ⟨A4, c4, rfl, hc4, hm4⟩ := list_form h4
  unfold maxLen at hm1 hm2
  obtain ⟨w0, hw0⟩ : ∃ w0, w0 = (w.alloc (.cells #[.int .i64 d.inn, .int .i64 d.out, .int .i64 d.states, .int .i64 d.start, .slice A1 d.rules.length c1, .slice A2 d.finals.length c2] 26)).alloc (.cells #[.int .i64 d.inn, .int .i64 d.out, .int .i64 d.states, .int .i64 d.start, .slice A3 d.rules.length c3, .slice A4 d.finals.length c4] 26) := ⟨_, rfl⟩
  have hB0 : Below w.heap.size w w0 := by rw [hw0]; exact ((Below.refl _ _).alloc (Nat.le_refl _) _).alloc (by simp) _
  have hR0 : w0.heap[w.heap.size]? = some (.cells #[.int .i64 d.inn, .int .i64 d.out, .int .i64 d.states, .int .i64 d.start, .slice A1 d.rules.length c1, .slice A2 d.finals.length c2] 26 (0, 0)) := by rw [hw0, Below.heap_alloc _ _ _ (by simp)]; exact heap_alloc_new _ _
  have hP0 : w0.heap[w.heap.size + 1]? = some (.cells #[.int .i64 d.inn, .int .i64 d.out, .int .i64 d.states, .int .i64 d.start, .slice A3 d.rules.length c3, .slice A4 d.finals.length c4] 26 (0, 0)) := by
    have := heap_alloc_new (w.alloc (.cells #[.int .i64 d.inn, .int .i64 d.out, .int .i64 d.states, .int .i64 d.start, .slice A1 d.rules.length c1, .slice A2 d.finals.length c2] 26)) (.cells #[.int .i64 d.inn, .int .i64 d.out, .int .i64 d.states, .int .i64 d.start, .slice A3 d.rules.length c3, .slice A4 d.finals.length c4] 26)
    rw [hw0]
    simpa using this
  have hs0 : w.heap.size + 1 < w0.heap.size := by rw [hw0]; simp
  have hs1 : w.heap.size < w0.heap.size := by omega
  have H1 := hid ((listR ruleR).later h1 hB0)
  have H2 := hid ((listR finalR).later h2 hB0)
  have H3 := hid ((listR ruleR).later h3 hB0)
  have H4 := hid ((listR finalR).later h4 hB0)
  clear h1 h2 h3 h4
  go_enter Tryd.func13, Tryd.ntmps13
  go_wp2_with fail
  rw [← hw0]
  clear hw0
  have HB0 := hid hB0; clear hB0
  have HR0 := hid hR0; clear hR0
  have HP0 := hid hP0; clear hP0
  go_loopw [5] (fun vi wr => ∃ k : Nat, k ≤ d.rules.length ∧ vi = .int .i64 k ∧ Below w0.heap.size w0 wr) (fun vi _ => d.rules.length - (intOf vi).toNat)
  case atStart => exact ⟨0, Nat.zero_le _, rfl, Below.refl _ _⟩
  case round =>
    obtain ⟨k, hk, rfl, hB⟩ := hrel
    obtain ⟨wo, hwo⟩ : ∃ wo, wo = wr := ⟨_, rfl⟩
    subst hwo
    have g0 : wo.heap[w.heap.size]? = _ := (hB.block _ hs1).trans HR0.out
    have g1 : wo.heap[w.heap.size + 1]? = _ := (hB.block _ hs0).trans HP0.out
    have hsw := hB.size
    have hs1' : w.heap.size < wo.heap.size := by omega
    have hs0' : w.heap.size + 1 < wo.heap.size := by omega
    have r4 : wo.cell? ⟨w.heap.size, 4, none⟩ = some (.slice A1 d.rules.length c1) := by rw [Lib.cell_of_heap g0]; rfl
    have r5 : wo.cell? ⟨w.heap.size, 5, none⟩ = some (.slice A2 d.finals.length c2) := by rw [Lib.cell_of_heap g0]; rfl
    have har := (listR ruleR).later H1.out hB
    have hbr := (listR ruleR).later H3.out hB
    by_cases hlt : k < d.rules.length
    · obtain ⟨x, hx⟩ := at_lt hlt
      obtain ⟨b1, o1, y1, y2, rfl, hl1, z10, z11, z12, z13, z14, _, hy1, hy2⟩ := rule_at har hx
      obtain ⟨b2, o2, y3, y4, rfl, hl2, z20, z21, z22, z23, z24, _, hy3, hy4⟩ := rule_at hbr hx
      obtain ⟨A5, c5, rfl, _, _⟩ := list_form hy1
      obtain ⟨A6, c6, rfl, _, _⟩ := list_form hy2
      obtain ⟨A7, c7, rfl, _, _⟩ := list_form hy3
      obtain ⟨A8, c8, rfl, _, _⟩ := list_form hy4
      have hka : (k : Int) < d.rules.length := by omega
      have hkb : (k : Int) < d.rules.length := by omega
      have HC := hid (fun w' (hb : Below wo.heap.size wo w') => same_rule x _ _ _ _ w' ((listR spansR).later hy1 hb) ((listR termR).later hy2 hb) ((listR spansR).later hy3 hb) ((listR termR).later hy4 hb))
      clear hx har hbr hy1 hy2 hy3 hy4
      go_wp2_with fail
      obtain ⟨ι, W, ⟨i0, hi0⟩, hW, Wsur⟩ := ext_class wo.drew
      have hne : Nonempty ι := ⟨i0⟩
      have p4 : ∀ i, (W i).cell? ⟨w.heap.size, 4, none⟩ = some (.slice (some ⟨b1, o1, none⟩) d.rules.length c1) := fun i => by rw [Lib.cell_of_heap (((hW i).block _ (by exact hs1')).trans g0)]; rfl
      have s4 : ∀ i, (W i).cell? ⟨w.heap.size + 1, 4, none⟩ = some (.slice (some ⟨b2, o2, none⟩) d.rules.length c3) := fun i => by rw [Lib.cell_of_heap (((hW i).block _ (by exact hs0')).trans g1)]; rfl
      have q10 : ∀ i, (W i).cell? ⟨b1, o1 + k * 5, none⟩ = _ := fun i => ((hW i).cell (p := ⟨b1, o1 + k * 5, none⟩) (by exact hl1)).trans z10
      have q11 : ∀ i, (W i).cell? ⟨b1, o1 + k * 5 + 1, none⟩ = _ := fun i => ((hW i).cell (p := ⟨b1, o1 + k * 5 + 1, none⟩) (by exact hl1)).trans z11
      have q12 : ∀ i, (W i).cell? ⟨b1, o1 + k * 5 + 2, none⟩ = _ := fun i => ((hW i).cell (p := ⟨b1, o1 + k * 5 + 2, none⟩) (by exact hl1)).trans z12
      have q13 : ∀ i, (W i).cell? ⟨b1, o1 + k * 5 + 3, none⟩ = _ := fun i => ((hW i).cell (p := ⟨b1, o1 + k * 5 + 3, none⟩) (by exact hl1)).trans z13
      have q14 : ∀ i, (W i).cell? ⟨b1, o1 + k * 5 + 4, none⟩ = _ := fun i => ((hW i).cell (p := ⟨b1, o1 + k * 5 + 4, none⟩) (by exact hl1)).trans z14
      have q20 : ∀ i, (W i).cell? ⟨b2, o2 + k * 5, none⟩ = _ := fun i => ((hW i).cell (p := ⟨b2, o2 + k * 5, none⟩) (by exact hl2)).trans z20
      have q21 : ∀ i, (W i).cell? ⟨b2, o2 + k * 5 + 1, none⟩ = _ := fun i => ((hW i).cell (p := ⟨b2, o2 + k * 5 + 1, none⟩) (by exact hl2)).trans z21
      have q22 : ∀ i, (W i).cell? ⟨b2, o2 + k * 5 + 2, none⟩ = _ := fun i => ((hW i).cell (p := ⟨b2, o2 + k * 5 + 2, none⟩) (by exact hl2)).trans z22
      have q23 : ∀ i, (W i).cell? ⟨b2, o2 + k * 5 + 3, none⟩ = _ := fun i => ((hW i).cell (p := ⟨b2, o2 + k * 5 + 3, none⟩) (by exact hl2)).trans z23
      have q24 : ∀ i, (W i).cell? ⟨b2, o2 + k * 5 + 4, none⟩ = _ := fun i => ((hW i).cell (p := ⟨b2, o2 + k * 5 + 4, none⟩) (by exact hl2)).trans z24
      have WS := hid Wsur; clear Wsur
      have HW := hid hW; clear hW
      have Hi0 := hid hi0; clear hi0
      clear z10 z11 z12 z13 z14 z20 z21 z22 z23 z24 g0 g1
      refine region_anyL (S := fun w' => ∃ i, w' = W i) (last := 12) (by kernel_rfl) ?_
      refine anyL_seg 0 10 (by kernel_rfl) (fun _ _ _ _ _ h => h) ⟨i0, Hi0.out.symm⟩ (f := 2) rfl (by kernel_rfl) (by kernel_rfl) ?_
      simp only [List.drop_zero, List.take_succ_cons, List.take_zero]
      repeat go_big_quiet_step (fail)
      refine wpQuiet_nil ?_
      refine anyL_act (i := 10) (by kernel_rfl) rfl rfl ?_
      intro K hK
      go_wp2_with fail
      refine (HC.out _ ((Below.refl _ _).drew)).mono ?_
      rintro e w5 ⟨rfl, hbw5⟩
      go_wp2_with fail
      have hSw5 : ∃ i, w5 = W i := WS.out i0 w5 (by rw [Hi0.out]; exact hbw5)
      refine hK.out _ _ (fun _ => hSw5) ?_
      clear hK K
      refine anyL_seg 11 1 (by kernel_rfl) (fun _ _ _ _ _ h => h) hSw5 (f := 0) rfl (by kernel_rfl) (by kernel_rfl) ?_
      simp only [List.drop_succ_cons, List.drop_zero, List.take_succ_cons, List.take_zero]
      repeat go_big_quiet_step (fail)
      refine wpQuiet_nil ?_
      refine anyL_done (by kernel_rfl) ?_ 0
      go_wp2_with fail
      refine ⟨⟨k + 1, by omega, by go_num, hB.trans ((Below.refl wo.heap.size wo).drew.trans hbw5 |>.mono hB.size)⟩, ?_⟩
      simp [intOf]; omega
    · have hke : ¬ (k : Int) < d.rules.length := by omega
      clear har hbr
      go_wp2_with fail
      go_loopw [6] (fun vi wr => ∃ k : Nat, k ≤ d.finals.length ∧ vi = .int .i64 k ∧ Below w0.heap.size w0 wr) (fun vi _ => d.finals.length - (intOf vi).toNat)
      case atStart => exact ⟨0, Nat.zero_le _, rfl, hB⟩
      case round =>
        obtain ⟨k, hk, rfl, hB⟩ := hrel
        obtain ⟨wq, hwq⟩ : ∃ wq, wq = wr := ⟨_, rfl⟩
        subst hwq
        have g0 : wq.heap[w.heap.size]? = _ := (hB.block _ hs1).trans HR0.out
        have g1 : wq.heap[w.heap.size + 1]? = _ := (hB.block _ hs0).trans HP0.out
        have hsw := hB.size
        have hs1' : w.heap.size < wq.heap.size := by omega
        have hs0' : w.heap.size + 1 < wq.heap.size := by omega
        have r5 : wq.cell? ⟨w.heap.size, 5, none⟩ = some (.slice A2 d.finals.length c2) := by rw [Lib.cell_of_heap g0]; rfl
        have har := (listR finalR).later H2.out hB
        have hbr := (listR finalR).later H4.out hB
        by_cases hlt : k < d.finals.length
        · obtain ⟨x, hx⟩ := at_lt hlt
          obtain ⟨b1, o1, y1, y2, rfl, hl1, z10, z11, z12, _, hy1, hy2⟩ := final_at har hx
          obtain ⟨b2, o2, y3, y4, rfl, hl2, z20, z21, z22, _, hy3, hy4⟩ := final_at hbr hx
          obtain ⟨A5, c5, rfl, _, _⟩ := list_form hy1
          obtain ⟨A6, c6, rfl, _, _⟩ := list_form hy2
          obtain ⟨A7, c7, rfl, _, _⟩ := list_form hy3
          obtain ⟨A8, c8, rfl, _, _⟩ := list_form hy4
          have hka : (k : Int) < d.finals.length := by omega
          have HC1 := hid (fun w' (hb : Below wq.heap.size wq w') => same_sets x.guards _ _ w' ((listR spansR).later hy1 hb) ((listR spansR).later hy3 hb))
          have HC2 := hid (fun w' (hb : Below wq.heap.size wq w') => same_terms x.out _ _ w' ((listR termR).later hy2 hb) ((listR termR).later hy4 hb))
          clear hx har hbr hy1 hy2 hy3 hy4
          go_wp2_with fail
          obtain ⟨ι, W, ⟨i0, hi0⟩, hW, Wsur⟩ := ext_class wq.drew
          have hne : Nonempty ι := ⟨i0⟩
          have p5 : ∀ i, (W i).cell? ⟨w.heap.size, 5, none⟩ = some (.slice (some ⟨b1, o1, none⟩) d.finals.length c2) := fun i => by rw [Lib.cell_of_heap (((hW i).block _ (by exact hs1')).trans g0)]; rfl
          have s5 : ∀ i, (W i).cell? ⟨w.heap.size + 1, 5, none⟩ = some (.slice (some ⟨b2, o2, none⟩) d.finals.length c4) := fun i => by rw [Lib.cell_of_heap (((hW i).block _ (by exact hs0')).trans g1)]; rfl
          have q10 : ∀ i, (W i).cell? ⟨b1, o1 + k * 3, none⟩ = _ := fun i => ((hW i).cell (p := ⟨b1, o1 + k * 3, none⟩) (by exact hl1)).trans z10
          have q11 : ∀ i, (W i).cell? ⟨b1, o1 + k * 3 + 1, none⟩ = _ := fun i => ((hW i).cell (p := ⟨b1, o1 + k * 3 + 1, none⟩) (by exact hl1)).trans z11
          have q12 : ∀ i, (W i).cell? ⟨b1, o1 + k * 3 + 2, none⟩ = _ := fun i => ((hW i).cell (p := ⟨b1, o1 + k * 3 + 2, none⟩) (by exact hl1)).trans z12
          have q20 : ∀ i, (W i).cell? ⟨b2, o2 + k * 3, none⟩ = _ := fun i => ((hW i).cell (p := ⟨b2, o2 + k * 3, none⟩) (by exact hl2)).trans z20
          have q21 : ∀ i, (W i).cell? ⟨b2, o2 + k * 3 + 1, none⟩ = _ := fun i => ((hW i).cell (p := ⟨b2, o2 + k * 3 + 1, none⟩) (by exact hl2)).trans z21
          have q22 : ∀ i, (W i).cell? ⟨b2, o2 + k * 3 + 2, none⟩ = _ := fun i => ((hW i).cell (p := ⟨b2, o2 + k * 3 + 2, none⟩) (by exact hl2)).trans z22
          have WS := hid Wsur; clear Wsur
          have HW := hid hW; clear hW
          have Hi0 := hid hi0; clear hi0
          clear z10 z11 z12 z20 z21 z22 g0 g1
          refine region_anyL (S := fun w' => ∃ i, w' = W i) (last := 14) (by kernel_rfl) ?_
          refine anyL_seg 0 10 (by kernel_rfl) (fun _ _ _ _ _ h => h) ⟨i0, Hi0.out.symm⟩ (f := 4) rfl (by kernel_rfl) (by kernel_rfl) ?_
          simp only [List.drop_zero, List.take_succ_cons, List.take_zero]
          repeat go_big_quiet_step (fail)
          refine wpQuiet_nil ?_
          refine anyL_two (i := 10) (j := 11) (by kernel_rfl) rfl rfl rfl rfl ?_ ?_
          · intro K hK
            go_wp2_with fail
            refine hK.out _ _ (fun _ => WS.out i0 _ (by rw [Hi0.out]; exact (Below.refl _ _).alloc (Nat.le_refl _) _)) ?_
            clear hK K
            refine anyL_act (i := 11) (by kernel_rfl) rfl rfl ?_
            intro K hK
            go_wp2_with fail
            have hz0 : ((wq.alloc (.cells #[.int .i64 0, .slice none 0 0, .slice none 0 0] 47)).alloc (.cells #[.int .i64 0, .slice none 0 0, .slice none 0 0] 47)).drew.heap[wq.heap.size]? = some (.cells #[.int .i64 0, .slice none 0 0, .slice none 0 0] 47 (0, 0)) := (Below.heap_alloc _ _ _ (by simp)).trans (heap_alloc_new _ _)
            have hz1 : ((wq.alloc (.cells #[.int .i64 0, .slice none 0 0, .slice none 0 0] 47)).alloc (.cells #[.int .i64 0, .slice none 0 0, .slice none 0 0] 47)).drew.heap[wq.heap.size + 1]? = some (.cells #[.int .i64 0, .slice none 0 0, .slice none 0 0] 47 (0, 0)) := by
              have := heap_alloc_new (wq.alloc (.cells #[.int .i64 0, .slice none 0 0, .slice none 0 0] 47)) (.cells #[.int .i64 0, .slice none 0 0, .slice none 0 0] 47)
              show ((wq.alloc (.cells #[.int .i64 0, .slice none 0 0, .slice none 0 0] 47)).alloc (.cells #[.int .i64 0, .slice none 0 0, .slice none 0 0] 47)).heap[wq.heap.size + 1]? = _
              simpa using this
            have hzs : wq.heap.size + 1 < ((wq.alloc (.cells #[.int .i64 0, .slice none 0 0, .slice none 0 0] 47)).alloc (.cells #[.int .i64 0, .slice none 0 0, .slice none 0 0] 47)).drew.heap.size := by
              show wq.heap.size + 1 < ((wq.alloc (.cells #[.int .i64 0, .slice none 0 0, .slice none 0 0] 47)).alloc (.cells #[.int .i64 0, .slice none 0 0, .slice none 0 0] 47)).heap.size
              simp
            have hbz : Below wq.heap.size wq ((wq.alloc (.cells #[.int .i64 0, .slice none 0 0, .slice none 0 0] 47)).alloc (.cells #[.int .i64 0, .slice none 0 0, .slice none 0 0] 47)).drew := (((Below.refl _ _).alloc (Nat.le_refl _) _).alloc (by simp) _).drew
            have hbz2 : Below wq.drew.heap.size wq.drew ((wq.alloc (.cells #[.int .i64 0, .slice none 0 0, .slice none 0 0] 47)).alloc (.cells #[.int .i64 0, .slice none 0 0, .slice none 0 0] 47)).drew := ((Below.refl _ _).alloc (Nat.le_refl _) _).alloc (by simp) _
            refine hK.out _ _ (fun _ => WS.out i0 _ (by rw [Hi0.out]; exact hbz2)) ?_
            clear hK K
            generalize ((wq.alloc (.cells #[.int .i64 0, .slice none 0 0, .slice none 0 0] 47)).alloc (.cells #[.int .i64 0, .slice none 0 0, .slice none 0 0] 47)).drew = wz at hz0 hz1 hzs hbz hbz2 ⊢
            have e0 : wz.cell? ⟨wq.heap.size, 0, none⟩ = some (.int .i64 0) := by rw [Lib.cell_of_heap hz0]; rfl
            have ef0 : wz.frozen? ⟨wq.heap.size, 0, none⟩ = false := Lib.frozen_of_heap hz0 _
            have e1 : wz.cell? ⟨wq.heap.size, 1, none⟩ = some (.slice none 0 0) := by rw [Lib.cell_of_heap hz0]; rfl
            have ef1 : wz.frozen? ⟨wq.heap.size, 1, none⟩ = false := Lib.frozen_of_heap hz0 _
            have e2 : wz.cell? ⟨wq.heap.size, 2, none⟩ = some (.slice none 0 0) := by rw [Lib.cell_of_heap hz0]; rfl
            have ef2 : wz.frozen? ⟨wq.heap.size, 2, none⟩ = false := Lib.frozen_of_heap hz0 _
            refine anyL_act (i := 12) (by kernel_rfl) rfl rfl ?_
            intro K hK
            go_wp2_with fail
            have ha7 : (((wz.setCell ⟨wq.heap.size, 0, none⟩ (.int .i64 x.src)).setCell ⟨wq.heap.size, 1, none⟩ (.slice A5 x.guards.length c5)).setCell ⟨wq.heap.size, 2, none⟩ (.slice A6 x.out.length c6)).heap[wq.heap.size]? = some (.cells #[.int .i64 x.src, .slice A5 x.guards.length c5, .slice A6 x.out.length c6] 47 (0, 0)) := store3 hz0 _ _ _
            have ha8 : (((wz.setCell ⟨wq.heap.size, 0, none⟩ (.int .i64 x.src)).setCell ⟨wq.heap.size, 1, none⟩ (.slice A5 x.guards.length c5)).setCell ⟨wq.heap.size, 2, none⟩ (.slice A6 x.out.length c6)).heap[wq.heap.size + 1]? = some (.cells #[.int .i64 0, .slice none 0 0, .slice none 0 0] 47 (0, 0)) := (store3_other (by omega) _ _ _).trans hz1
            have hba : Below wq.heap.size wq (((wz.setCell ⟨wq.heap.size, 0, none⟩ (.int .i64 x.src)).setCell ⟨wq.heap.size, 1, none⟩ (.slice A5 x.guards.length c5)).setCell ⟨wq.heap.size, 2, none⟩ (.slice A6 x.out.length c6)) := store3_below hbz (by omega) _ _ _
            have hba2 : Below wq.drew.heap.size wq.drew (((wz.setCell ⟨wq.heap.size, 0, none⟩ (.int .i64 x.src)).setCell ⟨wq.heap.size, 1, none⟩ (.slice A5 x.guards.length c5)).setCell ⟨wq.heap.size, 2, none⟩ (.slice A6 x.out.length c6)) := store3_below hbz2 (by show wq.heap.size ≤ _; omega) _ _ _
            have has : wq.heap.size + 1 < (((wz.setCell ⟨wq.heap.size, 0, none⟩ (.int .i64 x.src)).setCell ⟨wq.heap.size, 1, none⟩ (.slice A5 x.guards.length c5)).setCell ⟨wq.heap.size, 2, none⟩ (.slice A6 x.out.length c6)).heap.size := by simp only [store3_size]; exact hzs
            refine hK.out _ _ (fun _ => WS.out i0 _ (by rw [Hi0.out]; exact hba2)) ?_
            clear hK K e0 ef0 e1 ef1 e2 ef2
            generalize ((wz.setCell ⟨wq.heap.size, 0, none⟩ (.int .i64 x.src)).setCell ⟨wq.heap.size, 1, none⟩ (.slice A5 x.guards.length c5)).setCell ⟨wq.heap.size, 2, none⟩ (.slice A6 x.out.length c6) = wa at ha7 ha8 hba hba2 has ⊢
            have e0 : wa.cell? ⟨wq.heap.size + 1, 0, none⟩ = some (.int .i64 0) := by rw [Lib.cell_of_heap ha8]; rfl
            have ef0 : wa.frozen? ⟨wq.heap.size + 1, 0, none⟩ = false := Lib.frozen_of_heap ha8 _
            have e1 : wa.cell? ⟨wq.heap.size + 1, 1, none⟩ = some (.slice none 0 0) := by rw [Lib.cell_of_heap ha8]; rfl
            have ef1 : wa.frozen? ⟨wq.heap.size + 1, 1, none⟩ = false := Lib.frozen_of_heap ha8 _
            have e2 : wa.cell? ⟨wq.heap.size + 1, 2, none⟩ = some (.slice none 0 0) := by rw [Lib.cell_of_heap ha8]; rfl
            have ef2 : wa.frozen? ⟨wq.heap.size + 1, 2, none⟩ = false := Lib.frozen_of_heap ha8 _
            refine anyL_act (i := 13) (by kernel_rfl) rfl rfl ?_
            intro K hK
            go_wp2_with fail
            have hb8 : (((wa.setCell ⟨wq.heap.size + 1, 0, none⟩ (.int .i64 x.src)).setCell ⟨wq.heap.size + 1, 1, none⟩ (.slice A7 x.guards.length c7)).setCell ⟨wq.heap.size + 1, 2, none⟩ (.slice A8 x.out.length c8)).heap[wq.heap.size + 1]? = some (.cells #[.int .i64 x.src, .slice A7 x.guards.length c7, .slice A8 x.out.length c8] 47 (0, 0)) := store3 ha8 _ _ _
            have hb7 : (((wa.setCell ⟨wq.heap.size + 1, 0, none⟩ (.int .i64 x.src)).setCell ⟨wq.heap.size + 1, 1, none⟩ (.slice A7 x.guards.length c7)).setCell ⟨wq.heap.size + 1, 2, none⟩ (.slice A8 x.out.length c8)).heap[wq.heap.size]? = some (.cells #[.int .i64 x.src, .slice A5 x.guards.length c5, .slice A6 x.out.length c6] 47 (0, 0)) := (store3_other (by omega) _ _ _).trans ha7
            have hbb : Below wq.heap.size wq (((wa.setCell ⟨wq.heap.size + 1, 0, none⟩ (.int .i64 x.src)).setCell ⟨wq.heap.size + 1, 1, none⟩ (.slice A7 x.guards.length c7)).setCell ⟨wq.heap.size + 1, 2, none⟩ (.slice A8 x.out.length c8)) := store3_below hba (by omega) _ _ _
            have hbb2 : Below wq.drew.heap.size wq.drew (((wa.setCell ⟨wq.heap.size + 1, 0, none⟩ (.int .i64 x.src)).setCell ⟨wq.heap.size + 1, 1, none⟩ (.slice A7 x.guards.length c7)).setCell ⟨wq.heap.size + 1, 2, none⟩ (.slice A8 x.out.length c8)) := store3_below hba2 (by show wq.heap.size ≤ _; omega) _ _ _
            have hbs : wq.heap.size + 1 < (((wa.setCell ⟨wq.heap.size + 1, 0, none⟩ (.int .i64 x.src)).setCell ⟨wq.heap.size + 1, 1, none⟩ (.slice A7 x.guards.length c7)).setCell ⟨wq.heap.size + 1, 2, none⟩ (.slice A8 x.out.length c8)).heap.size := by simp only [store3_size]; exact has
            refine hK.out _ _ (fun _ => WS.out i0 _ (by rw [Hi0.out]; exact hbb2)) ?_
            clear hK K e0 ef0 e1 ef1 e2 ef2
            generalize ((wa.setCell ⟨wq.heap.size + 1, 0, none⟩ (.int .i64 x.src)).setCell ⟨wq.heap.size + 1, 1, none⟩ (.slice A7 x.guards.length c7)).setCell ⟨wq.heap.size + 1, 2, none⟩ (.slice A8 x.out.length c8) = wb at hb7 hb8 hbb hbb2 hbs ⊢
            have hbs1 : wq.heap.size < wb.heap.size := by omega
            have x0 : wb.cell? ⟨wq.heap.size, 0, none⟩ = some (.int .i64 x.src) := by rw [Lib.cell_of_heap hb7]; rfl
            have x1 : wb.cell? ⟨wq.heap.size, 1, none⟩ = some (.slice A5 x.guards.length c5) := by rw [Lib.cell_of_heap hb7]; rfl
            have x2 : wb.cell? ⟨wq.heap.size, 2, none⟩ = some (.slice A6 x.out.length c6) := by rw [Lib.cell_of_heap hb7]; rfl
            have y0 : wb.cell? ⟨wq.heap.size + 1, 0, none⟩ = some (.int .i64 x.src) := by rw [Lib.cell_of_heap hb8]; rfl
            have y1 : wb.cell? ⟨wq.heap.size + 1, 1, none⟩ = some (.slice A7 x.guards.length c7) := by rw [Lib.cell_of_heap hb8]; rfl
            have y2 : wb.cell? ⟨wq.heap.size + 1, 2, none⟩ = some (.slice A8 x.out.length c8) := by rw [Lib.cell_of_heap hb8]; rfl
            refine anyL_done (by kernel_rfl) ?_ 0
            have HS1 := hid (HC1.out wb hbb)
            go_wp2_with fail
            refine HS1.out.mono ?_
            rintro e wc ⟨rfl, hbc⟩
            have hbd := hbb.trans (hbc.mono hbb.size)
            have HS2 := hid (HC2.out wc hbd)
            have hc7 := (hbc.block _ hbs1).trans hb7
            have hc8 := (hbc.block _ hbs).trans hb8
            clear HS1 x0 x1 x2 y0 y1 y2
            have x0 : wc.cell? ⟨wq.heap.size, 0, none⟩ = some (.int .i64 x.src) := by rw [Lib.cell_of_heap hc7]; rfl
            have x1 : wc.cell? ⟨wq.heap.size, 1, none⟩ = some (.slice A5 x.guards.length c5) := by rw [Lib.cell_of_heap hc7]; rfl
            have x2 : wc.cell? ⟨wq.heap.size, 2, none⟩ = some (.slice A6 x.out.length c6) := by rw [Lib.cell_of_heap hc7]; rfl
            have y0 : wc.cell? ⟨wq.heap.size + 1, 0, none⟩ = some (.int .i64 x.src) := by rw [Lib.cell_of_heap hc8]; rfl
            have y1 : wc.cell? ⟨wq.heap.size + 1, 1, none⟩ = some (.slice A7 x.guards.length c7) := by rw [Lib.cell_of_heap hc8]; rfl
            have y2 : wc.cell? ⟨wq.heap.size + 1, 2, none⟩ = some (.slice A8 x.out.length c8) := by rw [Lib.cell_of_heap hc8]; rfl
            go_wp2_with fail
            refine HS2.out.mono ?_
            rintro e wd ⟨rfl, hbe⟩
            clear HS2
            go_wp2_with fail
            refine ⟨⟨k + 1, by omega, by go_num, hB.trans ((hbd.trans (hbe.mono hbd.size)).mono hB.size)⟩, ?_⟩
            simp [intOf]; omega
          · intro K hK
            go_wp2_with fail
            refine hK.out _ _ (fun _ => WS.out i0 _ (by rw [Hi0.out]; exact (Below.refl _ _).alloc (Nat.le_refl _) _)) ?_
            clear hK K
            refine anyL_act (i := 10) (by kernel_rfl) rfl rfl ?_
            intro K hK
            go_wp2_with fail
            have hz0 : ((wq.alloc (.cells #[.int .i64 0, .slice none 0 0, .slice none 0 0] 47)).alloc (.cells #[.int .i64 0, .slice none 0 0, .slice none 0 0] 47)).drew.heap[wq.heap.size]? = some (.cells #[.int .i64 0, .slice none 0 0, .slice none 0 0] 47 (0, 0)) := (Below.heap_alloc _ _ _ (by simp)).trans (heap_alloc_new _ _)
            have hz1 : ((wq.alloc (.cells #[.int .i64 0, .slice none 0 0, .slice none 0 0] 47)).alloc (.cells #[.int .i64 0, .slice none 0 0, .slice none 0 0] 47)).drew.heap[wq.heap.size + 1]? = some (.cells #[.int .i64 0, .slice none 0 0, .slice none 0 0] 47 (0, 0)) := by
              have := heap_alloc_new (wq.alloc (.cells #[.int .i64 0, .slice none 0 0, .slice none 0 0] 47)) (.cells #[.int .i64 0, .slice none 0 0, .slice none 0 0] 47)
              show ((wq.alloc (.cells #[.int .i64 0, .slice none 0 0, .slice none 0 0] 47)).alloc (.cells #[.int .i64 0, .slice none 0 0, .slice none 0 0] 47)).heap[wq.heap.size + 1]? = _
              simpa using this
            have hzs : wq.heap.size + 1 < ((wq.alloc (.cells #[.int .i64 0, .slice none 0 0, .slice none 0 0] 47)).alloc (.cells #[.int .i64 0, .slice none 0 0, .slice none 0 0] 47)).drew.heap.size := by
              show wq.heap.size + 1 < ((wq.alloc (.cells #[.int .i64 0, .slice none 0 0, .slice none 0 0] 47)).alloc (.cells #[.int .i64 0, .slice none 0 0, .slice none 0 0] 47)).heap.size
              simp
            have hbz : Below wq.heap.size wq ((wq.alloc (.cells #[.int .i64 0, .slice none 0 0, .slice none 0 0] 47)).alloc (.cells #[.int .i64 0, .slice none 0 0, .slice none 0 0] 47)).drew := (((Below.refl _ _).alloc (Nat.le_refl _) _).alloc (by simp) _).drew
            have hbz2 : Below wq.drew.heap.size wq.drew ((wq.alloc (.cells #[.int .i64 0, .slice none 0 0, .slice none 0 0] 47)).alloc (.cells #[.int .i64 0, .slice none 0 0, .slice none 0 0] 47)).drew := ((Below.refl _ _).alloc (Nat.le_refl _) _).alloc (by simp) _
            refine hK.out _ _ (fun _ => WS.out i0 _ (by rw [Hi0.out]; exact hbz2)) ?_
            clear hK K
            generalize ((wq.alloc (.cells #[.int .i64 0, .slice none 0 0, .slice none 0 0] 47)).alloc (.cells #[.int .i64 0, .slice none 0 0, .slice none 0 0] 47)).drew = wz at hz0 hz1 hzs hbz hbz2 ⊢
            have e0 : wz.cell? ⟨wq.heap.size + 1, 0, none⟩ = some (.int .i64 0) := by rw [Lib.cell_of_heap hz1]; rfl
            have ef0 : wz.frozen? ⟨wq.heap.size + 1, 0, none⟩ = false := Lib.frozen_of_heap hz1 _
            have e1 : wz.cell? ⟨wq.heap.size + 1, 1, none⟩ = some (.slice none 0 0) := by rw [Lib.cell_of_heap hz1]; rfl
            have ef1 : wz.frozen? ⟨wq.heap.size + 1, 1, none⟩ = false := Lib.frozen_of_heap hz1 _
            have e2 : wz.cell? ⟨wq.heap.size + 1, 2, none⟩ = some (.slice none 0 0) := by rw [Lib.cell_of_heap hz1]; rfl
            have ef2 : wz.frozen? ⟨wq.heap.size + 1, 2, none⟩ = false := Lib.frozen_of_heap hz1 _
            refine anyL_act (i := 12) (by kernel_rfl) rfl rfl ?_
            intro K hK
            go_wp2_with fail
            have ha7 : (((wz.setCell ⟨wq.heap.size + 1, 0, none⟩ (.int .i64 x.src)).setCell ⟨wq.heap.size + 1, 1, none⟩ (.slice A5 x.guards.length c5)).setCell ⟨wq.heap.size + 1, 2, none⟩ (.slice A6 x.out.length c6)).heap[wq.heap.size + 1]? = some (.cells #[.int .i64 x.src, .slice A5 x.guards.length c5, .slice A6 x.out.length c6] 47 (0, 0)) := store3 hz1 _ _ _
            have ha8 : (((wz.setCell ⟨wq.heap.size + 1, 0, none⟩ (.int .i64 x.src)).setCell ⟨wq.heap.size + 1, 1, none⟩ (.slice A5 x.guards.length c5)).setCell ⟨wq.heap.size + 1, 2, none⟩ (.slice A6 x.out.length c6)).heap[wq.heap.size]? = some (.cells #[.int .i64 0, .slice none 0 0, .slice none 0 0] 47 (0, 0)) := (store3_other (by omega) _ _ _).trans hz0
            have hba : Below wq.heap.size wq (((wz.setCell ⟨wq.heap.size + 1, 0, none⟩ (.int .i64 x.src)).setCell ⟨wq.heap.size + 1, 1, none⟩ (.slice A5 x.guards.length c5)).setCell ⟨wq.heap.size + 1, 2, none⟩ (.slice A6 x.out.length c6)) := store3_below hbz (by omega) _ _ _
            have hba2 : Below wq.drew.heap.size wq.drew (((wz.setCell ⟨wq.heap.size + 1, 0, none⟩ (.int .i64 x.src)).setCell ⟨wq.heap.size + 1, 1, none⟩ (.slice A5 x.guards.length c5)).setCell ⟨wq.heap.size + 1, 2, none⟩ (.slice A6 x.out.length c6)) := store3_below hbz2 (by show wq.heap.size ≤ _; omega) _ _ _
            have has : wq.heap.size + 1 < (((wz.setCell ⟨wq.heap.size + 1, 0, none⟩ (.int .i64 x.src)).setCell ⟨wq.heap.size + 1, 1, none⟩ (.slice A5 x.guards.length c5)).setCell ⟨wq.heap.size + 1, 2, none⟩ (.slice A6 x.out.length c6)).heap.size := by simp only [store3_size]; exact hzs
            refine hK.out _ _ (fun _ => WS.out i0 _ (by rw [Hi0.out]; exact hba2)) ?_
            clear hK K e0 ef0 e1 ef1 e2 ef2
            generalize ((wz.setCell ⟨wq.heap.size + 1, 0, none⟩ (.int .i64 x.src)).setCell ⟨wq.heap.size + 1, 1, none⟩ (.slice A5 x.guards.length c5)).setCell ⟨wq.heap.size + 1, 2, none⟩ (.slice A6 x.out.length c6) = wa at ha7 ha8 hba hba2 has ⊢
            have e0 : wa.cell? ⟨wq.heap.size, 0, none⟩ = some (.int .i64 0) := by rw [Lib.cell_of_heap ha8]; rfl
            have ef0 : wa.frozen? ⟨wq.heap.size, 0, none⟩ = false := Lib.frozen_of_heap ha8 _
            have e1 : wa.cell? ⟨wq.heap.size, 1, none⟩ = some (.slice none 0 0) := by rw [Lib.cell_of_heap ha8]; rfl
            have ef1 : wa.frozen? ⟨wq.heap.size, 1, none⟩ = false := Lib.frozen_of_heap ha8 _
            have e2 : wa.cell? ⟨wq.heap.size, 2, none⟩ = some (.slice none 0 0) := by rw [Lib.cell_of_heap ha8]; rfl
            have ef2 : wa.frozen? ⟨wq.heap.size, 2, none⟩ = false := Lib.frozen_of_heap ha8 _
            refine anyL_act (i := 13) (by kernel_rfl) rfl rfl ?_
            intro K hK
            go_wp2_with fail
            have hb8 : (((wa.setCell ⟨wq.heap.size, 0, none⟩ (.int .i64 x.src)).setCell ⟨wq.heap.size, 1, none⟩ (.slice A7 x.guards.length c7)).setCell ⟨wq.heap.size, 2, none⟩ (.slice A8 x.out.length c8)).heap[wq.heap.size]? = some (.cells #[.int .i64 x.src, .slice A7 x.guards.length c7, .slice A8 x.out.length c8] 47 (0, 0)) := store3 ha8 _ _ _
            have hb7 : (((wa.setCell ⟨wq.heap.size, 0, none⟩ (.int .i64 x.src)).setCell ⟨wq.heap.size, 1, none⟩ (.slice A7 x.guards.length c7)).setCell ⟨wq.heap.size, 2, none⟩ (.slice A8 x.out.length c8)).heap[wq.heap.size + 1]? = some (.cells #[.int .i64 x.src, .slice A5 x.guards.length c5, .slice A6 x.out.length c6] 47 (0, 0)) := (store3_other (by omega) _ _ _).trans ha7
            have hbb : Below wq.heap.size wq (((wa.setCell ⟨wq.heap.size, 0, none⟩ (.int .i64 x.src)).setCell ⟨wq.heap.size, 1, none⟩ (.slice A7 x.guards.length c7)).setCell ⟨wq.heap.size, 2, none⟩ (.slice A8 x.out.length c8)) := store3_below hba (by omega) _ _ _
            have hbb2 : Below wq.drew.heap.size wq.drew (((wa.setCell ⟨wq.heap.size, 0, none⟩ (.int .i64 x.src)).setCell ⟨wq.heap.size, 1, none⟩ (.slice A7 x.guards.length c7)).setCell ⟨wq.heap.size, 2, none⟩ (.slice A8 x.out.length c8)) := store3_below hba2 (by show wq.heap.size ≤ _; omega) _ _ _
            have hbs : wq.heap.size + 1 < (((wa.setCell ⟨wq.heap.size, 0, none⟩ (.int .i64 x.src)).setCell ⟨wq.heap.size, 1, none⟩ (.slice A7 x.guards.length c7)).setCell ⟨wq.heap.size, 2, none⟩ (.slice A8 x.out.length c8)).heap.size := by simp only [store3_size]; exact has
            refine hK.out _ _ (fun _ => WS.out i0 _ (by rw [Hi0.out]; exact hbb2)) ?_
            clear hK K e0 ef0 e1 ef1 e2 ef2
            generalize ((wa.setCell ⟨wq.heap.size, 0, none⟩ (.int .i64 x.src)).setCell ⟨wq.heap.size, 1, none⟩ (.slice A7 x.guards.length c7)).setCell ⟨wq.heap.size, 2, none⟩ (.slice A8 x.out.length c8) = wb at hb7 hb8 hbb hbb2 hbs ⊢
            have hbs1 : wq.heap.size < wb.heap.size := by omega
            have x0 : wb.cell? ⟨wq.heap.size + 1, 0, none⟩ = some (.int .i64 x.src) := by rw [Lib.cell_of_heap hb7]; rfl
            have x1 : wb.cell? ⟨wq.heap.size + 1, 1, none⟩ = some (.slice A5 x.guards.length c5) := by rw [Lib.cell_of_heap hb7]; rfl
            have x2 : wb.cell? ⟨wq.heap.size + 1, 2, none⟩ = some (.slice A6 x.out.length c6) := by rw [Lib.cell_of_heap hb7]; rfl
            have y0 : wb.cell? ⟨wq.heap.size, 0, none⟩ = some (.int .i64 x.src) := by rw [Lib.cell_of_heap hb8]; rfl
            have y1 : wb.cell? ⟨wq.heap.size, 1, none⟩ = some (.slice A7 x.guards.length c7) := by rw [Lib.cell_of_heap hb8]; rfl
            have y2 : wb.cell? ⟨wq.heap.size, 2, none⟩ = some (.slice A8 x.out.length c8) := by rw [Lib.cell_of_heap hb8]; rfl
            refine anyL_done (by kernel_rfl) ?_ 0
            have HS1 := hid (HC1.out wb hbb)
            go_wp2_with fail
            refine HS1.out.mono ?_
            rintro e wc ⟨rfl, hbc⟩
            have hbd := hbb.trans (hbc.mono hbb.size)
            have HS2 := hid (HC2.out wc hbd)
            have hc7 := (hbc.block _ hbs).trans hb7
            have hc8 := (hbc.block _ hbs1).trans hb8
            clear HS1 x0 x1 x2 y0 y1 y2
            have x0 : wc.cell? ⟨wq.heap.size + 1, 0, none⟩ = some (.int .i64 x.src) := by rw [Lib.cell_of_heap hc7]; rfl
            have x1 : wc.cell? ⟨wq.heap.size + 1, 1, none⟩ = some (.slice A5 x.guards.length c5) := by rw [Lib.cell_of_heap hc7]; rfl
            have x2 : wc.cell? ⟨wq.heap.size + 1, 2, none⟩ = some (.slice A6 x.out.length c6) := by rw [Lib.cell_of_heap hc7]; rfl
            have y0 : wc.cell? ⟨wq.heap.size, 0, none⟩ = some (.int .i64 x.src) := by rw [Lib.cell_of_heap hc8]; rfl
            have y1 : wc.cell? ⟨wq.heap.size, 1, none⟩ = some (.slice A7 x.guards.length c7) := by rw [Lib.cell_of_heap hc8]; rfl
            have y2 : wc.cell? ⟨wq.heap.size, 2, none⟩ = some (.slice A8 x.out.length c8) := by rw [Lib.cell_of_heap hc8]; rfl
            go_wp2_with fail
            refine HS2.out.mono ?_
            rintro e wd ⟨rfl, hbe⟩
            clear HS2
            go_wp2_with fail
            refine ⟨⟨k + 1, by omega, by go_num, hB.trans ((hbd.trans (hbe.mono hbd.size)).mono hB.size)⟩, ?_⟩
            simp [intOf]; omega
        · have hke : ¬ (k : Int) < d.finals.length := by omega
          clear har hbr
          go_wp2_with fail
          go_ret
          exact ⟨rfl, HB0.out.trans (hB.mono HB0.out.size)⟩
end Go.Proofs.YtcdnkmefcldfmaaDoor
