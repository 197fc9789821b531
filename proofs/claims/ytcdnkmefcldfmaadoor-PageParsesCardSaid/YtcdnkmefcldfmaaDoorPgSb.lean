/-
  The reference's SameTerms and SameRule, where both read as the same data: they return true.
-/
import Derived.Test.YtcdnkmefcldfmaaDoorPgSa
namespace Go.Proofs.YtcdnkmefcldfmaaDoor
open Go.RowKit Go.Um

set_option maxHeartbeats 2000000 in
set_option maxRecDepth 100000 in
theorem same_terms (ts : List Term) (v u : Value) (w : World) (ha : (listR termR).rel w (upto w.heap.size) [v] ts) (hb : (listR termR).rel w (upto w.heap.size) [u] ts) :
    Calls Tryd.prog 29 #[v, u] w fun e w' => e = .returned (.bool true) ∧ Below w.heap.size w w' := by
  obtain ⟨A1, c1, rfl, hc1, hm1⟩ := list_form ha
  obtain ⟨A2, c2, rfl, hc2, hm2⟩ := list_form hb
  unfold maxLen at hm1 hm2
  go_enter Tryd.func29, Tryd.ntmps29
  go_wp2_with fail
  go_loopw [5] (fun vi wr => ∃ k : Nat, k ≤ ts.length ∧ vi = .int .i64 k ∧ Below w.heap.size w wr) (fun vi _ => ts.length - (intOf vi).toNat)
  case atStart => exact ⟨0, Nat.zero_le _, rfl, Below.refl _ _⟩
  case round =>
    obtain ⟨k, hk, rfl, hB⟩ := hrel
    have har := (listR termR).later ha hB
    have hbr := (listR termR).later hb hB
    by_cases hlt : k < ts.length
    · obtain ⟨x, hx⟩ := at_lt hlt
      obtain ⟨b1, o1, y1, rfl, hl1, z10, z11, z12, z13, z14, z15, _, hy1⟩ := term_at har hx
      obtain ⟨b2, o2, y2, rfl, hl2, z20, z21, z22, z23, z24, z25, _, hy2⟩ := term_at hbr hx
      obtain ⟨A3, c3, rfl, _, _⟩ := list_form hy1
      obtain ⟨A4, c4, rfl, _, _⟩ := list_form hy2
      have hka : (k : Int) < ts.length := by omega
      have HC := hid (fun w' (hb : Below wr.heap.size wr w') => same_term x _ _ w' ((listR partR).later hy1 hb) ((listR partR).later hy2 hb))
      clear hx har hbr hy1 hy2
      go_wp2_with fail
      obtain ⟨ι, W, ⟨i0, hi0⟩, hW, Wsur⟩ := ext_class wr.drew
      have hne : Nonempty ι := ⟨i0⟩
      have q10 : ∀ i, (W i).cell? ⟨b1, o1 + k * 6, none⟩ = _ := fun i => ((hW i).cell (p := ⟨b1, o1 + k * 6, none⟩) (by exact hl1)).trans z10
      have q11 : ∀ i, (W i).cell? ⟨b1, o1 + k * 6 + 1, none⟩ = _ := fun i => ((hW i).cell (p := ⟨b1, o1 + k * 6 + 1, none⟩) (by exact hl1)).trans z11
      have q12 : ∀ i, (W i).cell? ⟨b1, o1 + k * 6 + 2, none⟩ = _ := fun i => ((hW i).cell (p := ⟨b1, o1 + k * 6 + 2, none⟩) (by exact hl1)).trans z12
      have q13 : ∀ i, (W i).cell? ⟨b1, o1 + k * 6 + 3, none⟩ = _ := fun i => ((hW i).cell (p := ⟨b1, o1 + k * 6 + 3, none⟩) (by exact hl1)).trans z13
      have q14 : ∀ i, (W i).cell? ⟨b1, o1 + k * 6 + 4, none⟩ = _ := fun i => ((hW i).cell (p := ⟨b1, o1 + k * 6 + 4, none⟩) (by exact hl1)).trans z14
      have q15 : ∀ i, (W i).cell? ⟨b1, o1 + k * 6 + 5, none⟩ = _ := fun i => ((hW i).cell (p := ⟨b1, o1 + k * 6 + 5, none⟩) (by exact hl1)).trans z15
      have q20 : ∀ i, (W i).cell? ⟨b2, o2 + k * 6, none⟩ = _ := fun i => ((hW i).cell (p := ⟨b2, o2 + k * 6, none⟩) (by exact hl2)).trans z20
      have q21 : ∀ i, (W i).cell? ⟨b2, o2 + k * 6 + 1, none⟩ = _ := fun i => ((hW i).cell (p := ⟨b2, o2 + k * 6 + 1, none⟩) (by exact hl2)).trans z21
      have q22 : ∀ i, (W i).cell? ⟨b2, o2 + k * 6 + 2, none⟩ = _ := fun i => ((hW i).cell (p := ⟨b2, o2 + k * 6 + 2, none⟩) (by exact hl2)).trans z22
      have q23 : ∀ i, (W i).cell? ⟨b2, o2 + k * 6 + 3, none⟩ = _ := fun i => ((hW i).cell (p := ⟨b2, o2 + k * 6 + 3, none⟩) (by exact hl2)).trans z23
      have q24 : ∀ i, (W i).cell? ⟨b2, o2 + k * 6 + 4, none⟩ = _ := fun i => ((hW i).cell (p := ⟨b2, o2 + k * 6 + 4, none⟩) (by exact hl2)).trans z24
      have q25 : ∀ i, (W i).cell? ⟨b2, o2 + k * 6 + 5, none⟩ = _ := fun i => ((hW i).cell (p := ⟨b2, o2 + k * 6 + 5, none⟩) (by exact hl2)).trans z25
      have WS := hid Wsur; clear Wsur
      have HW := hid hW; clear hW
      have Hi0 := hid hi0; clear hi0
      clear z10 z11 z12 z13 z14 z15 z20 z21 z22 z23 z24 z25
      refine region_anyL (S := fun w' => ∃ i, w' = W i) (last := 10) (by kernel_rfl) ?_
      refine anyL_seg 0 8 (by kernel_rfl) (fun _ _ _ _ _ h => h) ⟨i0, Hi0.out.symm⟩ (f := 2) rfl (by kernel_rfl) (by kernel_rfl) ?_
      simp only [List.drop_zero, List.take_succ_cons, List.take_zero]
      repeat go_big_quiet_step (fail)
      refine wpQuiet_nil ?_
      refine anyL_act (i := 8) (by kernel_rfl) rfl rfl ?_
      intro K hK
      go_wp2_with fail
      refine (HC.out _ ((Below.refl _ _).drew)).mono ?_
      rintro e w5 ⟨rfl, hbw5⟩
      go_wp2_with fail
      have hSw5 : ∃ i, w5 = W i := WS.out i0 w5 (by rw [Hi0.out]; exact hbw5)
      refine hK.out _ _ (fun _ => hSw5) ?_
      clear hK K
      refine anyL_seg 9 1 (by kernel_rfl) (fun _ _ _ _ _ h => h) hSw5 (f := 0) rfl (by kernel_rfl) (by kernel_rfl) ?_
      simp only [List.drop_succ_cons, List.drop_zero, List.take_succ_cons, List.take_zero]
      repeat go_big_quiet_step (fail)
      refine wpQuiet_nil ?_
      refine anyL_done (by kernel_rfl) ?_ 0
      go_wp2_with fail
      refine ⟨⟨k + 1, by omega, by go_num, hB.trans ((Below.refl wr.heap.size wr).drew.trans hbw5 |>.mono hB.size)⟩, ?_⟩
      simp [intOf]; omega
    · have hke : ¬ (k : Int) < ts.length := by omega
      clear har hbr
      go_wp2_with fail
      go_ret
      exact ⟨rfl, hB⟩

set_option maxHeartbeats 2000000 in
set_option maxRecDepth 100000 in
theorem same_rule (r : Rule) (v u v' u' : Value) (w : World) (h1 : (listR spansR).rel w (upto w.heap.size) [v] r.guards) (h2 : (listR termR).rel w (upto w.heap.size) [u] r.out) (h3 : (listR spansR).rel w (upto w.heap.size) [v'] r.guards) (h4 : (listR termR).rel w (upto w.heap.size) [u'] r.out) :
    Calls Tryd.prog 27 #[.agg #[.int .i64 r.src, .int .i64 r.dst, v, .int .i64 r.eat, u], .agg #[.int .i64 r.src, .int .i64 r.dst, v', .int .i64 r.eat, u']] w fun e w' => e = .returned (.bool true) ∧ Below w.heap.size w w' := by
  obtain ⟨A1, c1, rfl, hc1, hm1⟩ := list_form h1
  obtain ⟨A2, c2, rfl, hc2, hm2⟩ := list_form h2
  obtain ⟨A3, c3, rfl, hc3, hm3⟩ := list_form h3
  obtain ⟨A4, c4, rfl, hc4, hm4⟩ := list_form h4
  obtain ⟨w0, hw0⟩ : ∃ w0, w0 = (w.alloc (.cells #[.int .i64 r.src, .int .i64 r.dst, .slice A1 r.guards.length c1, .int .i64 r.eat, .slice A2 r.out.length c2] 45)).alloc (.cells #[.int .i64 r.src, .int .i64 r.dst, .slice A3 r.guards.length c3, .int .i64 r.eat, .slice A4 r.out.length c4] 45) := ⟨_, rfl⟩
  have hB0 : Below w.heap.size w w0 := by rw [hw0]; exact ((Below.refl _ _).alloc (Nat.le_refl _) _).alloc (by simp) _
  have hR0 : w0.heap[w.heap.size]? = some (.cells #[.int .i64 r.src, .int .i64 r.dst, .slice A1 r.guards.length c1, .int .i64 r.eat, .slice A2 r.out.length c2] 45 (0, 0)) := by rw [hw0, Below.heap_alloc _ _ _ (by simp)]; exact heap_alloc_new _ _
  have hP0 : w0.heap[w.heap.size + 1]? = some (.cells #[.int .i64 r.src, .int .i64 r.dst, .slice A3 r.guards.length c3, .int .i64 r.eat, .slice A4 r.out.length c4] 45 (0, 0)) := by
    have := heap_alloc_new (w.alloc (.cells #[.int .i64 r.src, .int .i64 r.dst, .slice A1 r.guards.length c1, .int .i64 r.eat, .slice A2 r.out.length c2] 45)) (.cells #[.int .i64 r.src, .int .i64 r.dst, .slice A3 r.guards.length c3, .int .i64 r.eat, .slice A4 r.out.length c4] 45)
    rw [hw0]
    simpa using this
  have hs0 : w.heap.size + 1 < w0.heap.size := by rw [hw0]; simp
  have hs1 : w.heap.size < w0.heap.size := by omega
  have HC1 := hid (fun w' (hb : Below w.heap.size w w') => same_sets r.guards _ _ w' ((listR spansR).later h1 hb) ((listR spansR).later h3 hb))
  have HC2 := hid (fun w' (hb : Below w.heap.size w w') => same_terms r.out _ _ w' ((listR termR).later h2 hb) ((listR termR).later h4 hb))
  clear h1 h2 h3 h4
  go_enter Tryd.func27, Tryd.ntmps27
  go_wp2_with fail
  rw [← hw0]
  clear hw0
  have HB0 := hid hB0; clear hB0
  refine (HC1.out w0 HB0.out).mono ?_
  rintro e w5 ⟨rfl, hb5⟩
  have q0 : w5.cell? ⟨w.heap.size, 0, none⟩ = some (.int .i64 r.src) := by rw [Lib.cell_of_heap ((hb5.block _ (by exact hs1)).trans hR0)]; rfl
  have q1 : w5.cell? ⟨w.heap.size, 1, none⟩ = some (.int .i64 r.dst) := by rw [Lib.cell_of_heap ((hb5.block _ (by exact hs1)).trans hR0)]; rfl
  have q2 : w5.cell? ⟨w.heap.size, 2, none⟩ = some (.slice A1 r.guards.length c1) := by rw [Lib.cell_of_heap ((hb5.block _ (by exact hs1)).trans hR0)]; rfl
  have q3 : w5.cell? ⟨w.heap.size, 3, none⟩ = some (.int .i64 r.eat) := by rw [Lib.cell_of_heap ((hb5.block _ (by exact hs1)).trans hR0)]; rfl
  have q4 : w5.cell? ⟨w.heap.size, 4, none⟩ = some (.slice A2 r.out.length c2) := by rw [Lib.cell_of_heap ((hb5.block _ (by exact hs1)).trans hR0)]; rfl
  have p0 : w5.cell? ⟨w.heap.size + 1, 0, none⟩ = some (.int .i64 r.src) := by rw [Lib.cell_of_heap ((hb5.block _ (by exact hs0)).trans hP0)]; rfl
  have p1 : w5.cell? ⟨w.heap.size + 1, 1, none⟩ = some (.int .i64 r.dst) := by rw [Lib.cell_of_heap ((hb5.block _ (by exact hs0)).trans hP0)]; rfl
  have p2 : w5.cell? ⟨w.heap.size + 1, 2, none⟩ = some (.slice A3 r.guards.length c3) := by rw [Lib.cell_of_heap ((hb5.block _ (by exact hs0)).trans hP0)]; rfl
  have p3 : w5.cell? ⟨w.heap.size + 1, 3, none⟩ = some (.int .i64 r.eat) := by rw [Lib.cell_of_heap ((hb5.block _ (by exact hs0)).trans hP0)]; rfl
  have p4 : w5.cell? ⟨w.heap.size + 1, 4, none⟩ = some (.slice A4 r.out.length c4) := by rw [Lib.cell_of_heap ((hb5.block _ (by exact hs0)).trans hP0)]; rfl
  have hB5 := HB0.out.trans (hb5.mono HB0.out.size)
  have HC := hid (HC2.out w5 hB5)
  clear HC1 HC2 hR0 hP0
  go_wp2_with fail
  refine HC.out.mono ?_
  rintro e w6 ⟨rfl, hb6⟩
  clear HC
  go_wp2_with fail
  go_ret
  exact ⟨rfl, hB5.trans (hb6.mono hB5.size)⟩
end Go.Proofs.YtcdnkmefcldfmaaDoor
