/-
  The reference's Same, where both read as the same data: it returns true.
-/
import Derived.Test.YtcdnkmefcldfmaaDoorPgLi
namespace Go.Proofs.YtcdnkmefcldfmaaDoor
open Go.RowKit Go.Um

set_option maxHeartbeats 2000000 in
theorem same_spans (a : List Span) (v u : Value) (w : World) (ha : spansR.rel w (upto w.heap.size) [v] a) (hb : spansR.rel w (upto w.heap.size) [u] a) :
    Calls Tryd.prog 44 #[v, u] w fun e w' => e = .returned (.bool true) ∧ Below w.heap.size w w' := by
  obtain ⟨A1, c1, rfl, hc1, hm1⟩ := list_form ha
  obtain ⟨A2, c2, rfl, hc2, hm2⟩ := list_form hb
  unfold maxLen at hm1 hm2
  go_enter Tryd.func44, Tryd.ntmps44
  go_wp2_with fail
  go_loopw [5] (fun vi wr => ∃ k : Nat, k ≤ a.length ∧ vi = .int .i64 k ∧ Below w.heap.size w wr) (fun vi _ => a.length - (intOf vi).toNat)
  case atStart => exact ⟨0, Nat.zero_le _, rfl, Below.refl _ _⟩
  case round =>
    obtain ⟨k, hk, rfl, hB⟩ := hrel
    have har := spansR.mono (below_cells hB) (fun _ h => h) ha
    have hbr := spansR.mono (below_cells hB) (fun _ h => h) hb
    by_cases hlt : k < a.length
    · obtain ⟨x, hx⟩ := at_lt hlt
      obtain ⟨b1, o1, rfl, hb1, h1, h2, hp1, hp2⟩ := span_at har hx
      obtain ⟨b2, o2, rfl, hb2, h3, h4, hq1, hq2⟩ := span_at hbr hx
      have hka : (k : Int) < a.length := by omega
      clear hx har hbr hp1 hp2 hq1 hq2
      go_wp2_with fail
      go_quiet (fail)
      go_wp2_with fail
      refine ⟨⟨k + 1, by omega, by go_num, below_drewN hB _⟩, ?_⟩
      simp [intOf]; omega
    · have hke : ¬ (k : Int) < a.length := by omega
      clear har hbr
      go_wp2_with fail
      go_ret
      exact ⟨rfl, hB⟩

set_option maxHeartbeats 2000000 in
set_option maxRecDepth 100000 in
theorem same_term (t : Term) (v u : Value) (w : World) (ha : (listR partR).rel w (upto w.heap.size) [v] t.parts) (hb : (listR partR).rel w (upto w.heap.size) [u] t.parts) :
    Calls Tryd.prog 45 #[.agg #[.int .i64 t.base, .int .i64 t.drop, .int .i64 t.take, .int .i64 t.up, .int .i64 t.sum, v], .agg #[.int .i64 t.base, .int .i64 t.drop, .int .i64 t.take, .int .i64 t.up, .int .i64 t.sum, u]] w fun e w' => e = .returned (.bool true) ∧ Below w.heap.size w w' := by
  obtain ⟨A1, c1, rfl, hc1, hm1⟩ := list_form ha
  obtain ⟨A2, c2, rfl, hc2, hm2⟩ := list_form hb
  unfold maxLen at hm1 hm2
  obtain ⟨w0, hw0⟩ : ∃ w0, w0 = (w.alloc (.cells #[.int .i64 t.base, .int .i64 t.drop, .int .i64 t.take, .int .i64 t.up, .int .i64 t.sum, .slice A1 t.parts.length c1] 76)).alloc (.cells #[.int .i64 t.base, .int .i64 t.drop, .int .i64 t.take, .int .i64 t.up, .int .i64 t.sum, .slice A2 t.parts.length c2] 76) := ⟨_, rfl⟩
  have hB0 : Below w.heap.size w w0 := by rw [hw0]; exact ((Below.refl _ _).alloc (Nat.le_refl _) _).alloc (by simp) _
  have hR0 : w0.heap[w.heap.size]? = some (.cells #[.int .i64 t.base, .int .i64 t.drop, .int .i64 t.take, .int .i64 t.up, .int .i64 t.sum, .slice A1 t.parts.length c1] 76 (0, 0)) := by rw [hw0, Below.heap_alloc _ _ _ (by simp)]; exact heap_alloc_new _ _
  have hP0 : w0.heap[w.heap.size + 1]? = some (.cells #[.int .i64 t.base, .int .i64 t.drop, .int .i64 t.take, .int .i64 t.up, .int .i64 t.sum, .slice A2 t.parts.length c2] 76 (0, 0)) := by
    have := heap_alloc_new (w.alloc (.cells #[.int .i64 t.base, .int .i64 t.drop, .int .i64 t.take, .int .i64 t.up, .int .i64 t.sum, .slice A1 t.parts.length c1] 76)) (.cells #[.int .i64 t.base, .int .i64 t.drop, .int .i64 t.take, .int .i64 t.up, .int .i64 t.sum, .slice A2 t.parts.length c2] 76)
    rw [hw0]
    simpa using this
  have ha0 := (listR partR).later ha hB0
  have hb0 := (listR partR).later hb hB0
  have hs0 : w.heap.size + 1 < w0.heap.size := by rw [hw0]; simp
  go_enter Tryd.func45, Tryd.ntmps45
  go_wp2_with fail
  rw [← hw0]
  have HB0 := hid hB0
  clear hw0 hB0 ha hb
  go_loopw [5] (fun vi wr => ∃ k : Nat, k ≤ t.parts.length ∧ vi = .int .i64 k ∧ Below w0.heap.size w0 wr) (fun vi _ => t.parts.length - (intOf vi).toNat)
  case atStart => exact ⟨0, Nat.zero_le _, rfl, Below.refl _ _⟩
  case round =>
    obtain ⟨k, hk, rfl, hB⟩ := hrel
    have g1 : wr.cell? ⟨w.heap.size, 5, none⟩ = some (.slice A1 t.parts.length c1) := by rw [Lib.cell_of_heap ((hB.block _ (by omega)).trans hR0)]; rfl
    have g2 : wr.cell? ⟨w.heap.size + 1, 5, none⟩ = some (.slice A2 t.parts.length c2) := by rw [Lib.cell_of_heap ((hB.block _ (by omega)).trans hP0)]; rfl
    have har := (listR partR).later ha0 hB
    have hbr := (listR partR).later hb0 hB
    by_cases hlt : k < t.parts.length
    · obtain ⟨x, hx⟩ := at_lt hlt
      obtain ⟨b1, o1, rfl, hb1, h1, h2, h3, h4, _⟩ := part_at har hx
      obtain ⟨b2, o2, rfl, hb2, h5, h6, h7, h8, _⟩ := part_at hbr hx
      have hka : (k : Int) < t.parts.length := by omega
      clear hx har hbr ha0 hb0 hb1 hb2
      go_wp2_with fail
      go_quiet (fail)
      go_wp2_with fail
      refine ⟨⟨k + 1, by omega, by go_num, below_drewN hB _⟩, ?_⟩
      simp [intOf]; omega
    · have hke : ¬ (k : Int) < t.parts.length := by omega
      clear har hbr ha0 hb0
      go_wp2_with fail
      go_ret
      exact ⟨rfl, HB0.out.trans (hB.mono HB0.out.size)⟩

set_option maxHeartbeats 2000000 in
set_option maxRecDepth 100000 in
theorem same_sets (gs : List (List Span)) (v u : Value) (w : World) (ha : (listR spansR).rel w (upto w.heap.size) [v] gs) (hb : (listR spansR).rel w (upto w.heap.size) [u] gs) :
    Calls Tryd.prog 28 #[v, u] w fun e w' => e = .returned (.bool true) ∧ Below w.heap.size w w' := by
  obtain ⟨A1, c1, rfl, hc1, hm1⟩ := list_form ha
  obtain ⟨A2, c2, rfl, hc2, hm2⟩ := list_form hb
  unfold maxLen at hm1 hm2
  go_enter Tryd.func28, Tryd.ntmps28
  go_wp2_with fail
  go_loopw [5] (fun vi wr => ∃ k : Nat, k ≤ gs.length ∧ vi = .int .i64 k ∧ Below w.heap.size w wr) (fun vi _ => gs.length - (intOf vi).toNat)
  case atStart => exact ⟨0, Nat.zero_le _, rfl, Below.refl _ _⟩
  case round =>
    obtain ⟨k, hk, rfl, hB⟩ := hrel
    have har := (listR spansR).later ha hB
    have hbr := (listR spansR).later hb hB
    by_cases hlt : k < gs.length
    · obtain ⟨x, hx⟩ := at_lt hlt
      obtain ⟨b1, o1, y1, rfl, hl1, hy1, hz1⟩ := list_at1 rfl har hx
      obtain ⟨b2, o2, y2, rfl, hl2, hy2, hz2⟩ := list_at1 rfl hbr hx
      obtain ⟨A3, c3, rfl, _, _⟩ := list_form hy1
      obtain ⟨A4, c4, rfl, _, _⟩ := list_form hy2
      have hka : (k : Int) < gs.length := by omega
      have HC := hid (fun w' (hb : Below wr.heap.size wr w') => same_spans x _ _ w' (spansR.later hy1 hb) (spansR.later hy2 hb))
      clear hx har hbr hy1 hy2
      go_wp2_with fail
      obtain ⟨ι, W, ⟨i0, hi0⟩, hW, Wsur⟩ := ext_class wr.drew
      have hne : Nonempty ι := ⟨i0⟩
      have q1 : ∀ i, (W i).cell? ⟨b1, o1 + k, none⟩ = _ := fun i => ((hW i).cell (p := ⟨b1, o1 + k, none⟩) (by exact hl1)).trans hz1
      have q2 : ∀ i, (W i).cell? ⟨b2, o2 + k, none⟩ = _ := fun i => ((hW i).cell (p := ⟨b2, o2 + k, none⟩) (by exact hl2)).trans hz2
      have WS := hid Wsur; clear Wsur
      have HW := hid hW; clear hW
      have Hi0 := hid hi0; clear hi0
      refine region_anyL (S := fun w' => ∃ i, w' = W i) (last := 10) (by kernel_rfl) ?_
      refine anyL_seg 0 8 (by kernel_rfl) (fun _ _ _ _ _ h => h) ⟨i0, Hi0.out.symm⟩ (f := 2) rfl (by kernel_rfl) (by kernel_rfl) ?_
      simp only [List.drop_zero, List.take_succ_cons, List.take_zero]
      repeat go_big_quiet_step (fail)
      refine wpQuiet_nil ?_
      refine anyL_act (i := 8) (by kernel_rfl) rfl rfl ?_
      intro K hK
      go_wp2_with fail
      refine (HC.out _ ((Below.refl _ _).drew)).mono ?_
      rintro e w5 ⟨rfl, hb5⟩
      go_wp2_with fail
      have hS1 : ∃ i, w5 = W i := WS.out i0 w5 (by rw [Hi0.out]; exact hb5)
      refine hK.out _ _ (fun _ => hS1) ?_
      clear hK K
      refine anyL_seg 9 1 (by kernel_rfl) (fun _ _ _ _ _ h => h) hS1 (f := 0) rfl (by kernel_rfl) (by kernel_rfl) ?_
      simp only [List.drop_succ_cons, List.drop_zero, List.take_succ_cons, List.take_zero]
      repeat go_big_quiet_step (fail)
      refine wpQuiet_nil ?_
      refine anyL_done (by kernel_rfl) ?_ 0
      go_wp2_with fail
      refine ⟨⟨k + 1, by omega, by go_num, hB.trans ((Below.refl wr.heap.size wr).drew.trans hb5 |>.mono hB.size)⟩, ?_⟩
      simp [intOf]; omega
    · have hke : ¬ (k : Int) < gs.length := by omega
      clear har hbr
      go_wp2_with fail
      go_ret
      exact ⟨rfl, hB⟩
end Go.Proofs.YtcdnkmefcldfmaaDoor
