/-
  A runner's parts: run.ends.
-/
import Derived.Test.YtmkmikacfilbpaaGreatRuA
namespace Go.Proofs.YtmkmikacfilbpaaGreat
open Go.RowKit Go.Um Go.Proofs
def endsB (x : List Int) (gs : List (List Span)) (a : Nat) : Bool := decide (gs.length + a = x.length) && fitsB x gs a
set_option maxHeartbeats 2000000 in
set_option maxRecDepth 100000 in
theorem ends_calls (RB : Nat) (vx gv ov : Value) (fs : Int) (x : List Int) (gs : List (List Span)) (a : Nat) (w : World) (hc : w.cell? ⟨RB, 6, none⟩ = some vx) (hx : wordR.rel w (upto w.heap.size) [vx] x) (hg : (listR spansR).rel w (upto w.heap.size) [gv] gs) (ha : a ≤ x.length) :
    Calls Tryz.prog 51 #[.pointer (some ⟨RB, 0, none⟩), .agg #[.int .i64 fs, gv, ov], .int .i64 a] w fun e w' => e = .returned (.bool (endsB x gs a)) ∧ Below w.heap.size w w' := by
  obtain ⟨A, c, rfl, hc1, hm⟩ := list_form hg
  obtain ⟨B, d, rfl, hd1, hm2⟩ := list_form hx
  unfold maxLen at hm hm2
  have hRB : RB < w.heap.size := block_lt_of_cell hc
  have hB0 : Below w.heap.size w (w.alloc (.cells #[.int .i64 fs, .slice A gs.length c, ov] 59)) := (Below.refl _ w).alloc (Nat.le_refl _) _
  have HF := hid fun W (hW : Below w.heap.size w W) => rfits_calls RB (.slice B x.length d) (.slice A gs.length c) x gs a W ((hW.cell (p := ⟨RB, 6, none⟩) hRB).trans hc) (wordR.mono (below_cells hW) (fun b hb => Nat.lt_of_lt_of_le hb hW.size) hx) ((listR spansR).mono (below_cells hW) (fun b hb => Nat.lt_of_lt_of_le hb hW.size) hg) ha
  have HB0 := hid hB0
  by_cases he : (gs.length : Int) = (x.length : Int) - a
  · have he' : ((gs.length : Int) == (x.length : Int) - a) = true := by simpa using he
    have hE : Hid (endsB x gs a = fitsB x gs a) := hid (by unfold endsB; rw [decide_eq_true (by omega), Bool.true_and])
    clear hx hg he hB0
    go_enter Tryz.func51, Tryz.ntmps51
    go_wp2_with fail
    obtain ⟨ι, Wc, ⟨i0, hi0'⟩, hWc, Wsur⟩ := held_class (w.alloc (.cells #[.int .i64 fs, .slice A gs.length c, ov] 59)).drew (fun q => q = w.heap.size ∨ q = RB)
    have hne : Nonempty ι := ⟨i0⟩
    have WS := hid Wsur; clear Wsur
    have HWc := hid hWc; clear hWc
    have Hi0 := hid hi0'; clear hi0'
    have q0 : ∀ i, (Wc i).cell? ⟨w.heap.size, 1, none⟩ = some (.slice A gs.length c) := fun i => (World.cell?_of_block (a := ⟨w.heap.size, 1, none⟩) (HWc.out i _ (.inl rfl))).trans (cell_of_row _ _ 1 _ _ _ (heap_alloc_new w (.cells #[.int .i64 fs, .slice A gs.length c, ov] 59)))
    have q1 : ∀ i, (Wc i).cell? ⟨RB, 6, none⟩ = some (.slice B x.length d) := fun i => (World.cell?_of_block (a := ⟨RB, 6, none⟩) (HWc.out i _ (.inr rfl))).trans ((World.cell?_of_block (a := ⟨RB, 6, none⟩) (Below.heap_alloc _ _ _ hRB)).trans hc)
    refine region_anyL (S := fun w' => ∃ i, w' = Wc i) (last := 19) (by kernel_rfl) ?_
    refine anyL_seg 0 16 (by kernel_rfl) (fun _ _ _ _ _ h => h) ⟨i0, Hi0.out.symm⟩ (f := 3) rfl (by kernel_rfl) (by kernel_rfl) ?_
    simp only [List.drop_zero, List.take_succ_cons, List.take_zero]
    repeat go_big_quiet_step (fail)
    refine wpQuiet_nil ?_
    refine anyL_actG (i := 16) (by kernel_rfl) rfl (by rfl) ?_
    intro K hK
    go_wp2_with fail
    refine (HF.out _ HB0.out.drew).mono ?_
    rintro e w5 ⟨rfl, hB5⟩
    have HB5 : Below w.heap.size w w5 := HB0.out.drew.trans (hB5.mono (by simp))
    have hS5 : ∃ i, w5 = Wc i := WS.out _ (fun q hq => hB5.block q (by rcases hq with rfl | rfl <;> (simp <;> omega)))
    go_wp2_with fail
    refine hK.out _ _ (fun _ => hS5) ?_
    clear hK K
    refine anyL_seg 17 2 (by kernel_rfl) (fun _ _ _ _ _ h => h) hS5 (f := 0) rfl (by kernel_rfl) (by kernel_rfl) ?_
    simp only [List.drop_succ_cons, List.drop_zero, List.take_succ_cons, List.take_zero]
    repeat go_big_quiet_step (fail)
    refine wpQuiet_nil ?_
    refine anyL_done (by kernel_rfl) ?_ 0
    go_wp2_with fail
    go_ret
    exact ⟨by rw [hE.out]; rfl, HB5⟩
  · have he' : ((gs.length : Int) == (x.length : Int) - a) = false := by simpa using he
    have hE : Hid (false = endsB x gs a) := hid (by unfold endsB; rw [decide_eq_false (by omega), Bool.false_and])
    clear hx hg he HF hB0
    go_enter Tryz.func51, Tryz.ntmps51
    go_wp2_with fail
    obtain ⟨ι, Wc, ⟨i0, hi0'⟩, hWc, Wsur⟩ := held_class (w.alloc (.cells #[.int .i64 fs, .slice A gs.length c, ov] 59)).drew (fun q => q = w.heap.size ∨ q = RB)
    have hne : Nonempty ι := ⟨i0⟩
    have WS := hid Wsur; clear Wsur
    have HWc := hid hWc; clear hWc
    have Hi0 := hid hi0'; clear hi0'
    have q0 : ∀ i, (Wc i).cell? ⟨w.heap.size, 1, none⟩ = some (.slice A gs.length c) := fun i => (World.cell?_of_block (a := ⟨w.heap.size, 1, none⟩) (HWc.out i _ (.inl rfl))).trans (cell_of_row _ _ 1 _ _ _ (heap_alloc_new w (.cells #[.int .i64 fs, .slice A gs.length c, ov] 59)))
    have q1 : ∀ i, (Wc i).cell? ⟨RB, 6, none⟩ = some (.slice B x.length d) := fun i => (World.cell?_of_block (a := ⟨RB, 6, none⟩) (HWc.out i _ (.inr rfl))).trans ((World.cell?_of_block (a := ⟨RB, 6, none⟩) (Below.heap_alloc _ _ _ hRB)).trans hc)
    refine region_anyL (S := fun w' => ∃ i, w' = Wc i) (last := 19) (by kernel_rfl) ?_
    refine anyL_seg 0 16 (by kernel_rfl) (fun _ _ _ _ _ h => h) ⟨i0, Hi0.out.symm⟩ (f := 3) rfl (by kernel_rfl) (by kernel_rfl) ?_
    simp only [List.drop_zero, List.take_succ_cons, List.take_zero]
    repeat go_big_quiet_step (fail)
    refine wpQuiet_nil ?_
    refine anyL_skip (i := 16) (by kernel_rfl) rfl (by rfl) ⟨i0, Hi0.out.symm⟩ ?_
    go_simp
    refine anyL_seg 17 2 (by kernel_rfl) (fun _ _ _ _ _ h => h) ⟨i0, Hi0.out.symm⟩ (f := 0) rfl (by kernel_rfl) (by kernel_rfl) ?_
    simp only [List.drop_succ_cons, List.drop_zero, List.take_succ_cons, List.take_zero]
    repeat go_big_quiet_step (fail)
    refine wpQuiet_nil ?_
    refine anyL_done (by kernel_rfl) ?_ 0
    go_wp2_with fail
    go_ret
    exact ⟨by rw [← hE.out]; rfl, HB0.out.drew⟩
end Go.Proofs.YtmkmikacfilbpaaGreat
