/-
  The reference's parts: Two, Bits, Right, Value.
-/
import Derived.Test.YtflllgbjlfpgcaaKTermW
import Derived.Test.YtflllgbjlfpgcaaKEach
namespace Go.Proofs.Ytflllgbjlfpgcaa
open Go.Proofs Go.Um Go.RowKit
theorem pw_step {k : Nat} : pw ((k : Int) + 1) = 2 * pw k := by
  unfold pw
  rw [show ((k : Int) + 1).toNat = k + 1 by omega, Int.toNat_natCast, Int.pow_succ, Int.mul_comm]
theorem pw_neg {k : Int} (h : k ≤ 0) : pw k = 1 := by unfold pw; rw [show k.toNat = 0 by omega]; rfl
set_option maxHeartbeats 1000000 in
theorem RTwo_calls (k : Int) (hk : k ≤ 21) (w : World) : Calls Try.prog 48 #[.int .i64 k] w fun e w' => e = .returned (.int .i64 (pw k)) ∧ w = w' := by
  go_enter Try.func48, Try.ntmps48
  go_wp2_with fail
  go_loop [3, 4] (fun vr vi => ∃ (j : Nat) (r : Int), ((j : Int) ≤ k ∨ j = 0) ∧ vi = .int .i64 j ∧ vr = .int .i64 r ∧ r = pw j) (fun _ vi => (k - intOf vi).toNat)
  case atStart => exact ⟨0, 1, .inr rfl, rfl, rfl, rfl⟩
  case round =>
    obtain ⟨j, r, hj, rfl, rfl, hr⟩ := hrel
    have h1 := pw_pos j
    have h2 := pw_21 (n := j) (by omega)
    rw [← hr] at h1 h2
    by_cases hlt : (j : Int) < k
    · have HS : Hid (2 * r = pw ((j : Int) + 1)) := hid (by rw [pw_step, hr])
      clear hr
      go_wp2_with fail
      refine ⟨⟨j + 1, 2 * r, .inl (by omega), by push_cast; rfl, rfl, by rw [HS.out]; push_cast; rfl⟩, ?_⟩
      simp [intOf]; omega
    · have HF : Hid (r = pw k) := hid (by
        rcases hj with hj | hj
        · rw [hr, show k = j by omega]
        · subst hj; rw [hr, pw_neg (show k ≤ 0 by omega)]; rfl)
      clear hr
      go_wp2_with fail
      go_ret
      exact ⟨by rw [← HF.out]; rfl, rfl⟩
set_option maxHeartbeats 1000000 in
set_option maxRecDepth 100000 in
theorem RBits_calls (p : Part) (w : World) : Calls Try.prog 83 #[pval p] w fun e w' => e = .returned (.bool (bitsF p)) ∧ Below w.heap.size w w' := by
  unfold pval
  obtain ⟨a, d, t, u⟩ := p
  dsimp only
  by_cases h0 : 0 ≤ d
  by_cases h1 : d ≤ 20
  by_cases h2 : 1 ≤ t
  by_cases h3 : t ≤ 21
  by_cases h4 : 0 ≤ u
  by_cases h5 : u ≤ 20
  by_cases h6 : u = 0
  · have hb : bitsF ⟨a, d, t, u⟩ = true := decide_eq_true (by dsimp only; omega)
    have h7 := beq_t h6
    rw [hb]
    clear hb h6
    go_enter Try.func83, Try.ntmps83
    go_wp2_with fail
    go_ret
    exact ⟨rfl, (Below.refl _ _).alloc (Nat.le_refl _) _⟩
  have h7 := beq_f h6
  by_cases h8 : t ≤ 6
  all_goals
    first
      | (have hb : bitsF ⟨a, d, t, u⟩ = true := decide_eq_true (by dsimp only; omega)
         rw [hb]
         clear hb)
      | (have hb : bitsF ⟨a, d, t, u⟩ = false := decide_eq_false (by dsimp only; omega)
         rw [hb]
         clear hb)
    go_enter Try.func83, Try.ntmps83
    go_wp2_with fail
    go_ret
    exact ⟨rfl, (Below.refl _ _).alloc (Nat.le_refl _) _⟩
theorem four {W : World} {b : Nat} {x0 x1 x2 x3 : Value} {t : TypeId} (h : W.heap[b]? = some (.cells #[x0, x1, x2, x3] t)) :
    W.cell? ⟨b, 0, none⟩ = some x0 ∧ W.cell? ⟨b, 1, none⟩ = some x1 ∧ W.cell? ⟨b, 2, none⟩ = some x2 ∧ W.cell? ⟨b, 3, none⟩ = some x3 :=
  ⟨cell_of_row _ _ 0 _ _ _ h, cell_of_row _ _ 1 _ _ _ h, cell_of_row _ _ 2 _ _ _ h, cell_of_row _ _ 3 _ _ _ h⟩
set_option maxHeartbeats 1000000 in
set_option maxRecDepth 100000 in
theorem RRight_calls (p : Part) (n : Int) (w : World) : Calls Try.prog 56 #[pval p, .int .i64 n] w fun e w' => e = .returned (.bool (rightP p n)) ∧ Below w.heap.size w w' := by
  have hc := hid fun W => RBits_calls p W
  have HR : Hid (rightP p n = (decide (0 ≤ p.at_) && decide (p.at_ < n) && bitsF p)) := hid rfl
  unfold pval at hc ⊢
  have hX0 := heap_alloc_new w (.cells #[.int .i64 p.at_, .int .i64 p.drop, .int .i64 p.take, .int .i64 p.up] 91)
  cases hb : bitsF p
  · have hF : Hid (rightP p n = false) := hid (by rw [HR.out, hb]; simp)
    rw [hb] at hc
    clear hb HR hX0
    go_enter Try.func56, Try.ntmps56
    go_wp2_with fail
    refine (hc.out _).mono ?_
    rintro e w1 ⟨rfl, hB1⟩
    go_wp2_with fail
    go_ret
    exact ⟨by rw [hF.out]; rfl, ((Below.refl w.heap.size w).alloc (Nat.le_refl _) _).trans (hB1.mono (by simp))⟩
  rw [hb] at hc
  by_cases h0 : 0 ≤ p.at_
  · by_cases h1 : p.at_ < n
    · have hF : Hid (rightP p n = true) := hid (by rw [HR.out, hb, decide_eq_true h0, decide_eq_true h1]; rfl)
      clear hb HR
      go_enter Try.func56, Try.ntmps56
      go_wp2_with fail
      refine (hc.out _).mono ?_
      rintro e w1 ⟨rfl, hB1⟩
      obtain ⟨c0, c1, c2, c3⟩ := four ((hB1.block w.heap.size (by simp)).trans hX0)
      clear hX0
      go_wp2_with fail
      go_ret
      exact ⟨by rw [hF.out]; rfl, ((Below.refl w.heap.size w).alloc (Nat.le_refl _) _).trans (hB1.mono (by simp))⟩
    · have hF : Hid (rightP p n = false) := hid (by rw [HR.out, hb, decide_eq_true h0, decide_eq_false h1]; rfl)
      clear hb HR
      go_enter Try.func56, Try.ntmps56
      go_wp2_with fail
      refine (hc.out _).mono ?_
      rintro e w1 ⟨rfl, hB1⟩
      obtain ⟨c0, c1, c2, c3⟩ := four ((hB1.block w.heap.size (by simp)).trans hX0)
      clear hX0
      go_wp2_with fail
      go_ret
      exact ⟨by rw [hF.out, ← decide_eq_false (show ¬ p.at_ < n by omega)]; rfl, ((Below.refl w.heap.size w).alloc (Nat.le_refl _) _).trans (hB1.mono (by simp))⟩
  · have hF : Hid (rightP p n = false) := hid (by rw [HR.out, hb, decide_eq_false h0]; rfl)
    clear hb HR
    go_enter Try.func56, Try.ntmps56
    go_wp2_with fail
    refine (hc.out _).mono ?_
    rintro e w1 ⟨rfl, hB1⟩
    obtain ⟨c0, c1, c2, c3⟩ := four ((hB1.block w.heap.size (by simp)).trans hX0)
    clear hX0
    go_wp2_with fail
    go_ret
    exact ⟨by rw [hF.out]; rfl, ((Below.refl w.heap.size w).alloc (Nat.le_refl _) _).trans (hB1.mono (by simp))⟩
set_option maxHeartbeats 1000000 in
set_option maxRecDepth 100000 in
theorem RValue_calls (p : Part) (x : Int) (w : World) (hb : bitsF p = true) (h0 : 0 ≤ x) (h1 : x ≤ 2097151) : Calls Try.prog 60 #[pval p, .int .i64 x] w fun e w' =>
    e = .returned (.tuple #[.int .i64 (valF p x), .bool true]) ∧ Below w.heap.size w w' := by
  have hc := hid fun W => RBits_calls p W
  have hbb := bitsF_iff.1 hb
  rw [hb] at hc
  have hle := valF_le hb x
  have hge := valF_nonneg p x
  have hv : valF p x = x / pw p.drop % pw p.take * pw p.up := rfl
  rw [hv] at hle hge ⊢
  clear hv hb
  unfold pval at hc ⊢
  obtain ⟨a, d, t, u⟩ := p
  dsimp only at hc hbb hle hge ⊢
  obtain ⟨q1, q2, q3, q4, q5, q6, q7⟩ := hbb
  have HD := hid fun W => RTwo_calls d (by omega) W
  have HTk := hid fun W => RTwo_calls t (by omega) W
  have HU := hid fun W => RTwo_calls u (by omega) W
  have d1 := pw_pos d
  have d2 := pw_pos t
  have d3 := pw_pos u
  have hdn : pw d ≠ 0 := by omega
  have htn : pw t ≠ 0 := by omega
  have hq0 : 0 ≤ x / pw d := Int.ediv_nonneg h0 (by omega)
  have hq1 : x / pw d ≤ x := Int.ediv_le_self _ h0
  have h0' : ¬ x < 0 := by omega
  have h1' : ¬ 2097152 ≤ x := by omega
  have hX0 := heap_alloc_new w (.cells #[.int .i64 a, .int .i64 d, .int .i64 t, .int .i64 u] 91)
  go_enter Try.func60, Try.ntmps60
  go_wp2_with fail
  refine (hc.out _).mono ?_
  rintro e w1 ⟨rfl, hB1⟩
  have hBw : Below w.heap.size w w1 := ((Below.refl w.heap.size w).alloc (Nat.le_refl _) _).trans (hB1.mono (by simp))
  have hX1 := (hB1.block w.heap.size (by simp)).trans hX0
  have hs1 := heap_lt hX1
  obtain ⟨c0, c1, c2, c3⟩ := four hX1
  clear hX0 hX1 hB1
  go_wp2_with fail
  obtain ⟨ι, W, ⟨i0, hi0⟩, hW, Wsur⟩ := ext_class w1.drew
  have hne : Nonempty ι := ⟨i0⟩
  have g1 : ∀ i, (W i).cell? ⟨w.heap.size, 1, none⟩ = some (.int .i64 d) := fun i => ((hW i).cell (p := ⟨w.heap.size, 1, none⟩) hs1).trans c1
  have g2 : ∀ i, (W i).cell? ⟨w.heap.size, 2, none⟩ = some (.int .i64 t) := fun i => ((hW i).cell (p := ⟨w.heap.size, 2, none⟩) hs1).trans c2
  have g3 : ∀ i, (W i).cell? ⟨w.heap.size, 3, none⟩ = some (.int .i64 u) := fun i => ((hW i).cell (p := ⟨w.heap.size, 3, none⟩) hs1).trans c3
  have WS := hid Wsur; clear Wsur
  have HW := hid hW; clear hW
  have Hi0 := hid hi0; clear hi0
  refine region_anyL (S := fun w' => ∃ i, w' = W i) (last := 15) (by kernel_rfl) ?_
  refine anyL_seg 0 3 (by kernel_rfl) (fun _ _ _ _ _ h => h) ⟨i0, Hi0.out.symm⟩ (f := 12) rfl (by kernel_rfl) (by kernel_rfl) ?_
  simp only [List.drop_zero, List.take_succ_cons, List.take_zero]
  repeat go_big_quiet_step (fail)
  refine wpQuiet_nil ?_
  refine anyL_seg 5 2 (by kernel_rfl) (fun _ _ _ _ _ h => h) ⟨i0, Hi0.out.symm⟩ (f := 10) rfl (by kernel_rfl) (by kernel_rfl) ?_
  simp only [List.drop_succ_cons, List.drop_zero, List.take_succ_cons, List.take_zero]
  repeat go_big_quiet_step (fail)
  refine wpQuiet_nil ?_
  refine anyL_seg 9 2 (by kernel_rfl) (fun _ _ _ _ _ h => h) ⟨i0, Hi0.out.symm⟩ (f := 8) rfl (by kernel_rfl) (by kernel_rfl) ?_
  simp only [List.drop_succ_cons, List.drop_zero, List.take_succ_cons, List.take_zero]
  repeat go_big_quiet_step (fail)
  refine wpQuiet_nil ?_
  refine anyL_act (i := 3) (by kernel_rfl) rfl rfl ?_
  intro K hK
  go_wp2_with fail
  refine (HD.out _).mono ?_
  rintro e w9 ⟨rfl, rfl⟩
  go_wp2_with fail
  refine hK.out _ _ (fun _ => ⟨i0, Hi0.out.symm⟩) ?_
  clear hK K
  refine anyL_seg 4 1 (by kernel_rfl) (fun _ _ _ _ _ h => h) ⟨i0, Hi0.out.symm⟩ (f := 6) rfl (by kernel_rfl) (by kernel_rfl) ?_
  simp only [List.drop_succ_cons, List.drop_zero, List.take_succ_cons, List.take_zero]
  repeat go_big_quiet_step (fail)
  refine wpQuiet_nil ?_
  refine anyL_act (i := 7) (by kernel_rfl) rfl rfl ?_
  intro K hK
  go_wp2_with fail
  refine (HTk.out _).mono ?_
  rintro e w9 ⟨rfl, rfl⟩
  go_wp2_with fail
  refine hK.out _ _ (fun _ => ⟨i0, Hi0.out.symm⟩) ?_
  clear hK K
  refine anyL_seg 8 1 (by kernel_rfl) (fun _ _ _ _ _ h => h) ⟨i0, Hi0.out.symm⟩ (f := 4) rfl (by kernel_rfl) (by kernel_rfl) ?_
  simp only [List.drop_succ_cons, List.drop_zero, List.take_succ_cons, List.take_zero]
  repeat go_big_quiet_step (fail)
  refine wpQuiet_nil ?_
  refine anyL_act (i := 11) (by kernel_rfl) rfl rfl ?_
  intro K hK
  go_wp2_with fail
  refine (HU.out _).mono ?_
  rintro e w9 ⟨rfl, rfl⟩
  go_wp2_with fail
  refine hK.out _ _ (fun _ => ⟨i0, Hi0.out.symm⟩) ?_
  clear hK K
  refine anyL_seg 12 1 (by kernel_rfl) (fun _ _ _ _ _ h => h) ⟨i0, Hi0.out.symm⟩ (f := 2) rfl (by kernel_rfl) (by kernel_rfl) ?_
  simp only [List.drop_succ_cons, List.drop_zero, List.take_succ_cons, List.take_zero]
  repeat go_big_quiet_step (fail)
  refine wpQuiet_nil ?_
  refine anyL_seg 13 2 (by kernel_rfl) (fun _ _ _ _ _ h => h) ⟨i0, Hi0.out.symm⟩ (f := 0) rfl (by kernel_rfl) (by kernel_rfl) ?_
  simp only [List.drop_succ_cons, List.drop_zero, List.take_succ_cons, List.take_zero]
  repeat go_big_quiet_step (fail)
  refine wpQuiet_nil ?_
  refine anyL_done (by kernel_rfl) ?_ 0
  go_wp2_with fail
  go_ret2
  exact ⟨rfl, hBw.drew⟩
end Go.Proofs.Ytflllgbjlfpgcaa
