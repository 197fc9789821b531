/-
  Which bytes begin a scalar's, as the reference finds it.
-/
import Derived.Test.YtmkmikacfilbpaaGreatQCdH
namespace Go.Proofs.YtmkmikacfilbpaaGreat
open Go.RowKit Go.Um Go.Proofs
set_option maxHeartbeats 1000000 in
set_option maxRecDepth 100000 in
theorem rbeg23 (a b : Int) (v : Value) (w : World) (h : bytesR.rel w (upto w.heap.size) [v] [a, b]) :
    Calls Tryz.prog 99 #[v, .int .i64 3] w fun e w' => e = .returned (.bool (begF [a, b] 3)) ∧ Below w.heap.size w w' := by
  obtain ⟨A, cp, rfl, hcp, hm⟩ := list_form h
  unfold maxLen at hm
  obtain ⟨G, O, rfl, hG, c0, ha0, ha1⟩ := byte_at h (i := 0) (x := a) rfl
  obtain ⟨G', O', he, _, c1, hb0, hb1⟩ := byte_at h (i := 1) (x := b) rfl
  injection he with he
  injection he with e1 e2
  subst e1 e2
  obtain ⟨bg, hbg⟩ : ∃ bg, bg = begF [a, b] 3 := ⟨_, rfl⟩
  have HBG := hid hbg
  rw [← hbg]
  clear h hbg
  simp only [Nat.add_zero] at c0
  simp only [List.length_cons, List.length_nil, Nat.zero_add, Nat.reduceAdd] at hcp ⊢
  have hG' : G < w.heap.size := hG
  by_cases l1 : a - 224 < 0
  · have HR : Hid (bg = false) := hid (by rw [HBG.out]; unfold begF; rw [if_pos (.inl (by simpa [leadF] using l1))])
    clear HBG
    go_enter Tryz.func99, Tryz.ntmps99
    go_wp2_with fail
    go_ret
    exact ⟨by rw [HR.out]; rfl, ((Below.refl _ _).alloc (Nat.le_refl _) _).alloc (by simp) _⟩
  by_cases l2 : 16 ≤ a - 224
  · have HR : Hid (bg = false) := hid (by rw [HBG.out]; unfold begF; rw [if_pos (.inr (by simpa [leadF, capF] using l2))])
    clear HBG
    go_enter Tryz.func99, Tryz.ntmps99
    go_wp2_with fail
    go_ret
    exact ⟨by rw [HR.out]; rfl, (((Below.refl _ _).alloc (Nat.le_refl _) _).alloc (by simp) _).alloc (by simp; omega) _⟩
  have HL : Hid (bg = match rangeF 2 [b] (a - 224, a - 224) with | none => false | some p => endsF 3 p) := hid (by rw [HBG.out]; unfold begF; rw [if_neg (by simp [leadF, capF]; omega)]; simp [leadF]; rfl)
  clear HBG
  have d1 : ∀ o1 o2 o3, (((w.alloc o1).alloc o2).alloc o3).cell? ⟨G, O + 1, none⟩ = some (.int .u8 b) := fun o1 o2 o3 => (((((Below.refl _ w).alloc (Nat.le_refl _) o1).alloc (by simp) o2).alloc (by simp; omega) o3).cell (p := ⟨G, O + 1, none⟩) hG).trans c1
  by_cases hbm : b - 128 < 0
  · have HR : Hid (bg = false) := hid (by rw [HL.out]; simp [rangeF, hbm])
    clear HL
    go_enter Tryz.func99, Tryz.ntmps99
    go_wp2_with fail
    refine wp_loop_rounds 3 ?_
    rw [rounds_succ]
    go_wp2_with fail
    go_ret
    exact ⟨by rw [HR.out]; rfl, (((Below.refl _ _).alloc (Nat.le_refl _) _).alloc (by simp) _).alloc (by simp; omega) _⟩
  by_cases hbp : 63 < b - 128
  · have HR : Hid (bg = false) := hid (by rw [HL.out]; simp [rangeF, hbp])
    clear HL
    go_enter Tryz.func99, Tryz.ntmps99
    go_wp2_with fail
    refine wp_loop_rounds 3 ?_
    rw [rounds_succ]
    go_wp2_with fail
    go_ret
    exact ⟨by rw [HR.out]; rfl, (((Below.refl _ _).alloc (Nat.le_refl _) _).alloc (by simp) _).alloc (by simp; omega) _⟩
  have HE : Hid (bg = endsF 3 (((a - 224) * 64 + (b - 128)) * 64, ((a - 224) * 64 + (b - 128)) * 64 + 63)) := hid (by rw [HL.out]; simp [rangeF, hbm, hbp])
  clear HL
  go_enter Tryz.func99, Tryz.ntmps99
  go_wp2_with fail
  refine wp_loop_rounds 3 ?_
  rw [rounds_succ]
  go_wp2_with fail
  rw [rounds_succ]
  go_wp2_with fail
  rw [rounds_succ]
  go_wp2_with fail
  all_goals
    go_ret
    refine ⟨?_, (((Below.refl _ _).alloc (Nat.le_refl _) _).alloc (by simp) _).alloc (by simp; omega) _⟩
    rw [HE.out]
    refine congrArg (fun q => Ending.returned (.bool q)) (Eq.symm ?_)
    unfold endsF
    simp only [leastF, List.getD_cons_succ, List.getD_cons_zero]
    first
      | (rw [decide_eq_true_eq]; omega)
      | (rw [decide_eq_false_iff_not]; omega)
      | (rw [decide_eq_decide]; omega)
set_option maxHeartbeats 1000000 in
set_option maxRecDepth 100000 in
theorem rbeg24 (a b : Int) (v : Value) (w : World) (h : bytesR.rel w (upto w.heap.size) [v] [a, b]) :
    Calls Tryz.prog 99 #[v, .int .i64 4] w fun e w' => e = .returned (.bool (begF [a, b] 4)) ∧ Below w.heap.size w w' := by
  obtain ⟨A, cp, rfl, hcp, hm⟩ := list_form h
  unfold maxLen at hm
  obtain ⟨G, O, rfl, hG, c0, ha0, ha1⟩ := byte_at h (i := 0) (x := a) rfl
  obtain ⟨G', O', he, _, c1, hb0, hb1⟩ := byte_at h (i := 1) (x := b) rfl
  injection he with he
  injection he with e1 e2
  subst e1 e2
  obtain ⟨bg, hbg⟩ : ∃ bg, bg = begF [a, b] 4 := ⟨_, rfl⟩
  have HBG := hid hbg
  rw [← hbg]
  clear h hbg
  simp only [Nat.add_zero] at c0
  simp only [List.length_cons, List.length_nil, Nat.zero_add, Nat.reduceAdd] at hcp ⊢
  have hG' : G < w.heap.size := hG
  by_cases l1 : a - 240 < 0
  · have HR : Hid (bg = false) := hid (by rw [HBG.out]; unfold begF; rw [if_pos (.inl (by simpa [leadF] using l1))])
    clear HBG
    go_enter Tryz.func99, Tryz.ntmps99
    go_wp2_with fail
    go_ret
    exact ⟨by rw [HR.out]; rfl, ((Below.refl _ _).alloc (Nat.le_refl _) _).alloc (by simp) _⟩
  by_cases l2 : 8 ≤ a - 240
  · have HR : Hid (bg = false) := hid (by rw [HBG.out]; unfold begF; rw [if_pos (.inr (by simpa [leadF, capF] using l2))])
    clear HBG
    go_enter Tryz.func99, Tryz.ntmps99
    go_wp2_with fail
    go_ret
    exact ⟨by rw [HR.out]; rfl, (((Below.refl _ _).alloc (Nat.le_refl _) _).alloc (by simp) _).alloc (by simp; omega) _⟩
  have HL : Hid (bg = match rangeF 3 [b] (a - 240, a - 240) with | none => false | some p => endsF 4 p) := hid (by rw [HBG.out]; unfold begF; rw [if_neg (by simp [leadF, capF]; omega)]; simp [leadF]; rfl)
  clear HBG
  have d1 : ∀ o1 o2 o3, (((w.alloc o1).alloc o2).alloc o3).cell? ⟨G, O + 1, none⟩ = some (.int .u8 b) := fun o1 o2 o3 => (((((Below.refl _ w).alloc (Nat.le_refl _) o1).alloc (by simp) o2).alloc (by simp; omega) o3).cell (p := ⟨G, O + 1, none⟩) hG).trans c1
  by_cases hbm : b - 128 < 0
  · have HR : Hid (bg = false) := hid (by rw [HL.out]; simp [rangeF, hbm])
    clear HL
    go_enter Tryz.func99, Tryz.ntmps99
    go_wp2_with fail
    refine wp_loop_rounds 4 ?_
    rw [rounds_succ]
    go_wp2_with fail
    go_ret
    exact ⟨by rw [HR.out]; rfl, (((Below.refl _ _).alloc (Nat.le_refl _) _).alloc (by simp) _).alloc (by simp; omega) _⟩
  by_cases hbp : 63 < b - 128
  · have HR : Hid (bg = false) := hid (by rw [HL.out]; simp [rangeF, hbp])
    clear HL
    go_enter Tryz.func99, Tryz.ntmps99
    go_wp2_with fail
    refine wp_loop_rounds 4 ?_
    rw [rounds_succ]
    go_wp2_with fail
    go_ret
    exact ⟨by rw [HR.out]; rfl, (((Below.refl _ _).alloc (Nat.le_refl _) _).alloc (by simp) _).alloc (by simp; omega) _⟩
  have HE : Hid (bg = endsF 4 ((((a - 240) * 64 + (b - 128)) * 64) * 64, (((a - 240) * 64 + (b - 128)) * 64 + 63) * 64 + 63)) := hid (by rw [HL.out]; simp [rangeF, hbm, hbp])
  clear HL
  go_enter Tryz.func99, Tryz.ntmps99
  go_wp2_with fail
  refine wp_loop_rounds 4 ?_
  rw [rounds_succ]
  go_wp2_with fail
  rw [rounds_succ]
  go_wp2_with fail
  rw [rounds_succ]
  go_wp2_with fail
  rw [rounds_succ]
  go_wp2_with fail
  all_goals
    go_ret
    refine ⟨?_, (((Below.refl _ _).alloc (Nat.le_refl _) _).alloc (by simp) _).alloc (by simp; omega) _⟩
    rw [HE.out]
    refine congrArg (fun q => Ending.returned (.bool q)) (Eq.symm ?_)
    unfold endsF
    simp only [leastF, List.getD_cons_succ, List.getD_cons_zero]
    first
      | (rw [decide_eq_true_eq]; omega)
      | (rw [decide_eq_false_iff_not]; omega)
      | (rw [decide_eq_decide]; omega)
set_option maxHeartbeats 1000000 in
set_option maxRecDepth 100000 in
theorem rbeg34 (a b c : Int) (v : Value) (w : World) (h : bytesR.rel w (upto w.heap.size) [v] [a, b, c]) :
    Calls Tryz.prog 99 #[v, .int .i64 4] w fun e w' => e = .returned (.bool (begF [a, b, c] 4)) ∧ Below w.heap.size w w' := by
  obtain ⟨A, cp, rfl, hcp, hm⟩ := list_form h
  unfold maxLen at hm
  obtain ⟨G, O, rfl, hG, c0, ha0, ha1⟩ := byte_at h (i := 0) (x := a) rfl
  obtain ⟨G', O', he, _, c1, hb0, hb1⟩ := byte_at h (i := 1) (x := b) rfl
  injection he with he
  injection he with e1 e2
  subst e1 e2
  obtain ⟨G', O', he, _, c2, hc0, hc1⟩ := byte_at h (i := 2) (x := c) rfl
  injection he with he
  injection he with e1 e2
  subst e1 e2
  obtain ⟨bg, hbg⟩ : ∃ bg, bg = begF [a, b, c] 4 := ⟨_, rfl⟩
  have HBG := hid hbg
  rw [← hbg]
  clear h hbg
  simp only [Nat.add_zero] at c0
  simp only [List.length_cons, List.length_nil, Nat.zero_add, Nat.reduceAdd] at hcp ⊢
  have hG' : G < w.heap.size := hG
  by_cases l1 : a - 240 < 0
  · have HR : Hid (bg = false) := hid (by rw [HBG.out]; unfold begF; rw [if_pos (.inl (by simpa [leadF] using l1))])
    clear HBG
    go_enter Tryz.func99, Tryz.ntmps99
    go_wp2_with fail
    go_ret
    exact ⟨by rw [HR.out]; rfl, ((Below.refl _ _).alloc (Nat.le_refl _) _).alloc (by simp) _⟩
  by_cases l2 : 8 ≤ a - 240
  · have HR : Hid (bg = false) := hid (by rw [HBG.out]; unfold begF; rw [if_pos (.inr (by simpa [leadF, capF] using l2))])
    clear HBG
    go_enter Tryz.func99, Tryz.ntmps99
    go_wp2_with fail
    go_ret
    exact ⟨by rw [HR.out]; rfl, (((Below.refl _ _).alloc (Nat.le_refl _) _).alloc (by simp) _).alloc (by simp; omega) _⟩
  have HL : Hid (bg = match rangeF 3 [b, c] (a - 240, a - 240) with | none => false | some p => endsF 4 p) := hid (by rw [HBG.out]; unfold begF; rw [if_neg (by simp [leadF, capF]; omega)]; simp [leadF]; rfl)
  clear HBG
  have d1 : ∀ o1 o2 o3, (((w.alloc o1).alloc o2).alloc o3).cell? ⟨G, O + 1, none⟩ = some (.int .u8 b) := fun o1 o2 o3 => (((((Below.refl _ w).alloc (Nat.le_refl _) o1).alloc (by simp) o2).alloc (by simp; omega) o3).cell (p := ⟨G, O + 1, none⟩) hG).trans c1
  have d2 : ∀ o1 o2 o3, (((w.alloc o1).alloc o2).alloc o3).cell? ⟨G, O + 2, none⟩ = some (.int .u8 c) := fun o1 o2 o3 => (((((Below.refl _ w).alloc (Nat.le_refl _) o1).alloc (by simp) o2).alloc (by simp; omega) o3).cell (p := ⟨G, O + 2, none⟩) hG).trans c2
  by_cases hbm : b - 128 < 0
  · have HR : Hid (bg = false) := hid (by rw [HL.out]; simp [rangeF, hbm])
    clear HL
    go_enter Tryz.func99, Tryz.ntmps99
    go_wp2_with fail
    refine wp_loop_rounds 4 ?_
    rw [rounds_succ]
    go_wp2_with fail
    go_ret
    exact ⟨by rw [HR.out]; rfl, (((Below.refl _ _).alloc (Nat.le_refl _) _).alloc (by simp) _).alloc (by simp; omega) _⟩
  by_cases hbp : 63 < b - 128
  · have HR : Hid (bg = false) := hid (by rw [HL.out]; simp [rangeF, hbp])
    clear HL
    go_enter Tryz.func99, Tryz.ntmps99
    go_wp2_with fail
    refine wp_loop_rounds 4 ?_
    rw [rounds_succ]
    go_wp2_with fail
    go_ret
    exact ⟨by rw [HR.out]; rfl, (((Below.refl _ _).alloc (Nat.le_refl _) _).alloc (by simp) _).alloc (by simp; omega) _⟩
  by_cases hcm : c - 128 < 0
  · have HR : Hid (bg = false) := hid (by rw [HL.out]; simp [rangeF, hbm, hbp, hcm])
    clear HL
    go_enter Tryz.func99, Tryz.ntmps99
    go_wp2_with fail
    refine wp_loop_rounds 4 ?_
    rw [rounds_succ]
    go_wp2_with fail
    rw [rounds_succ]
    go_wp2_with fail
    go_ret
    exact ⟨by rw [HR.out]; rfl, (((Below.refl _ _).alloc (Nat.le_refl _) _).alloc (by simp) _).alloc (by simp; omega) _⟩
  by_cases hcp : 63 < c - 128
  · have HR : Hid (bg = false) := hid (by rw [HL.out]; simp [rangeF, hbm, hbp, hcp])
    clear HL
    go_enter Tryz.func99, Tryz.ntmps99
    go_wp2_with fail
    refine wp_loop_rounds 4 ?_
    rw [rounds_succ]
    go_wp2_with fail
    rw [rounds_succ]
    go_wp2_with fail
    go_ret
    exact ⟨by rw [HR.out]; rfl, (((Below.refl _ _).alloc (Nat.le_refl _) _).alloc (by simp) _).alloc (by simp; omega) _⟩
  have HE : Hid (bg = endsF 4 ((((a - 240) * 64 + (b - 128)) * 64 + (c - 128)) * 64, (((a - 240) * 64 + (b - 128)) * 64 + (c - 128)) * 64 + 63)) := hid (by rw [HL.out]; simp [rangeF, hbm, hbp, hcm, hcp])
  clear HL
  go_enter Tryz.func99, Tryz.ntmps99
  go_wp2_with fail
  refine wp_loop_rounds 4 ?_
  rw [rounds_succ]
  go_wp2_with fail
  rw [rounds_succ]
  go_wp2_with fail
  rw [rounds_succ]
  go_wp2_with fail
  rw [rounds_succ]
  go_wp2_with fail
  all_goals
    go_ret
    refine ⟨?_, (((Below.refl _ _).alloc (Nat.le_refl _) _).alloc (by simp) _).alloc (by simp; omega) _⟩
    rw [HE.out]
    refine congrArg (fun q => Ending.returned (.bool q)) (Eq.symm ?_)
    unfold endsF
    simp only [leastF, List.getD_cons_succ, List.getD_cons_zero]
    first
      | (rw [decide_eq_true_eq]; omega)
      | (rw [decide_eq_false_iff_not]; omega)
      | (rw [decide_eq_decide]; omega)
end Go.Proofs.YtmkmikacfilbpaaGreat
