/-
  The reference's Where: a description whose head is wrong.
-/
import Derived.Test.YtflllgbjlfpgcaaKRwrite
import Derived.Test.YtflllgbjlfpgcaaKRcyc
import Derived.Test.YtflllgbjlfpgcaaKRclash
namespace Go.Proofs.Ytflllgbjlfpgcaa
open Go.RowKit Go.Um Go.Proofs
theorem guards_bytes {gs : List (List Span)} (h : guardsF 1 gs = true) : ∀ g ∈ gs, ∀ z, mem g z → z ≤ 255 := fun g hg z hz => by
  obtain ⟨_, h2⟩ := guardsF_iff.1 h
  obtain ⟨_, _, g3, g4⟩ := guardOk_iff.1 (h2 g hg)
  have h5 := (minusF_nil.1 g4 z ((inSet_plain g3).2 hz)).2
  have : domF 1 = [⟨0, 255⟩] := rfl
  rw [this] at h5
  simp [mem] at h5
  exact h5.2
set_option maxHeartbeats 16000000 in
set_option maxRecDepth 100000 in
theorem RWhere_bad (d : Desc) (kh : headF d = false) (v u : Value) (w : World) (hv : (listR ruleR).rel w (upto w.heap.size) [v] d.rules) (hu : (listR finalR).rel w (upto w.heap.size) [u] d.finals) :
    Calls Try.prog 17 #[.agg #[.int .i64 d.inn, .int .i64 d.out, .int .i64 d.states, .int .i64 d.start, v, u]] w fun e w' => e = .returned (.tuple #[.int .i64 (whereF d).1, .int .i64 (whereF d).2]) ∧ Below w.heap.size w w' := by
  obtain ⟨inn, out, st, sa, rs, fs⟩ := d
  dsimp only at *
  obtain ⟨D, hD⟩ : ∃ D : Desc, D = ⟨inn, out, st, sa, rs, fs⟩ := ⟨_, rfl⟩
  obtain ⟨WF, hWF⟩ : ∃ WF, WF = whereF D := ⟨_, rfl⟩
  rw [← hD] at kh ⊢
  rw [← hWF]
  have HHEAD : Hid (headF D = (sortF inn && sortF out && decide (1 ≤ st) && decide (st ≤ 1024) && stateF st sa && decide (rs.length ≤ 4096) && decide (fs.length ≤ 4096))) := hid (by rw [hD]; rfl)
  obtain ⟨A1, c1, rfl, hc1, hm1⟩ := list_form hv
  obtain ⟨A2, c2, rfl, hc2, hm2⟩ := list_form hu
  unfold maxLen at hm1 hm2
  have hX0 := heap_alloc_new w (.cells #[.int .i64 inn, .int .i64 out, .int .i64 st, .int .i64 sa, .slice A1 rs.length c1, .slice A2 fs.length c2] 26)
  have hB0 : Below w.heap.size w (w.alloc (.cells #[.int .i64 inn, .int .i64 out, .int .i64 st, .int .i64 sa, .slice A1 rs.length c1, .slice A2 fs.length c2] 26)) := (Below.refl _ w).alloc (Nat.le_refl _) _
  have HF : Hid (WF = (1, 0)) := hid (by rw [hWF]; unfold whereF; rw [kh]; rfl)
  rw [HHEAD.out] at kh
  clear hX0 hB0 hWF HHEAD hD
  by_cases i1 : inn = 1 ∨ inn = 2
  · by_cases i2 : out = 1 ∨ out = 2
    · rw [show sortF inn = true from decide_eq_true i1, show sortF out = true from decide_eq_true i2] at kh
      simp only [Bool.true_and, Bool.and_eq_false_iff, decide_eq_false_iff_not, stateF, Bool.and_eq_false_iff] at kh
      rcases i1 with rfl | rfl <;> rcases i2 with rfl | rfl
      all_goals
        by_cases b1 : st < 1
        · clear kh
          go_enter Try.func17, Try.ntmps17
          go_wp2_with fail
          go_ret2
          exact ⟨by rw [HF.out]; rfl, (Below.refl _ w).alloc (Nat.le_refl _) _⟩
        by_cases b2 : 1024 < st
        · clear kh
          go_enter Try.func17, Try.ntmps17
          go_wp2_with fail
          go_ret2
          exact ⟨by rw [HF.out]; rfl, (Below.refl _ w).alloc (Nat.le_refl _) _⟩
        by_cases b3 : sa < 0
        · clear kh
          go_enter Try.func17, Try.ntmps17
          go_wp2_with fail
          go_ret2
          exact ⟨by rw [HF.out]; rfl, (Below.refl _ w).alloc (Nat.le_refl _) _⟩
        by_cases b4 : st ≤ sa
        · clear kh
          go_enter Try.func17, Try.ntmps17
          go_wp2_with fail
          go_ret2
          exact ⟨by rw [HF.out]; rfl, (Below.refl _ w).alloc (Nat.le_refl _) _⟩
        by_cases b5 : 4096 < rs.length
        · clear kh
          have b5' : (4096 : Int) < rs.length := by omega
          clear b5
          go_enter Try.func17, Try.ntmps17
          go_wp2_with fail
          go_ret2
          exact ⟨by rw [HF.out]; rfl, (Below.refl _ w).alloc (Nat.le_refl _) _⟩
        by_cases b6 : 4096 < fs.length
        · clear kh
          have b5' : ¬ (4096 : Int) < rs.length := by omega
          have b6' : (4096 : Int) < fs.length := by omega
          clear b5 b6
          go_enter Try.func17, Try.ntmps17
          go_wp2_with fail
          go_ret2
          exact ⟨by rw [HF.out]; rfl, (Below.refl _ w).alloc (Nat.le_refl _) _⟩
        exfalso
        omega
    · have i2a : ¬ out = 1 := fun h => i2 (.inl h)
      have i2b : ¬ out = 2 := fun h => i2 (.inr h)
      clear i2 kh
      rcases i1 with rfl | rfl
      all_goals
        go_enter Try.func17, Try.ntmps17
        go_wp2_with fail
        go_ret2
        exact ⟨by rw [HF.out]; rfl, (Below.refl _ w).alloc (Nat.le_refl _) _⟩
  · have i1a : ¬ inn = 1 := fun h => i1 (.inl h)
    have i1b : ¬ inn = 2 := fun h => i1 (.inr h)
    clear i1 kh
    go_enter Try.func17, Try.ntmps17
    go_wp2_with fail
    go_ret2
    exact ⟨by rw [HF.out]; rfl, (Below.refl _ w).alloc (Nat.le_refl _) _⟩
end Go.Proofs.Ytflllgbjlfpgcaa
