/-
  The program's desc.head, for any description.
-/
import Derived.Test.YtmkmikacfilbpaaGreatKRuleW
namespace Go.Proofs.YtmkmikacfilbpaaGreat
open Go.Proofs Go.Um Go.RowKit
theorem domF_len {s : Int} : sortF s = decide (0 < (domF s).length) := by
  unfold sortF domF
  by_cases h1 : s = 1
  · subst h1; rfl
  · by_cases h2 : s = 2
    · subst h2; rfl
    · simp [h1, h2]
set_option maxHeartbeats 1000000 in
set_option maxRecDepth 100000 in
theorem head_calls (d : Desc) (v u : Value) (w : World) (hv : (listR ruleR).rel w (upto w.heap.size) [v] d.rules) (hu : (listR finalR).rel w (upto w.heap.size) [u] d.finals) :
    Calls Tryz.prog 105 #[.agg #[.int .i64 d.inn, .int .i64 d.out, .int .i64 d.states, .int .i64 d.start, v, u]] w fun e w' => e = .returned (.bool (headF d)) ∧ Below w.heap.size w w' := by
  obtain ⟨A1, c1, rfl, hc1, hm1⟩ := list_form hv
  obtain ⟨A2, c2, rfl, hc2, hm2⟩ := list_form hu
  have hd1 := hid fun W => Domain_calls d.inn W
  have hd2 := hid fun W => Domain_calls d.out W
  have hs := hid fun W => state_calls d.inn d.out d.states d.start (.slice A1 d.rules.length c1) (.slice A2 d.finals.length c2) d.start W
  have HF : Hid (headF d = (decide (0 < (domF d.inn).length) && decide (0 < (domF d.out).length) && decide (1 ≤ d.states) && decide (d.states ≤ 1024) && stateF d.states d.start && decide (d.rules.length ≤ 4096) && decide (d.finals.length ≤ 4096))) := hid (by unfold headF; rw [domF_len, domF_len])
  clear hv hu
  by_cases e1 : 0 < (domF d.inn).length
  rotate_left
  · have e1' : ¬ (0 : Int) < ((domF d.inn).length : Int) := by omega
    have hF : Hid (headF d = false) := hid (by rw [HF.out, decide_eq_false e1]; rfl)
    clear e1 HF hd2 hs
    go_enter Tryz.func105, Tryz.ntmps105
    go_wp2_with fail
    refine (hd1.out _).mono ?_
    rintro e w1 ⟨x1, rfl, ho1, hB1⟩
    obtain ⟨Aq1, cq1, rfl, _, _⟩ := list_form ho1.rel
    clear ho1
    have hC1 : Below (w.heap.size + 1) (w.alloc (.cells #[.int .i64 d.inn, .int .i64 d.out, .int .i64 d.states, .int .i64 d.start, .slice A1 d.rules.length c1, .slice A2 d.finals.length c2] 26)) w1 := low hB1 (by simp)
    obtain ⟨p0, p1, p2, p3, p4, p5⟩ := box6 hC1
    go_wp2_with fail
    go_ret
    exact ⟨by rw [hF.out]; rfl, ((Below.refl w.heap.size w).alloc (Nat.le_refl _) _).trans (low hC1 (by omega))⟩
  have e1' : (0 : Int) < ((domF d.inn).length : Int) := by omega
  rw [decide_eq_true e1] at HF
  by_cases e2 : 0 < (domF d.out).length
  rotate_left
  · have e2' : ¬ (0 : Int) < ((domF d.out).length : Int) := by omega
    have hF : Hid (headF d = false) := hid (by rw [HF.out, decide_eq_false e2]; rfl)
    clear e1 e2 HF hs
    go_enter Tryz.func105, Tryz.ntmps105
    go_wp2_with fail
    refine (hd1.out _).mono ?_
    rintro e w1 ⟨x1, rfl, ho1, hB1⟩
    obtain ⟨Aq1, cq1, rfl, _, _⟩ := list_form ho1.rel
    clear ho1
    have hC1 : Below (w.heap.size + 1) (w.alloc (.cells #[.int .i64 d.inn, .int .i64 d.out, .int .i64 d.states, .int .i64 d.start, .slice A1 d.rules.length c1, .slice A2 d.finals.length c2] 26)) w1 := low hB1 (by simp)
    obtain ⟨p0, p1, p2, p3, p4, p5⟩ := box6 hC1
    go_wp2_with fail
    refine (hd2.out _).mono ?_
    rintro e w2 ⟨x2, rfl, ho2, hB2⟩
    obtain ⟨Aq2, cq2, rfl, _, _⟩ := list_form ho2.rel
    clear ho2
    clear p0 p1 p2 p3 p4 p5
    have hz2 := hC1.size
    simp at hz2
    have hC2 := hC1.trans (low hB2 hz2)
    obtain ⟨p0, p1, p2, p3, p4, p5⟩ := box6 hC2
    go_wp2_with fail
    go_ret
    exact ⟨by rw [hF.out]; rfl, ((Below.refl w.heap.size w).alloc (Nat.le_refl _) _).trans (low hC2 (by omega))⟩
  have e2' : (0 : Int) < ((domF d.out).length : Int) := by omega
  rw [decide_eq_true e2] at HF
  by_cases e3 : 1 ≤ d.states
  rotate_left
  · have hF : Hid (headF d = false) := hid (by rw [HF.out, decide_eq_false e3]; rfl)
    clear e1 e2 HF hs
    go_enter Tryz.func105, Tryz.ntmps105
    go_wp2_with fail
    refine (hd1.out _).mono ?_
    rintro e w1 ⟨x1, rfl, ho1, hB1⟩
    obtain ⟨Aq1, cq1, rfl, _, _⟩ := list_form ho1.rel
    clear ho1
    have hC1 : Below (w.heap.size + 1) (w.alloc (.cells #[.int .i64 d.inn, .int .i64 d.out, .int .i64 d.states, .int .i64 d.start, .slice A1 d.rules.length c1, .slice A2 d.finals.length c2] 26)) w1 := low hB1 (by simp)
    obtain ⟨p0, p1, p2, p3, p4, p5⟩ := box6 hC1
    go_wp2_with fail
    refine (hd2.out _).mono ?_
    rintro e w2 ⟨x2, rfl, ho2, hB2⟩
    obtain ⟨Aq2, cq2, rfl, _, _⟩ := list_form ho2.rel
    clear ho2
    clear p0 p1 p2 p3 p4 p5
    have hz2 := hC1.size
    simp at hz2
    have hC2 := hC1.trans (low hB2 hz2)
    obtain ⟨p0, p1, p2, p3, p4, p5⟩ := box6 hC2
    go_wp2_with fail
    go_ret
    exact ⟨by rw [hF.out]; rfl, ((Below.refl w.heap.size w).alloc (Nat.le_refl _) _).trans (low hC2 (by omega))⟩
  rw [decide_eq_true e3] at HF
  by_cases e4 : d.states ≤ 1024
  rotate_left
  · have hF : Hid (headF d = false) := hid (by rw [HF.out, decide_eq_false e4]; rfl)
    clear e1 e2 HF hs
    go_enter Tryz.func105, Tryz.ntmps105
    go_wp2_with fail
    refine (hd1.out _).mono ?_
    rintro e w1 ⟨x1, rfl, ho1, hB1⟩
    obtain ⟨Aq1, cq1, rfl, _, _⟩ := list_form ho1.rel
    clear ho1
    have hC1 : Below (w.heap.size + 1) (w.alloc (.cells #[.int .i64 d.inn, .int .i64 d.out, .int .i64 d.states, .int .i64 d.start, .slice A1 d.rules.length c1, .slice A2 d.finals.length c2] 26)) w1 := low hB1 (by simp)
    obtain ⟨p0, p1, p2, p3, p4, p5⟩ := box6 hC1
    go_wp2_with fail
    refine (hd2.out _).mono ?_
    rintro e w2 ⟨x2, rfl, ho2, hB2⟩
    obtain ⟨Aq2, cq2, rfl, _, _⟩ := list_form ho2.rel
    clear ho2
    clear p0 p1 p2 p3 p4 p5
    have hz2 := hC1.size
    simp at hz2
    have hC2 := hC1.trans (low hB2 hz2)
    obtain ⟨p0, p1, p2, p3, p4, p5⟩ := box6 hC2
    go_wp2_with fail
    go_ret
    exact ⟨by rw [hF.out]; rfl, ((Below.refl w.heap.size w).alloc (Nat.le_refl _) _).trans (low hC2 (by omega))⟩
  rw [decide_eq_true e4] at HF
  cases k : stateF d.states d.start
  · rw [k] at hs HF
    have hF : Hid (headF d = false) := hid (by rw [HF.out]; rfl)
    clear e1 e2 HF k
    go_enter Tryz.func105, Tryz.ntmps105
    go_wp2_with fail
    refine (hd1.out _).mono ?_
    rintro e w1 ⟨x1, rfl, ho1, hB1⟩
    obtain ⟨Aq1, cq1, rfl, _, _⟩ := list_form ho1.rel
    clear ho1
    have hC1 : Below (w.heap.size + 1) (w.alloc (.cells #[.int .i64 d.inn, .int .i64 d.out, .int .i64 d.states, .int .i64 d.start, .slice A1 d.rules.length c1, .slice A2 d.finals.length c2] 26)) w1 := low hB1 (by simp)
    obtain ⟨p0, p1, p2, p3, p4, p5⟩ := box6 hC1
    go_wp2_with fail
    refine (hd2.out _).mono ?_
    rintro e w2 ⟨x2, rfl, ho2, hB2⟩
    obtain ⟨Aq2, cq2, rfl, _, _⟩ := list_form ho2.rel
    clear ho2
    clear p0 p1 p2 p3 p4 p5
    have hz2 := hC1.size
    simp at hz2
    have hC2 := hC1.trans (low hB2 hz2)
    obtain ⟨p0, p1, p2, p3, p4, p5⟩ := box6 hC2
    go_wp2_with fail
    refine (hs.out _).mono ?_
    rintro e w3 ⟨rfl, hB3⟩
    clear p0 p1 p2 p3 p4 p5
    have hz3 := hC2.size
    simp at hz3
    have hC3 := hC2.trans (low hB3 hz3)
    obtain ⟨p0, p1, p2, p3, p4, p5⟩ := box6 hC3
    go_wp2_with fail
    go_ret
    exact ⟨by rw [hF.out]; rfl, ((Below.refl w.heap.size w).alloc (Nat.le_refl _) _).trans (low hC3 (by omega))⟩
  rw [k] at hs HF
  clear k
  by_cases e5 : d.rules.length ≤ 4096
  rotate_left
  · have hF : Hid (headF d = false) := hid (by rw [HF.out, decide_eq_false e5]; rfl)
    have e5' : ¬ (d.rules.length : Int) ≤ 4096 := by omega
    clear e1 e2 HF e5
    go_enter Tryz.func105, Tryz.ntmps105
    go_wp2_with fail
    refine (hd1.out _).mono ?_
    rintro e w1 ⟨x1, rfl, ho1, hB1⟩
    obtain ⟨Aq1, cq1, rfl, _, _⟩ := list_form ho1.rel
    clear ho1
    have hC1 : Below (w.heap.size + 1) (w.alloc (.cells #[.int .i64 d.inn, .int .i64 d.out, .int .i64 d.states, .int .i64 d.start, .slice A1 d.rules.length c1, .slice A2 d.finals.length c2] 26)) w1 := low hB1 (by simp)
    obtain ⟨p0, p1, p2, p3, p4, p5⟩ := box6 hC1
    go_wp2_with fail
    refine (hd2.out _).mono ?_
    rintro e w2 ⟨x2, rfl, ho2, hB2⟩
    obtain ⟨Aq2, cq2, rfl, _, _⟩ := list_form ho2.rel
    clear ho2
    clear p0 p1 p2 p3 p4 p5
    have hz2 := hC1.size
    simp at hz2
    have hC2 := hC1.trans (low hB2 hz2)
    obtain ⟨p0, p1, p2, p3, p4, p5⟩ := box6 hC2
    go_wp2_with fail
    refine (hs.out _).mono ?_
    rintro e w3 ⟨rfl, hB3⟩
    clear p0 p1 p2 p3 p4 p5
    have hz3 := hC2.size
    simp at hz3
    have hC3 := hC2.trans (low hB3 hz3)
    obtain ⟨p0, p1, p2, p3, p4, p5⟩ := box6 hC3
    go_wp2_with fail
    go_ret
    exact ⟨by rw [hF.out]; rfl, ((Below.refl w.heap.size w).alloc (Nat.le_refl _) _).trans (low hC3 (by omega))⟩
  rw [decide_eq_true e5] at HF
  have e5' : (d.rules.length : Int) ≤ 4096 := by omega
  by_cases e6 : d.finals.length ≤ 4096
  · have hF : Hid (headF d = true) := hid (by rw [HF.out, decide_eq_true e6]; rfl)
    have e6' : (d.finals.length : Int) ≤ 4096 := by omega
    clear e1 e2 HF e5 e6
    go_enter Tryz.func105, Tryz.ntmps105
    go_wp2_with fail
    refine (hd1.out _).mono ?_
    rintro e w1 ⟨x1, rfl, ho1, hB1⟩
    obtain ⟨Aq1, cq1, rfl, _, _⟩ := list_form ho1.rel
    clear ho1
    have hC1 : Below (w.heap.size + 1) (w.alloc (.cells #[.int .i64 d.inn, .int .i64 d.out, .int .i64 d.states, .int .i64 d.start, .slice A1 d.rules.length c1, .slice A2 d.finals.length c2] 26)) w1 := low hB1 (by simp)
    obtain ⟨p0, p1, p2, p3, p4, p5⟩ := box6 hC1
    go_wp2_with fail
    refine (hd2.out _).mono ?_
    rintro e w2 ⟨x2, rfl, ho2, hB2⟩
    obtain ⟨Aq2, cq2, rfl, _, _⟩ := list_form ho2.rel
    clear ho2
    clear p0 p1 p2 p3 p4 p5
    have hz2 := hC1.size
    simp at hz2
    have hC2 := hC1.trans (low hB2 hz2)
    obtain ⟨p0, p1, p2, p3, p4, p5⟩ := box6 hC2
    go_wp2_with fail
    refine (hs.out _).mono ?_
    rintro e w3 ⟨rfl, hB3⟩
    clear p0 p1 p2 p3 p4 p5
    have hz3 := hC2.size
    simp at hz3
    have hC3 := hC2.trans (low hB3 hz3)
    obtain ⟨p0, p1, p2, p3, p4, p5⟩ := box6 hC3
    go_wp2_with fail
    go_ret
    exact ⟨by rw [hF.out]; rfl, ((Below.refl w.heap.size w).alloc (Nat.le_refl _) _).trans (low hC3 (by omega))⟩
  · have hF : Hid (headF d = false) := hid (by rw [HF.out, decide_eq_false e6]; rfl)
    have e6' : ¬ (d.finals.length : Int) ≤ 4096 := by omega
    have e6'' : decide ((d.finals.length : Int) ≤ 4096) = false := decide_eq_false e6'
    clear e1 e2 HF e5 e6
    go_enter Tryz.func105, Tryz.ntmps105
    go_wp2_with fail
    refine (hd1.out _).mono ?_
    rintro e w1 ⟨x1, rfl, ho1, hB1⟩
    obtain ⟨Aq1, cq1, rfl, _, _⟩ := list_form ho1.rel
    clear ho1
    have hC1 : Below (w.heap.size + 1) (w.alloc (.cells #[.int .i64 d.inn, .int .i64 d.out, .int .i64 d.states, .int .i64 d.start, .slice A1 d.rules.length c1, .slice A2 d.finals.length c2] 26)) w1 := low hB1 (by simp)
    obtain ⟨p0, p1, p2, p3, p4, p5⟩ := box6 hC1
    go_wp2_with fail
    refine (hd2.out _).mono ?_
    rintro e w2 ⟨x2, rfl, ho2, hB2⟩
    obtain ⟨Aq2, cq2, rfl, _, _⟩ := list_form ho2.rel
    clear ho2
    clear p0 p1 p2 p3 p4 p5
    have hz2 := hC1.size
    simp at hz2
    have hC2 := hC1.trans (low hB2 hz2)
    obtain ⟨p0, p1, p2, p3, p4, p5⟩ := box6 hC2
    go_wp2_with fail
    refine (hs.out _).mono ?_
    rintro e w3 ⟨rfl, hB3⟩
    clear p0 p1 p2 p3 p4 p5
    have hz3 := hC2.size
    simp at hz3
    have hC3 := hC2.trans (low hB3 hz3)
    obtain ⟨p0, p1, p2, p3, p4, p5⟩ := box6 hC3
    go_wp2_with fail
    go_ret
    exact ⟨by rw [hF.out]; rfl, ((Below.refl w.heap.size w).alloc (Nat.le_refl _) _).trans (low hC3 (by omega))⟩
end Go.Proofs.YtmkmikacfilbpaaGreat
