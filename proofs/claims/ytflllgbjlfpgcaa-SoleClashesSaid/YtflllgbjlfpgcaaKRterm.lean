/-
  The reference's terms: small, Outer, all, Plain, Numbers, Right.
-/
import Derived.Test.YtflllgbjlfpgcaaKRpart
import Derived.Test.YtflllgbjlfpgcaaKTermR
import Derived.Test.YtflllgbjlfpgcaaKWhere
namespace Go.Proofs.Ytflllgbjlfpgcaa
open Go.Proofs Go.Um Go.RowKit
set_option maxHeartbeats 1000000 in
set_option maxRecDepth 100000 in
theorem Rsmall_calls (x : Int) (w : World) : Calls Try.prog 82 #[.int .i64 x] w fun e w' => e = .returned (.bool (smallN x)) ∧ Below w.heap.size w w' := by
  by_cases h0 : -1114111 ≤ x
  by_cases h1 : x ≤ 1114111
  all_goals
    first
      | (have hb : smallN x = true := smallN_iff.2 (by omega)
         rw [hb]
         clear hb)
      | (have hb : smallN x = false := Bool.eq_false_iff.2 (fun h => by have := smallN_iff.1 h; omega)
         rw [hb]
         clear hb)
    go_enter Try.func82, Try.ntmps82
    go_wp2_with fail
    go_ret
    exact ⟨rfl, Below.refl _ _⟩
set_option maxHeartbeats 1000000 in
set_option maxRecDepth 100000 in
theorem ROuter_calls (t : Term) (v : Value) (w : World) : Calls Try.prog 84 #[tval t v] w fun e w' => e = .returned (pval (outerT t)) ∧ Below w.heap.size w w' := by
  unfold pval tval outerT
  obtain ⟨b, d, k, u, s, ps⟩ := t
  dsimp only
  go_enter Try.func84, Try.ntmps84
  go_wp2_with fail
  exact bodyPost_ret (v := .agg #[.int .i64 0, .int .i64 d, .int .i64 k, .int .i64 u]) (by simp [results, Try.results84, go_sem]) rfl ⟨rfl, (((Below.refl w.heap.size w).alloc (Nat.le_refl _) _).alloc (by simp) _)⟩
def allF (p : Part) : Bool := decide (p.drop = 0 ∧ p.take = 21 ∧ p.up = 0)
set_option maxHeartbeats 1000000 in
set_option maxRecDepth 100000 in
theorem Rall_calls (p : Part) (w : World) : Calls Try.prog 57 #[pval p] w fun e w' => e = .returned (.bool (allF p)) ∧ Below w.heap.size w w' := by
  unfold pval
  obtain ⟨a, d, t, u⟩ := p
  dsimp only
  by_cases h0 : d = 0
  · have h0' := beq_t h0
    by_cases h1 : t = 21
    · have h1' := beq_t h1
      by_cases h2 : u = 0
      · have h2' := beq_t h2
        have hF : Hid (allF ⟨a, d, t, u⟩ = true) := hid (decide_eq_true ⟨h0, h1, h2⟩)
        clear h0 h1 h2
        go_enter Try.func57, Try.ntmps57
        go_wp2_with fail
        go_ret
        exact ⟨by rw [hF.out]; rfl, (Below.refl _ _).alloc (Nat.le_refl _) _⟩
      · have h2' := beq_f h2
        have hF : Hid (allF ⟨a, d, t, u⟩ = false) := hid (decide_eq_false fun h => h2 h.2.2)
        clear h0 h1 h2
        go_enter Try.func57, Try.ntmps57
        go_wp2_with fail
        go_ret
        exact ⟨by rw [hF.out]; rfl, (Below.refl _ _).alloc (Nat.le_refl _) _⟩
    · have h1' := beq_f h1
      have hF : Hid (allF ⟨a, d, t, u⟩ = false) := hid (decide_eq_false fun h => h1 h.2.1)
      clear h0 h1
      go_enter Try.func57, Try.ntmps57
      go_wp2_with fail
      go_ret
      exact ⟨by rw [hF.out]; rfl, (Below.refl _ _).alloc (Nat.le_refl _) _⟩
  · have h0' := beq_f h0
    have hF : Hid (allF ⟨a, d, t, u⟩ = false) := hid (decide_eq_false fun h => h0 h.1)
    clear h0
    go_enter Try.func57, Try.ntmps57
    go_wp2_with fail
    go_ret
    exact ⟨by rw [hF.out]; rfl, (Below.refl _ _).alloc (Nat.le_refl _) _⟩
set_option maxHeartbeats 1000000 in
set_option maxRecDepth 100000 in
theorem RPlain_calls (t : Term) (v : Value) (w : World) (hv : ∃ A n c, v = .slice A n c) : Calls Try.prog 58 #[tval t v] w fun e w' => e = .returned (.bool (plainT t)) ∧ Below w.heap.size w w' := by
  have ho := hid fun W => ROuter_calls t v W
  have ha := hid fun W => Rall_calls (outerT t) W
  have HF : Hid (plainT t = (decide (t.base = 0) && allF (outerT t))) := hid (by unfold plainT allF outerT; simp)
  obtain ⟨A, n, c, rfl⟩ := hv
  unfold tval at ho ⊢
  unfold pval at ho ha
  dsimp only [outerT] at ho
  by_cases h0 : t.base = 0
  · have h0' := beq_t h0
    have hF : Hid (plainT t = allF (outerT t)) := hid (by rw [HF.out, decide_eq_true h0]; rfl)
    clear h0 HF
    go_enter Try.func58, Try.ntmps58
    go_wp2_with fail
    refine (ho.out _).mono ?_
    rintro e w1 ⟨rfl, hB1⟩
    go_wp2_with fail
    refine (ha.out _).mono ?_
    rintro e w2 ⟨rfl, hB2⟩
    go_wp2_with fail
    go_ret
    exact ⟨by rw [hF.out]; rfl, (((Below.refl w.heap.size w).alloc (Nat.le_refl _) _).trans (hB1.mono (by simp))).trans (hB2.mono (Nat.le_trans (by simp) hB1.size))⟩
  · have h0' := beq_f h0
    have hF : Hid (plainT t = false) := hid (by rw [HF.out, decide_eq_false h0]; rfl)
    clear h0 HF
    go_enter Try.func58, Try.ntmps58
    go_wp2_with fail
    go_ret
    exact ⟨by rw [hF.out]; rfl, ((Below.refl w.heap.size w).alloc (Nat.le_refl _) _)⟩
theorem restR_one (l : List Part) : restR l 0 = restR l 1 := by
  cases l with
  | nil => rfl
  | cons y r => exact restR_zero rfl
set_option maxHeartbeats 4000000 in
set_option maxRecDepth 100000 in
theorem RNumbers_calls (t : Term) (v : Value) (w : World) (h : (listR partR).rel w (upto w.heap.size) [v] t.parts) : Calls Try.prog 55 #[tval t v] w fun e w' => e = .returned (.bool (numbersF t)) ∧ Below w.heap.size w w' := by
  obtain ⟨A, c, rfl, hc, hm⟩ := list_form h
  unfold maxLen at hm
  have hs1 := hid fun W => Rsmall_calls t.base W
  have hs2 := hid fun W => Rsmall_calls t.sum W
  have ho := hid fun W => ROuter_calls t (.slice A t.parts.length c) W
  have hb := hid fun W => RBits_calls (outerT t) W
  have HN : Hid (numbersF t = (smallN t.base && smallN t.sum && bitsF (outerT t) && risingP t.parts && decide (t.parts.length ≤ 4))) := hid rfl
  have hX0 := heap_alloc_new w (.cells #[.int .i64 t.base, .int .i64 t.drop, .int .i64 t.take, .int .i64 t.up, .int .i64 t.sum, .slice A t.parts.length c] 60)
  unfold tval at ho ⊢
  unfold pval at ho hb
  dsimp only [outerT] at ho
  cases k1 : smallN t.base
  · rw [k1] at hs1
    have hF : Hid (numbersF t = false) := hid (by rw [HN.out, k1]; rfl)
    clear k1 HN hs2 ho hb
    go_enter Try.func55, Try.ntmps55
    go_wp2_with fail
    refine (hs1.out _).mono ?_
    rintro e w1 ⟨rfl, hB1⟩
    have hC1 : Below (w.heap.size + 1) (w.alloc (.cells #[.int .i64 t.base, .int .i64 t.drop, .int .i64 t.take, .int .i64 t.up, .int .i64 t.sum, .slice A t.parts.length c] 60)) w1 := low hB1 (by simp)
    obtain ⟨p0, p1, p2, p3, p4, p5⟩ := six ((hC1.block w.heap.size (by omega)).trans hX0)
    go_wp2_with fail
    go_ret
    exact ⟨by rw [hF.out]; rfl, ((Below.refl w.heap.size w).alloc (Nat.le_refl _) _).trans (low hC1 (by omega))⟩
  rw [k1] at hs1
  cases k2 : smallN t.sum
  · rw [k2] at hs2
    have hF : Hid (numbersF t = false) := hid (by rw [HN.out, k1, k2]; rfl)
    clear k1 k2 HN ho hb
    go_enter Try.func55, Try.ntmps55
    go_wp2_with fail
    refine (hs1.out _).mono ?_
    rintro e w1 ⟨rfl, hB1⟩
    have hC1 : Below (w.heap.size + 1) (w.alloc (.cells #[.int .i64 t.base, .int .i64 t.drop, .int .i64 t.take, .int .i64 t.up, .int .i64 t.sum, .slice A t.parts.length c] 60)) w1 := low hB1 (by simp)
    obtain ⟨p0, p1, p2, p3, p4, p5⟩ := six ((hC1.block w.heap.size (by omega)).trans hX0)
    go_wp2_with fail
    refine (hs2.out _).mono ?_
    rintro e w2 ⟨rfl, hB2⟩
    have hz2 := hC1.size
    simp at hz2
    have hC2 := hC1.trans (low hB2 hz2)
    clear p0 p1 p2 p3 p4 p5
    obtain ⟨p0, p1, p2, p3, p4, p5⟩ := six ((hC2.block w.heap.size (by omega)).trans hX0)
    go_wp2_with fail
    go_ret
    exact ⟨by rw [hF.out]; rfl, ((Below.refl w.heap.size w).alloc (Nat.le_refl _) _).trans (low hC2 (by omega))⟩
  rw [k2] at hs2
  cases k3 : bitsF (outerT t)
  · rw [k3] at hb
    have hF : Hid (numbersF t = false) := hid (by rw [HN.out, k1, k2, k3]; rfl)
    clear k1 k2 k3 HN
    go_enter Try.func55, Try.ntmps55
    go_wp2_with fail
    refine (hs1.out _).mono ?_
    rintro e w1 ⟨rfl, hB1⟩
    have hC1 : Below (w.heap.size + 1) (w.alloc (.cells #[.int .i64 t.base, .int .i64 t.drop, .int .i64 t.take, .int .i64 t.up, .int .i64 t.sum, .slice A t.parts.length c] 60)) w1 := low hB1 (by simp)
    obtain ⟨p0, p1, p2, p3, p4, p5⟩ := six ((hC1.block w.heap.size (by omega)).trans hX0)
    go_wp2_with fail
    refine (hs2.out _).mono ?_
    rintro e w2 ⟨rfl, hB2⟩
    have hz2 := hC1.size
    simp at hz2
    have hC2 := hC1.trans (low hB2 hz2)
    clear p0 p1 p2 p3 p4 p5
    obtain ⟨p0, p1, p2, p3, p4, p5⟩ := six ((hC2.block w.heap.size (by omega)).trans hX0)
    go_wp2_with fail
    refine (ho.out _).mono ?_
    rintro e w3 ⟨rfl, hB3⟩
    have hz3 := hC2.size
    simp at hz3
    have hC3 := hC2.trans (low hB3 hz3)
    clear p0 p1 p2 p3 p4 p5
    obtain ⟨p0, p1, p2, p3, p4, p5⟩ := six ((hC3.block w.heap.size (by omega)).trans hX0)
    go_wp2_with fail
    refine (hb.out _).mono ?_
    rintro e w4 ⟨rfl, hB4⟩
    have hz4 := hC3.size
    simp at hz4
    have hC4 := hC3.trans (low hB4 hz4)
    clear p0 p1 p2 p3 p4 p5
    obtain ⟨p0, p1, p2, p3, p4, p5⟩ := six ((hC4.block w.heap.size (by omega)).trans hX0)
    go_wp2_with fail
    go_ret
    exact ⟨by rw [hF.out]; rfl, ((Below.refl w.heap.size w).alloc (Nat.le_refl _) _).trans (low hC4 (by omega))⟩
  rw [k3] at hb
  by_cases k4 : t.parts.length ≤ 4
  rotate_left
  · have k4' : ¬ (t.parts.length : Int) ≤ 4 := by omega
    have hF : Hid (numbersF t = false) := hid (by rw [HN.out, decide_eq_false k4]; simp)
    clear k1 k2 k3 k4 HN
    go_enter Try.func55, Try.ntmps55
    go_wp2_with fail
    refine (hs1.out _).mono ?_
    rintro e w1 ⟨rfl, hB1⟩
    have hC1 : Below (w.heap.size + 1) (w.alloc (.cells #[.int .i64 t.base, .int .i64 t.drop, .int .i64 t.take, .int .i64 t.up, .int .i64 t.sum, .slice A t.parts.length c] 60)) w1 := low hB1 (by simp)
    obtain ⟨p0, p1, p2, p3, p4, p5⟩ := six ((hC1.block w.heap.size (by omega)).trans hX0)
    go_wp2_with fail
    refine (hs2.out _).mono ?_
    rintro e w2 ⟨rfl, hB2⟩
    have hz2 := hC1.size
    simp at hz2
    have hC2 := hC1.trans (low hB2 hz2)
    clear p0 p1 p2 p3 p4 p5
    obtain ⟨p0, p1, p2, p3, p4, p5⟩ := six ((hC2.block w.heap.size (by omega)).trans hX0)
    go_wp2_with fail
    refine (ho.out _).mono ?_
    rintro e w3 ⟨rfl, hB3⟩
    have hz3 := hC2.size
    simp at hz3
    have hC3 := hC2.trans (low hB3 hz3)
    clear p0 p1 p2 p3 p4 p5
    obtain ⟨p0, p1, p2, p3, p4, p5⟩ := six ((hC3.block w.heap.size (by omega)).trans hX0)
    go_wp2_with fail
    refine (hb.out _).mono ?_
    rintro e w4 ⟨rfl, hB4⟩
    have hz4 := hC3.size
    simp at hz4
    have hC4 := hC3.trans (low hB4 hz4)
    clear p0 p1 p2 p3 p4 p5
    obtain ⟨p0, p1, p2, p3, p4, p5⟩ := six ((hC4.block w.heap.size (by omega)).trans hX0)
    go_wp2_with fail
    go_ret
    exact ⟨by rw [hF.out]; rfl, ((Below.refl w.heap.size w).alloc (Nat.le_refl _) _).trans (low hC4 (by omega))⟩
  have k4' : (t.parts.length : Int) ≤ 4 := by omega
  have HF : Hid (numbersF t = restR t.parts 0) := hid (by rw [HN.out, k1, k2, k3, decide_eq_true k4]; simp [restR])
  clear k1 k2 k3 HN
  go_enter Try.func55, Try.ntmps55
  go_wp2_with fail
  refine (hs1.out _).mono ?_
  rintro e w1 ⟨rfl, hB1⟩
  have hC1 : Below (w.heap.size + 1) (w.alloc (.cells #[.int .i64 t.base, .int .i64 t.drop, .int .i64 t.take, .int .i64 t.up, .int .i64 t.sum, .slice A t.parts.length c] 60)) w1 := low hB1 (by simp)
  obtain ⟨p0, p1, p2, p3, p4, p5⟩ := six ((hC1.block w.heap.size (by omega)).trans hX0)
  go_wp2_with fail
  refine (hs2.out _).mono ?_
  rintro e w2 ⟨rfl, hB2⟩
  have hz2 := hC1.size
  simp at hz2
  have hC2 := hC1.trans (low hB2 hz2)
  clear p0 p1 p2 p3 p4 p5
  obtain ⟨p0, p1, p2, p3, p4, p5⟩ := six ((hC2.block w.heap.size (by omega)).trans hX0)
  go_wp2_with fail
  refine (ho.out _).mono ?_
  rintro e w3 ⟨rfl, hB3⟩
  have hz3 := hC2.size
  simp at hz3
  have hC3 := hC2.trans (low hB3 hz3)
  clear p0 p1 p2 p3 p4 p5
  obtain ⟨p0, p1, p2, p3, p4, p5⟩ := six ((hC3.block w.heap.size (by omega)).trans hX0)
  go_wp2_with fail
  refine (hb.out _).mono ?_
  rintro e w4 ⟨rfl, hB4⟩
  have hz4 := hC3.size
  simp at hz4
  have hC4 := hC3.trans (low hB4 hz4)
  clear p0 p1 p2 p3 p4 p5
  obtain ⟨p0, p1, p2, p3, p4, p5⟩ := six ((hC4.block w.heap.size (by omega)).trans hX0)
  have hBw : Below w.heap.size w w4 := ((Below.refl w.heap.size w).alloc (Nat.le_refl _) _).trans (low hC4 (by omega))
  have hX4 := (hC4.block w.heap.size (by omega)).trans hX0
  have hs4 := heap_lt hX4
  go_wp2_with fail
  clear p0 p1 p2 p3 p4 p5
  go_loopw [3] (fun vi wr => ∃ k : Nat, 1 ≤ k ∧ (k ≤ t.parts.length ∨ k = 1) ∧ vi = .int .i64 k ∧ Hid (restR t.parts 0 = restR t.parts k) ∧ Below w4.heap.size w4 wr) (fun vi _ => t.parts.length - (intOf vi).toNat)
  case atStart => exact ⟨1, Nat.le_refl _, .inr rfl, rfl, hid (restR_one _), Below.refl _ _⟩
  case round =>
    obtain ⟨k, hk1, hk, rfl, HR, hB⟩ := hrel
    obtain ⟨wo, hwo⟩ : ∃ wo, wo = wr := ⟨_, rfl⟩
    subst hwo
    have hr := (listR partR).mono (below_cells (hBw.trans (hB.mono hBw.size))) (fun _ h => h) h
    have hBo := hid (hBw.trans (hB.mono hBw.size))
    obtain ⟨p0, p1, p2, p3, p4, p5⟩ := six ((hB.block w.heap.size hs4).trans hX4)
    have hs5 := hB.size
    by_cases hlt : k < t.parts.length
    · obtain ⟨j, rfl⟩ : ∃ j, k = j + 1 := ⟨k - 1, by omega⟩
      obtain ⟨x, hx⟩ := at_lt hlt
      obtain ⟨q, hq⟩ := at_lt (xs := t.parts) (i := j) (by omega)
      obtain ⟨b, o, rfl, hb', q1, q2, q3, q4, hok⟩ := part_at hr hx
      obtain ⟨b', o', hbo, _, r1, r2, r3, r4, _⟩ := part_at hr hq
      simp only [Option.some.injEq, Addr.mk.injEq, and_true] at hbo
      obtain ⟨rfl, rfl⟩ := hbo
      have hst := restR_succ hq hx
      have hj' : ((j : Int) + 1) < t.parts.length := by omega
      have hj2 : (j : Int) < t.parts.length := by omega
      have hBB := hid hB
      by_cases hup : q.up < x.up
      · have HR2 : Hid (restR t.parts 0 = restR t.parts (j + 2)) := hid (by rw [HR.out, hst, decide_eq_true hup]; rfl)
        have hup1 : ¬ x.up ≤ q.up := by omega
        clear hx HR hr hst hup hq hB hok
        go_wp2_with fail
        go_quiet (fail)
        go_wp2_with fail
        refine ⟨⟨j + 2, by omega, .inl (by omega), by push_cast; rfl, HR2, below_drewN hBB.out _⟩, ?_⟩
        simp [intOf]; omega
      · have HR2 : Hid (numbersF t = false) := hid (by rw [HF.out, HR.out, hst, decide_eq_false hup]; rfl)
        have hup1 : x.up ≤ q.up := by omega
        clear hx HR hr hst hup hq hB hok
        go_wp2_with fail
        go_quiet (fail)
        go_wp2_with fail
        go_ret
        exact ⟨by rw [HR2.out]; rfl, below_drewN hBo.out _⟩
    · have HR2 : Hid (numbersF t = true) := hid (by
        rw [HF.out, HR.out]
        rcases Nat.lt_or_ge t.parts.length 1 with h0 | h0
        · have hnil : t.parts = [] := List.eq_nil_of_length_eq_zero (by omega)
          rw [hnil]
          obtain rfl : k = 1 := by omega
          rfl
        · obtain rfl : k = t.parts.length := by omega
          exact restR_end)
      have hlt' : ¬ (k : Int) < t.parts.length := by omega
      clear HR hr hB
      go_wp2_with fail
      go_ret
      exact ⟨by rw [HR2.out]; rfl, hBo.out⟩
end Go.Proofs.Ytflllgbjlfpgcaa
