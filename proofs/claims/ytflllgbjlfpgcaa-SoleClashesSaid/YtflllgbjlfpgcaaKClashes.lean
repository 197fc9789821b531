/-
  The reference's Where and Right, for any description. SoleClashes returns true for any description. No condition.
-/
import Derived.Test.YtflllgbjlfpgcaaKRbb
import Derived.Test.YtflllgbjlfpgcaaKRbs
import Derived.Test.YtflllgbjlfpgcaaKRsb
import Derived.Test.YtflllgbjlfpgcaaKRss
import Derived.Test.YtflllgbjlfpgcaaKTold
namespace Go.Proofs.Ytflllgbjlfpgcaa
open Go.RowKit Go.Um Go.Proofs
theorem RWhere_calls (d : Desc) (v u : Value) (w : World) (hv : (listR ruleR).rel w (upto w.heap.size) [v] d.rules) (hu : (listR finalR).rel w (upto w.heap.size) [u] d.finals) :
    Calls Try.prog 17 #[.agg #[.int .i64 d.inn, .int .i64 d.out, .int .i64 d.states, .int .i64 d.start, v, u]] w fun e w' => e = .returned (.tuple #[.int .i64 (whereF d).1, .int .i64 (whereF d).2]) ∧ Below w.heap.size w w' := by
  cases kh : headF d
  · exact RWhere_bad d kh v u w hv hu
  · have h9 := kh
    unfold headF at h9
    simp only [Bool.and_eq_true] at h9
    have hi : d.inn = 1 ∨ d.inn = 2 := of_decide_eq_true h9.1.1.1.1.1.1
    have ho : d.out = 1 ∨ d.out = 2 := of_decide_eq_true h9.1.1.1.1.1.2
    rcases hi with h1 | h1 <;> rcases ho with h2 | h2
    · exact RWhere11 d kh h1 h2 v u w hv hu
    · exact RWhere12 d kh h1 h2 v u w hv hu
    · exact RWhere21 d kh h1 h2 v u w hv hu
    · exact RWhere22 d kh h1 h2 v u w hv hu
theorem RRight_all (d : Desc) (v u : Value) (w : World) (hv : (listR ruleR).rel w (upto w.heap.size) [v] d.rules) (hu : (listR finalR).rel w (upto w.heap.size) [u] d.finals) :
    Calls Try.prog 10 #[.agg #[.int .i64 d.inn, .int .i64 d.out, .int .i64 d.states, .int .i64 d.start, v, u]] w fun e w' => e = .returned (.bool (decide ((whereF d).1 = 0))) ∧ Below w.heap.size w w' := by
  have hB0 : Below w.heap.size w (w.alloc (.cells #[.int .i64 d.inn, .int .i64 d.out, .int .i64 d.states, .int .i64 d.start, v, u] 26)) := (Below.refl _ w).alloc (Nat.le_refl _) _
  have HW := hid (RWhere_calls d v u _ ((listR ruleR).below hv hB0 hB0.size) ((listR finalR).below hu hB0 hB0.size))
  obtain ⟨A1, c1, rfl, hc1, hm1⟩ := list_form hv
  obtain ⟨A2, c2, rfl, hc2, hm2⟩ := list_form hu
  obtain ⟨a, ha⟩ : ∃ a, a = (whereF d).1 := ⟨_, rfl⟩
  rw [← ha] at HW ⊢
  by_cases h0 : a = 0
  · have h0b : (a == 0) = true := beq_t h0
    have HF : Hid (decide (a = 0) = true) := hid (decide_eq_true h0)
    rw [HF.out]
    clear h0 ha HF
    go_enter Try.func10, Try.ntmps10
    go_wp2_with fail
    refine HW.out.mono ?_
    rintro e w1 ⟨rfl, hB1⟩
    go_wp2_with fail
    go_ret
    exact ⟨rfl, hB0.trans (hB1.mono hB0.size)⟩
  · have h0b : (a == 0) = false := beq_f h0
    have HF : Hid (decide (a = 0) = false) := hid (decide_eq_false h0)
    rw [HF.out]
    clear h0 ha HF
    go_enter Try.func10, Try.ntmps10
    go_wp2_with fail
    refine HW.out.mono ?_
    rintro e w1 ⟨rfl, hB1⟩
    go_wp2_with fail
    go_ret
    exact ⟨rfl, hB0.trans (hB1.mono hB0.size)⟩
end Go.Proofs.Ytflllgbjlfpgcaa
namespace Go.Proofs.Ytflllgbjlfpgcaa
open Go.RowKit Go.Um Go.Proofs
set_option maxHeartbeats 3000000 in
set_option maxRecDepth 100000 in
theorem clashes_calls (d : Desc) (v u : Value) (w : World) (hv : (listR ruleR).rel w (upto w.heap.size) [v] d.rules) (hu : (listR finalR).rel w (upto w.heap.size) [u] d.finals) :
    Calls Try.prog 3 #[.agg #[.int .i64 d.inn, .int .i64 d.out, .int .i64 d.states, .int .i64 d.start, v, u]] w fun e w' => e = .returned (.bool true) ∧ Below w.heap.size w w' := by
  have hsm := hid fun W (hW : Below w.heap.size w W) => small_calls d v u W ((listR ruleR).below hv hW hW.size) ((listR finalR).below hu hW hW.size) d.inn d.out d.states d.start
  have haw := hid awake_calls
  obtain ⟨A1, c1, rfl, hc1, hm1⟩ := list_form hv
  obtain ⟨A2, c2, rfl, hc2, hm2⟩ := list_form hu
  have hB0 : ∀ O W, Below (w.heap.size + 1) (w.alloc O) W → Below w.heap.size w W := fun O W h => ((Below.refl _ _).alloc (Nat.le_refl _) _).trans (low h (by omega))
  cases hs : smallF d with
  | false =>
    rw [hs] at hsm
    clear hv hu hs
    go_enter Try.func3, Try.ntmps3
    go_wp2_with fail
    refine (hsm.out _ ((Below.refl _ _).alloc (Nat.le_refl _) _)).mono ?_
    rintro e w1 ⟨rfl, hB⟩
    have hB1 : Below (w.heap.size + 1) (w.alloc (.cells #[.int .i64 d.inn, .int .i64 d.out, .int .i64 d.states, .int .i64 d.start, .slice A1 d.rules.length c1, .slice A2 d.finals.length c2] 26)) w1 := low hB (by simp)
    obtain ⟨p0, p1, p2, p3, p4, p5⟩ := box6 hB1
    have hz1 := hB1.size
    simp at hz1
    have hBw := hB0 _ _ hB1
    go_wp2_with fail
    refine (haw.out _).mono ?_
    rintro e w9 ⟨rfl, hB9⟩
    go_wp2_with fail
    go_ret
    exact ⟨rfl, hBw.trans (low hB9 hBw.size)⟩
  | true =>
    rw [hs] at hsm
    obtain ⟨hl1, hl2, hgl⟩ := small_bd hs
    by_cases h60 : 60 < d.rules.length + d.finals.length
    · have h60' : (60 : Int) < (d.rules.length : Int) + d.finals.length := by omega
      clear hv hu hs hgl h60
      go_enter Try.func3, Try.ntmps3
      go_wp2_with fail
      refine (hsm.out _ ((Below.refl _ _).alloc (Nat.le_refl _) _)).mono ?_
      rintro e w1 ⟨rfl, hB⟩
      have hB1 : Below (w.heap.size + 1) (w.alloc (.cells #[.int .i64 d.inn, .int .i64 d.out, .int .i64 d.states, .int .i64 d.start, .slice A1 d.rules.length c1, .slice A2 d.finals.length c2] 26)) w1 := low hB (by simp)
      obtain ⟨p0, p1, p2, p3, p4, p5⟩ := box6 hB1
      have hz1 := hB1.size
      simp at hz1
      have hBw := hB0 _ _ hB1
      go_wp2_with fail
      refine (haw.out _).mono ?_
      rintro e w9 ⟨rfl, hB9⟩
      go_wp2_with fail
      go_ret
      exact ⟨rfl, hBw.trans (low hB9 hBw.size)⟩
    · have h60' : ¬ (60 : Int) < (d.rules.length : Int) + d.finals.length := by omega
      have hcl := hid fun W (hW : Below w.heap.size w W) => Clash_calls d _ _ W ((listR ruleR).below hv hW hW.size) ((listR finalR).below hu hW hW.size) d.inn d.out d.states d.start (by omega) (by omega) (fun o ho g hg => Nat.le_trans (hgl o ho g hg) (by decide))
      have hrc := hid fun W (hW : Below w.heap.size w W) => RClash_calls d _ _ W ((listR ruleR).below hv hW hW.size) ((listR finalR).below hu hW hW.size) (by omega) (by omega) (fun o ho g hg => Nat.le_trans (hgl o ho g hg) (by decide))
      have hso := hid fun W (hW : Below w.heap.size w W) => Sole_calls d _ _ W ((listR ruleR).below hv hW hW.size) ((listR finalR).below hu hW hW.size)
      have hri := hid fun W (hW : Below w.heap.size w W) => RRight_all d _ _ W ((listR ruleR).below hv hW hW.size) ((listR finalR).below hu hW hW.size)
      rw [← clashT_eq] at hrc
      unfold soleS at hso
      clear hs hgl h60
      cases hcs : outerS (optsD d) 0 (optsD d) with
      | none =>
        rw [show clashS (optsD d) = .tuple #[.int .i64 0, .int .i64 0, .bool false] by simp [clashS, hcs]] at hcl hrc
        rw [hcs] at hso
        clear hcs
        by_cases h0 : (whereF d).1 = 0
        · rw [if_pos h0] at hso
          rw [decide_eq_true h0] at hri
          simp only [Option.isNone_none] at hso
          clear hv hu h0
          go_enter Try.func3, Try.ntmps3
          go_wp2_with fail
          refine (hsm.out _ ((Below.refl _ _).alloc (Nat.le_refl _) _)).mono ?_
          rintro e w1 ⟨rfl, hB⟩
          have hB1 : Below (w.heap.size + 1) (w.alloc (.cells #[.int .i64 d.inn, .int .i64 d.out, .int .i64 d.states, .int .i64 d.start, .slice A1 d.rules.length c1, .slice A2 d.finals.length c2] 26)) w1 := low hB (by simp)
          obtain ⟨p0, p1, p2, p3, p4, p5⟩ := box6 hB1
          have hz1 := hB1.size
          simp at hz1
          go_wp2_with fail
          refine (hcl.out _ (hB0 _ _ hB1)).mono ?_
          rintro e w2 ⟨rfl, hC2⟩
          clear p0 p1 p2 p3 p4 p5
          have hB2 := hB1.trans (low hC2 hz1)
          obtain ⟨p0, p1, p2, p3, p4, p5⟩ := box6 hB2
          have hz2 := hB2.size
          simp at hz2
          clear hC2
          go_wp2_with fail
          refine (hrc.out _ (hB0 _ _ hB2)).mono ?_
          rintro e w3 ⟨rfl, hC3⟩
          clear p0 p1 p2 p3 p4 p5
          have hB3 := hB2.trans (low hC3 hz2)
          obtain ⟨p0, p1, p2, p3, p4, p5⟩ := box6 hB3
          have hz3 := hB3.size
          simp at hz3
          clear hC3
          go_wp2_with fail
          refine (hso.out _ (hB0 _ _ hB3)).mono ?_
          rintro e w4 ⟨rfl, hC4⟩
          clear p0 p1 p2 p3 p4 p5
          have hB4 := hB3.trans (low hC4 hz3)
          obtain ⟨p0, p1, p2, p3, p4, p5⟩ := box6 hB4
          have hz4 := hB4.size
          simp at hz4
          clear hC4
          go_wp2_with fail
          refine (hri.out _ (hB0 _ _ hB4)).mono ?_
          rintro e w5 ⟨rfl, hC5⟩
          clear p0 p1 p2 p3 p4 p5
          have hB5 := hB4.trans (low hC5 hz4)
          obtain ⟨p0, p1, p2, p3, p4, p5⟩ := box6 hB5
          have hz5 := hB5.size
          simp at hz5
          clear hC5
          have hBw := hB0 _ _ hB5
          go_wp2_with fail
          refine (haw.out _).mono ?_
          rintro e w9 ⟨rfl, hB9⟩
          go_wp2_with fail
          go_ret
          exact ⟨rfl, hBw.trans (low hB9 hBw.size)⟩
        · rw [if_neg h0] at hso
          rw [decide_eq_false h0] at hri
          clear hv hu h0
          go_enter Try.func3, Try.ntmps3
          go_wp2_with fail
          refine (hsm.out _ ((Below.refl _ _).alloc (Nat.le_refl _) _)).mono ?_
          rintro e w1 ⟨rfl, hB⟩
          have hB1 : Below (w.heap.size + 1) (w.alloc (.cells #[.int .i64 d.inn, .int .i64 d.out, .int .i64 d.states, .int .i64 d.start, .slice A1 d.rules.length c1, .slice A2 d.finals.length c2] 26)) w1 := low hB (by simp)
          obtain ⟨p0, p1, p2, p3, p4, p5⟩ := box6 hB1
          have hz1 := hB1.size
          simp at hz1
          go_wp2_with fail
          refine (hcl.out _ (hB0 _ _ hB1)).mono ?_
          rintro e w2 ⟨rfl, hC2⟩
          clear p0 p1 p2 p3 p4 p5
          have hB2 := hB1.trans (low hC2 hz1)
          obtain ⟨p0, p1, p2, p3, p4, p5⟩ := box6 hB2
          have hz2 := hB2.size
          simp at hz2
          clear hC2
          go_wp2_with fail
          refine (hrc.out _ (hB0 _ _ hB2)).mono ?_
          rintro e w3 ⟨rfl, hC3⟩
          clear p0 p1 p2 p3 p4 p5
          have hB3 := hB2.trans (low hC3 hz2)
          obtain ⟨p0, p1, p2, p3, p4, p5⟩ := box6 hB3
          have hz3 := hB3.size
          simp at hz3
          clear hC3
          go_wp2_with fail
          refine (hso.out _ (hB0 _ _ hB3)).mono ?_
          rintro e w4 ⟨rfl, hC4⟩
          clear p0 p1 p2 p3 p4 p5
          have hB4 := hB3.trans (low hC4 hz3)
          obtain ⟨p0, p1, p2, p3, p4, p5⟩ := box6 hB4
          have hz4 := hB4.size
          simp at hz4
          clear hC4
          go_wp2_with fail
          refine (hri.out _ (hB0 _ _ hB4)).mono ?_
          rintro e w5 ⟨rfl, hC5⟩
          clear p0 p1 p2 p3 p4 p5
          have hB5 := hB4.trans (low hC5 hz4)
          obtain ⟨p0, p1, p2, p3, p4, p5⟩ := box6 hB5
          have hz5 := hB5.size
          simp at hz5
          clear hC5
          have hBw := hB0 _ _ hB5
          go_wp2_with fail
          refine (haw.out _).mono ?_
          rintro e w9 ⟨rfl, hB9⟩
          go_wp2_with fail
          go_ret
          exact ⟨rfl, hBw.trans (low hB9 hBw.size)⟩
      | some r =>
        obtain ⟨ri, rk⟩ := r
        rw [show clashS (optsD d) = .tuple #[.int .i64 ri, .int .i64 rk, .bool true] by simp [clashS, hcs]] at hcl hrc
        rw [hcs] at hso
        clear hcs
        by_cases h0 : (whereF d).1 = 0
        · rw [if_pos h0] at hso
          rw [decide_eq_true h0] at hri
          simp only [Option.isNone_some] at hso
          clear hv hu h0
          go_enter Try.func3, Try.ntmps3
          go_wp2_with fail
          refine (hsm.out _ ((Below.refl _ _).alloc (Nat.le_refl _) _)).mono ?_
          rintro e w1 ⟨rfl, hB⟩
          have hB1 : Below (w.heap.size + 1) (w.alloc (.cells #[.int .i64 d.inn, .int .i64 d.out, .int .i64 d.states, .int .i64 d.start, .slice A1 d.rules.length c1, .slice A2 d.finals.length c2] 26)) w1 := low hB (by simp)
          obtain ⟨p0, p1, p2, p3, p4, p5⟩ := box6 hB1
          have hz1 := hB1.size
          simp at hz1
          go_wp2_with fail
          refine (hcl.out _ (hB0 _ _ hB1)).mono ?_
          rintro e w2 ⟨rfl, hC2⟩
          clear p0 p1 p2 p3 p4 p5
          have hB2 := hB1.trans (low hC2 hz1)
          obtain ⟨p0, p1, p2, p3, p4, p5⟩ := box6 hB2
          have hz2 := hB2.size
          simp at hz2
          clear hC2
          go_wp2_with fail
          refine (hrc.out _ (hB0 _ _ hB2)).mono ?_
          rintro e w3 ⟨rfl, hC3⟩
          clear p0 p1 p2 p3 p4 p5
          have hB3 := hB2.trans (low hC3 hz2)
          obtain ⟨p0, p1, p2, p3, p4, p5⟩ := box6 hB3
          have hz3 := hB3.size
          simp at hz3
          clear hC3
          go_wp2_with fail
          refine (hso.out _ (hB0 _ _ hB3)).mono ?_
          rintro e w4 ⟨rfl, hC4⟩
          clear p0 p1 p2 p3 p4 p5
          have hB4 := hB3.trans (low hC4 hz3)
          obtain ⟨p0, p1, p2, p3, p4, p5⟩ := box6 hB4
          have hz4 := hB4.size
          simp at hz4
          clear hC4
          go_wp2_with fail
          refine (hri.out _ (hB0 _ _ hB4)).mono ?_
          rintro e w5 ⟨rfl, hC5⟩
          clear p0 p1 p2 p3 p4 p5
          have hB5 := hB4.trans (low hC5 hz4)
          obtain ⟨p0, p1, p2, p3, p4, p5⟩ := box6 hB5
          have hz5 := hB5.size
          simp at hz5
          clear hC5
          have hBw := hB0 _ _ hB5
          go_wp2_with fail
          refine (haw.out _).mono ?_
          rintro e w9 ⟨rfl, hB9⟩
          go_wp2_with fail
          go_ret
          exact ⟨rfl, hBw.trans (low hB9 hBw.size)⟩
        · rw [if_neg h0] at hso
          rw [decide_eq_false h0] at hri
          clear hv hu h0
          go_enter Try.func3, Try.ntmps3
          go_wp2_with fail
          refine (hsm.out _ ((Below.refl _ _).alloc (Nat.le_refl _) _)).mono ?_
          rintro e w1 ⟨rfl, hB⟩
          have hB1 : Below (w.heap.size + 1) (w.alloc (.cells #[.int .i64 d.inn, .int .i64 d.out, .int .i64 d.states, .int .i64 d.start, .slice A1 d.rules.length c1, .slice A2 d.finals.length c2] 26)) w1 := low hB (by simp)
          obtain ⟨p0, p1, p2, p3, p4, p5⟩ := box6 hB1
          have hz1 := hB1.size
          simp at hz1
          go_wp2_with fail
          refine (hcl.out _ (hB0 _ _ hB1)).mono ?_
          rintro e w2 ⟨rfl, hC2⟩
          clear p0 p1 p2 p3 p4 p5
          have hB2 := hB1.trans (low hC2 hz1)
          obtain ⟨p0, p1, p2, p3, p4, p5⟩ := box6 hB2
          have hz2 := hB2.size
          simp at hz2
          clear hC2
          go_wp2_with fail
          refine (hrc.out _ (hB0 _ _ hB2)).mono ?_
          rintro e w3 ⟨rfl, hC3⟩
          clear p0 p1 p2 p3 p4 p5
          have hB3 := hB2.trans (low hC3 hz2)
          obtain ⟨p0, p1, p2, p3, p4, p5⟩ := box6 hB3
          have hz3 := hB3.size
          simp at hz3
          clear hC3
          go_wp2_with fail
          refine (hso.out _ (hB0 _ _ hB3)).mono ?_
          rintro e w4 ⟨rfl, hC4⟩
          clear p0 p1 p2 p3 p4 p5
          have hB4 := hB3.trans (low hC4 hz3)
          obtain ⟨p0, p1, p2, p3, p4, p5⟩ := box6 hB4
          have hz4 := hB4.size
          simp at hz4
          clear hC4
          go_wp2_with fail
          refine (hri.out _ (hB0 _ _ hB4)).mono ?_
          rintro e w5 ⟨rfl, hC5⟩
          clear p0 p1 p2 p3 p4 p5
          have hB5 := hB4.trans (low hC5 hz4)
          obtain ⟨p0, p1, p2, p3, p4, p5⟩ := box6 hB5
          have hz5 := hB5.size
          simp at hz5
          clear hC5
          have hBw := hB0 _ _ hB5
          go_wp2_with fail
          refine (haw.out _).mono ?_
          rintro e w9 ⟨rfl, hB9⟩
          go_wp2_with fail
          go_ret
          exact ⟨rfl, hBw.trans (low hB9 hBw.size)⟩
end Go.Proofs.Ytflllgbjlfpgcaa
