/-
  The reference's tests of words: the same two, of a sort; and a scalar's bytes.
-/
import Derived.Test.YthfcbbdghggefaaGreatQCdA
import Derived.Test.YthfcbbdghggefaaGreatPj
import Derived.Test.YthfcbbdghggefaaGreatPm
namespace Go.Proofs.YthfcbbdghggefaaGreat
open Go.RowKit Go.Um Go.Proofs
theorem take_same {a b : List Int} {k : Nat} {x y : Int} (h : a.take k = b.take k) (hx : a[k]? = some x) (hy : b[k]? = some y) : (x = y → a.take (k + 1) = b.take (k + 1)) ∧ (x ≠ y → a ≠ b) := by
  refine ⟨fun e => ?_, fun e hab => e ?_⟩
  · rw [List.take_add_one, List.take_add_one, h, hx, hy, e]
  · rw [hab, hy] at hx
    injection hx with hx
    exact hx.symm
set_option maxHeartbeats 1000000 in
set_option maxRecDepth 100000 in
theorem rsame_calls (a b : List Int) (v u : Value) (w : World) (ha : wordR.rel w (upto w.heap.size) [v] a) (hb : wordR.rel w (upto w.heap.size) [u] b) :
    Calls Tryz.prog 18 #[v, u] w fun e w' => e = .returned (.bool (decide (a = b))) ∧ Below w.heap.size w w' := by
  obtain ⟨A, c, rfl, hc, hm⟩ := list_form ha
  obtain ⟨B, d, rfl, hd, hn⟩ := list_form hb
  unfold maxLen at hm hn
  by_cases hl : a.length = b.length
  · have hl' : (a.length : Int) = b.length := by omega
    have HA := hid ha
    have HB := hid hb
    have HL := hid hl
    obtain ⟨n, hna⟩ : ∃ n, n = a.length := ⟨_, rfl⟩
    have hnb : n = b.length := by omega
    have HNA := hid hna
    have HNB := hid hnb
    rw [← hna] at hc ⊢
    rw [← hnb] at hd ⊢
    clear ha hb hl hl' hna hnb
    go_enter Tryz.func18, Tryz.ntmps18
    go_wp2_with fail
    go_loopw [5] (fun vi wr => ∃ k : Nat, k ≤ n ∧ vi = .int .i64 k ∧ a.take k = b.take k ∧ Below w.heap.size w wr) (fun vi _ => n - (intOf vi).toNat)
    case atStart => exact ⟨0, Nat.zero_le _, rfl, rfl, Below.refl _ _⟩
    case round =>
      obtain ⟨wo, hwo⟩ : ∃ wo, wo = wr := ⟨_, rfl⟩
      subst hwo
      obtain ⟨k, hk, rfl, ht, hB⟩ := hrel
      by_cases hlt : k < n
      · have hlt' : (k : Int) < n := by omega
        obtain ⟨x, hx⟩ := at_lt (xs := a) (i := k) (by rw [← HNA.out]; exact hlt)
        obtain ⟨y, hy⟩ := at_lt (xs := b) (i := k) (by rw [← HNB.out]; exact hlt)
        obtain ⟨b3, o3, rfl, hb3, c3, hi3⟩ := rune_at HA.out hx
        obtain ⟨b4, o4, rfl, hb4, c4, hi4⟩ := rune_at HB.out hy
        have c3d := (hB.cell (p := ⟨b3, o3 + k, none⟩) hb3).trans c3
        have c4d := (hB.cell (p := ⟨b4, o4 + k, none⟩) hb4).trans c4
        have HT := hid (take_same ht hx hy)
        have HBo := hid hB
        clear ht hx hy c3 c4 hB hi3 hi4
        by_cases e : x = y
        · have HT2 := hid (HT.out.1 e)
          subst e
          clear HT
          go_wp2_with fail
          go_quiet (fail)
          have HBn : Hid (Below w.heap.size w (wo.drewN nq)) := hid ⟨HBo.out.os, HBo.out.tape, HBo.out.output, HBo.out.size, HBo.out.block⟩
          generalize wo.drewN nq = we at *
          go_wp2_with fail
          refine ⟨⟨k + 1, by omega, by push_cast; rfl, HT2.out, HBn.out⟩, ?_⟩
          simp [intOf]
          omega
        · have HT2 := hid (HT.out.2 e)
          have e' : (x == y) = false := beq_f e
          clear HT
          go_wp2_with fail
          go_quiet (fail)
          have HBn : Hid (Below w.heap.size w (wo.drewN nq)) := hid ⟨HBo.out.os, HBo.out.tape, HBo.out.output, HBo.out.size, HBo.out.block⟩
          generalize wo.drewN nq = we at *
          go_wp2_with fail
          go_ret
          exact ⟨by rw [decide_eq_false HT2.out]; rfl, HBn.out⟩
      · have hke : k = n := by omega
        subst hke
        have HE : Hid (a = b) := hid (by rw [← List.take_length (l := a), ← List.take_length (l := b), ← HNA.out, ← HNB.out]; exact ht)
        have HBo := hid hB
        have hlt' : ¬ (k : Int) < k := by omega
        clear ht hB
        go_wp2_with fail
        go_ret
        exact ⟨by rw [decide_eq_true HE.out]; rfl, HBo.out⟩
  · have hl' : ¬ (a.length : Int) = b.length := by omega
    have HN : Hid (a ≠ b) := hid fun e => hl (by rw [e])
    clear ha hb
    go_enter Tryz.func18, Tryz.ntmps18
    go_wp2_with fail
    go_ret
    exact ⟨by rw [decide_eq_false HN.out]; rfl, Below.refl _ _⟩
set_option maxHeartbeats 1000000 in
theorem rin_calls (z : Int) (w : World) : Calls Tryz.prog 46 #[.int .i64 2, .int .i32 z] w fun e w' => e = .returned (.bool (decide (scalP z))) ∧ w' = w := by
  have hs : (decide (scalP z)) = (decide (0 ≤ z) && decide (z < 1114112) && !(decide (55296 ≤ z) && decide (z < 57344))) := by
    rw [Bool.eq_iff_iff, decide_eq_true_iff]
    unfold scalP
    simp only [Bool.and_eq_true, Bool.not_eq_true', decide_eq_true_eq, Bool.and_eq_false_iff, decide_eq_false_iff_not]
    omega
  rw [hs]
  clear hs
  by_cases c1 : 0 ≤ z
  · have e1 : decide (0 ≤ z) = true := decide_eq_true c1
    by_cases c2 : z < 1114112
    · have e2 : decide (z < 1114112) = true := decide_eq_true c2
      by_cases c3 : 55296 ≤ z
      · have e3 : decide (55296 ≤ z) = true := decide_eq_true c3
        by_cases c4 : z < 57344
        · have e4 : decide (z < 57344) = true := decide_eq_true c4
          rw [e1, e2, e3, e4]
          clear e1 e2 e3 e4
          go_enter Tryz.func46, Tryz.ntmps46
          go_wp2_with fail
          go_ret
          exact ⟨rfl, rfl⟩
        · have e4 : decide (z < 57344) = false := decide_eq_false c4
          rw [e1, e2, e3, e4]
          clear e1 e2 e3 e4
          go_enter Tryz.func46, Tryz.ntmps46
          go_wp2_with fail
          go_ret
          exact ⟨rfl, rfl⟩
      · have e3 : decide (55296 ≤ z) = false := decide_eq_false c3
        rw [e1, e2, e3]
        clear e1 e2 e3
        go_enter Tryz.func46, Tryz.ntmps46
        go_wp2_with fail
        go_ret
        exact ⟨rfl, rfl⟩
    · have e2 : decide (z < 1114112) = false := decide_eq_false c2
      rw [e1, e2]
      clear e1 e2
      go_enter Tryz.func46, Tryz.ntmps46
      go_wp2_with fail
      go_ret
      exact ⟨rfl, rfl⟩
  · have e1 : decide (0 ≤ z) = false := decide_eq_false c1
    rw [e1]
    clear e1
    go_enter Tryz.func46, Tryz.ntmps46
    go_wp2_with fail
    go_ret
    exact ⟨rfl, rfl⟩
end Go.Proofs.YthfcbbdghggefaaGreat
