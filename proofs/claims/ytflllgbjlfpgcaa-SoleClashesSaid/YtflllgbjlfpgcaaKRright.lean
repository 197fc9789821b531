/-
  The reference's Right of a term.
-/
import Derived.Test.YtflllgbjlfpgcaaKRterm
namespace Go.Proofs.Ytflllgbjlfpgcaa
open Go.Proofs Go.Um Go.RowKit
def rightR (inn n : Int) (k : Nat) (p : Part) : Bool := rightP p n && !(decide (inn = 2) && (decide (0 < k) || !allF p))
theorem allF_iff {p : Part} : allF p = true ↔ p = wholeP p.at_ := by
  obtain ⟨a, d, t, u⟩ := p
  unfold allF wholeP
  simp
theorem right_bad {t : Term} {inn out n : Int} {k : Nat} {p : Part} (hp : t.parts[k]? = some p) (hb : rightR inn n k p = false) : rightF t inn out n = false := by
  unfold rightF
  unfold rightR at hb
  cases h1 : rightP p n
  · have : (t.parts.all fun p => rightP p n && decide (inn = 2 → p = wholeP p.at_)) = false := List.all_eq_false.2 ⟨p, List.mem_of_getElem? hp, by simp [h1]⟩
    rw [this]; simp
  · rw [h1] at hb
    simp only [Bool.true_and, Bool.not_eq_false', Bool.and_eq_true, decide_eq_true_eq, Bool.or_eq_true, Bool.not_eq_true'] at hb
    obtain ⟨h2, h3⟩ := hb
    rcases h3 with h3 | h3
    · have hk := (List.getElem?_eq_some_iff.1 hp).1
      rw [show decide (inn = 2 → t.parts.length ≤ 1) = false from decide_eq_false fun h => by have := h h2; omega]
      simp
    · have : (t.parts.all fun p => rightP p n && decide (inn = 2 → p = wholeP p.at_)) = false := List.all_eq_false.2 ⟨p, List.mem_of_getElem? hp, by
        rw [show decide (inn = 2 → p = wholeP p.at_) = false from decide_eq_false fun h => by
          have := allF_iff.2 (h h2)
          rw [h3] at this; cases this]
        simp⟩
      rw [this]; simp
theorem right_end {t : Term} {inn out n : Int} (hi : inn = 1 ∨ inn = 2) (ho : out = 1 ∨ out = 2) (hn : numbersF t = true) (h : ∀ (j : Nat) (p : Part), t.parts[j]? = some p → rightR inn n j p = true) : rightF t inn out n = (decide (out = 1) || plainT t) := by
  unfold rightF
  have h1 : (t.parts.all fun p => rightP p n && decide (inn = 2 → p = wholeP p.at_)) = true := List.all_eq_true.2 fun p hp => by
    obtain ⟨j, hj, hje⟩ := List.mem_iff_getElem.1 hp
    have h2 := h j p (by rw [List.getElem?_eq_getElem hj, hje])
    unfold rightR at h2
    simp only [Bool.and_eq_true, Bool.not_eq_true', Bool.and_eq_false_iff, decide_eq_false_iff_not, Bool.or_eq_false_iff, Bool.not_eq_false'] at h2
    rw [h2.1, decide_eq_true (fun h3 => ?_)]
    · rfl
    · rcases h2.2 with h4 | h4
      · exact absurd h3 h4
      · exact allF_iff.1 h4.2
  have h2 : decide (inn = 2 → t.parts.length ≤ 1) = true := decide_eq_true fun h3 => by
    rcases Nat.lt_or_ge 1 t.parts.length with h4 | h4
    · have h5 := h 1 t.parts[1] (List.getElem?_eq_getElem h4)
      unfold rightR at h5
      rw [h3] at h5
      simp at h5
    · exact h4
  rw [h1, h2, hn, show sortF inn = true from decide_eq_true hi, show sortF out = true from decide_eq_true ho]
  rcases ho with rfl | rfl
  · simp
  · cases plainT t <;> simp
set_option maxHeartbeats 4000000 in
set_option maxRecDepth 100000 in
theorem RRight04_calls (t : Term) (inn out n : Int) (v : Value) (w : World) (h : (listR partR).rel w (upto w.heap.size) [v] t.parts) : Calls Try.prog 46 #[tval t v, .int .i64 inn, .int .i64 out, .int .i64 n] w fun e w' => e = .returned (.bool (rightF t inn out n)) ∧ Below w.heap.size w w' := by
  have HNU := hid fun W (hW : Below w.heap.size w W) => RNumbers_calls t v W ((listR partR).below h hW hW.size)
  obtain ⟨A, c, rfl, hc, hm⟩ := list_form h
  unfold maxLen at hm
  have hX0 := heap_alloc_new w (.cells #[.int .i64 t.base, .int .i64 t.drop, .int .i64 t.take, .int .i64 t.up, .int .i64 t.sum, .slice A t.parts.length c] 60)
  unfold tval at HNU ⊢
  by_cases hi : inn = 1 ∨ inn = 2
  rotate_left
  · have hF : Hid (rightF t inn out n = false) := hid (by unfold rightF; rw [show sortF inn = false from decide_eq_false hi]; rfl)
    have e1 : ¬ inn = 1 := fun h => hi (.inl h)
    have e2 : ¬ inn = 2 := fun h => hi (.inr h)
    clear hi hX0
    go_enter Try.func46, Try.ntmps46
    go_wp2_with fail
    go_ret
    exact ⟨by rw [hF.out]; rfl, ((Below.refl w.heap.size w).alloc (Nat.le_refl _) _)⟩
  by_cases ho : out = 1 ∨ out = 2
  rotate_left
  · have hF : Hid (rightF t inn out n = false) := hid (by unfold rightF; rw [show sortF out = false from decide_eq_false ho]; simp)
    have e1 : ¬ out = 1 := fun h => ho (.inl h)
    have e2 : ¬ out = 2 := fun h => ho (.inr h)
    clear ho hX0
    rcases hi with rfl | rfl
    · go_enter Try.func46, Try.ntmps46
      go_wp2_with fail
      go_ret
      exact ⟨by rw [hF.out]; rfl, ((Below.refl w.heap.size w).alloc (Nat.le_refl _) _)⟩
    · go_enter Try.func46, Try.ntmps46
      go_wp2_with fail
      go_ret
      exact ⟨by rw [hF.out]; rfl, ((Below.refl w.heap.size w).alloc (Nat.le_refl _) _)⟩
  cases kn : numbersF t
  · have hF : Hid (rightF t inn out n = false) := hid (by unfold rightF; rw [kn]; simp)
    rw [kn] at HNU
    clear kn hX0
    rcases hi with rfl | rfl <;> rcases ho with rfl | rfl
    all_goals
      go_enter Try.func46, Try.ntmps46
      go_wp2_with fail
      refine (HNU.out _ ((Below.refl w.heap.size w).alloc (Nat.le_refl _) _)).mono ?_
      rintro e w1 ⟨rfl, hB1⟩
      go_wp2_with fail
      go_ret
      exact ⟨by rw [hF.out]; rfl, ((Below.refl w.heap.size w).alloc (Nat.le_refl _) _).trans (low hB1 (by simp))⟩
  rw [kn] at HNU
  rcases hi with rfl | rfl
  · rcases ho with rfl | rfl
    · have HEND := hid fun hall => right_end (t := t) (inn := 1) (out := 1) (n := n) (.inl rfl) (.inl rfl) kn hall
      clear kn
      go_enter Try.func46, Try.ntmps46
      go_wp2_with fail
      refine (HNU.out _ ((Below.refl w.heap.size w).alloc (Nat.le_refl _) _)).mono ?_
      rintro e w1 ⟨rfl, hB1⟩
      have hBw : Below w.heap.size w w1 := ((Below.refl w.heap.size w).alloc (Nat.le_refl _) _).trans (low hB1 (by simp))
      have hX1 := (hB1.block w.heap.size (by simp)).trans hX0
      have hs1 := heap_lt hX1
      obtain ⟨p0, p1, p2, p3, p4, p5⟩ := six hX1
      clear hB1 hX0
      go_wp2_with fail
      clear p0 p1 p2 p3 p4 p5
      go_loopw [9] (fun vi wr => ∃ k : Nat, k ≤ t.parts.length ∧ vi = .int .i64 k ∧ Hid (∀ (j : Nat) (p : Part), j < k → t.parts[j]? = some p → rightR 1 n j p = true) ∧ Below w1.heap.size w1 wr) (fun vi _ => t.parts.length - (intOf vi).toNat)
      case atStart => exact ⟨0, Nat.zero_le _, rfl, hid (fun j p h => absurd h (by omega)), Below.refl _ _⟩
      case round =>
        obtain ⟨k, hk, rfl, HA, hB⟩ := hrel
        obtain ⟨wo, hwo⟩ : ∃ wo, wo = wr := ⟨_, rfl⟩
        subst hwo
        have hBo := hid (hBw.trans (hB.mono hBw.size))
        have hr := (listR partR).mono (below_cells hBo.out) (fun _ h => h) h
        have hXo := (hB.block w.heap.size hs1).trans hX1
        have hso := heap_lt hXo
        have HXO := hid hXo
        have HB := hid hB
        obtain ⟨p0, p1, p2, p3, p4, p5⟩ := six hXo
        by_cases hlt : k < t.parts.length
        · obtain ⟨x, hx⟩ := at_lt hlt
          obtain ⟨b, o, rfl, hb', q1, q2, q3, q4, hok⟩ := part_at hr hx
          have hlt' : (k : Int) < t.parts.length := by omega
          have HX := hid hx
          have hbo : b < wo.heap.size := Nat.lt_of_lt_of_le hb' hBo.out.size
          have hrp := hid fun W => RRight_calls x n W
          have hal := hid fun W => Rall_calls x W
          unfold pval at hrp hal
          have HRR : Hid (rightR 1 n k x = (rightP x n && !(decide ((1 : Int) = 2) && (decide (0 < k) || !allF x)))) := hid rfl
          clear hx hr hB hXo hok hb'
          cases k1 : rightP x n
          · have hF : Hid (rightF t 1 1 n = false) := hid (right_bad HX.out (by rw [HRR.out, k1]; rfl))
            rw [k1] at hrp
            clear k1 HRR hal
            go_wp2_with fail
            refine (hrp.out _).mono ?_
            rintro e w2 ⟨rfl, hB2⟩
            go_wp2_with fail
            go_ret
            exact ⟨by rw [hF.out]; rfl, hBo.out.trans (low hB2 hBo.out.size)⟩
          rw [k1] at hrp
          have hG : Hid (rightR 1 n k x = true) := hid (by rw [HRR.out, k1]; rfl)
          clear k1 HRR hal
          go_wp2_with fail
          refine (hrp.out _).mono ?_
          rintro e w2 ⟨rfl, hB2⟩
          go_wp2_with fail
          refine ⟨⟨k + 1, by omega, by push_cast; rfl, hid (fun j p hj hp => by
              rcases Nat.lt_or_ge j k with h1 | h1
              · exact HA.out j p h1 hp
              · obtain rfl : j = k := by omega
                rw [HX.out] at hp
                cases hp
                exact hG.out), HB.out.trans (low hB2 HB.out.size)⟩, ?_⟩
          simp [intOf]; omega

        · obtain rfl : k = t.parts.length := by omega
          have HE := hid (HEND.out (fun j p hp => HA.out j p (List.getElem?_eq_some_iff.1 hp).1 hp))
          clear hr hB hXo hlt
          go_wp2_with fail
          go_ret
          exact ⟨by rw [HE.out]; rfl, hBo.out⟩
    · have HEND := hid fun hall => right_end (t := t) (inn := 1) (out := 2) (n := n) (.inl rfl) (.inr rfl) kn hall
      clear kn
      go_enter Try.func46, Try.ntmps46
      go_wp2_with fail
      refine (HNU.out _ ((Below.refl w.heap.size w).alloc (Nat.le_refl _) _)).mono ?_
      rintro e w1 ⟨rfl, hB1⟩
      have hBw : Below w.heap.size w w1 := ((Below.refl w.heap.size w).alloc (Nat.le_refl _) _).trans (low hB1 (by simp))
      have hX1 := (hB1.block w.heap.size (by simp)).trans hX0
      have hs1 := heap_lt hX1
      obtain ⟨p0, p1, p2, p3, p4, p5⟩ := six hX1
      clear hB1 hX0
      go_wp2_with fail
      clear p0 p1 p2 p3 p4 p5
      go_loopw [9] (fun vi wr => ∃ k : Nat, k ≤ t.parts.length ∧ vi = .int .i64 k ∧ Hid (∀ (j : Nat) (p : Part), j < k → t.parts[j]? = some p → rightR 1 n j p = true) ∧ Below w1.heap.size w1 wr) (fun vi _ => t.parts.length - (intOf vi).toNat)
      case atStart => exact ⟨0, Nat.zero_le _, rfl, hid (fun j p h => absurd h (by omega)), Below.refl _ _⟩
      case round =>
        obtain ⟨k, hk, rfl, HA, hB⟩ := hrel
        obtain ⟨wo, hwo⟩ : ∃ wo, wo = wr := ⟨_, rfl⟩
        subst hwo
        have hBo := hid (hBw.trans (hB.mono hBw.size))
        have hr := (listR partR).mono (below_cells hBo.out) (fun _ h => h) h
        have hXo := (hB.block w.heap.size hs1).trans hX1
        have hso := heap_lt hXo
        have HXO := hid hXo
        have HB := hid hB
        obtain ⟨p0, p1, p2, p3, p4, p5⟩ := six hXo
        by_cases hlt : k < t.parts.length
        · obtain ⟨x, hx⟩ := at_lt hlt
          obtain ⟨b, o, rfl, hb', q1, q2, q3, q4, hok⟩ := part_at hr hx
          have hlt' : (k : Int) < t.parts.length := by omega
          have HX := hid hx
          have hbo : b < wo.heap.size := Nat.lt_of_lt_of_le hb' hBo.out.size
          have hrp := hid fun W => RRight_calls x n W
          have hal := hid fun W => Rall_calls x W
          unfold pval at hrp hal
          have HRR : Hid (rightR 1 n k x = (rightP x n && !(decide ((1 : Int) = 2) && (decide (0 < k) || !allF x)))) := hid rfl
          clear hx hr hB hXo hok hb'
          cases k1 : rightP x n
          · have hF : Hid (rightF t 1 2 n = false) := hid (right_bad HX.out (by rw [HRR.out, k1]; rfl))
            rw [k1] at hrp
            clear k1 HRR hal
            go_wp2_with fail
            refine (hrp.out _).mono ?_
            rintro e w2 ⟨rfl, hB2⟩
            go_wp2_with fail
            go_ret
            exact ⟨by rw [hF.out]; rfl, hBo.out.trans (low hB2 hBo.out.size)⟩
          rw [k1] at hrp
          have hG : Hid (rightR 1 n k x = true) := hid (by rw [HRR.out, k1]; rfl)
          clear k1 HRR hal
          go_wp2_with fail
          refine (hrp.out _).mono ?_
          rintro e w2 ⟨rfl, hB2⟩
          go_wp2_with fail
          refine ⟨⟨k + 1, by omega, by push_cast; rfl, hid (fun j p hj hp => by
              rcases Nat.lt_or_ge j k with h1 | h1
              · exact HA.out j p h1 hp
              · obtain rfl : j = k := by omega
                rw [HX.out] at hp
                cases hp
                exact hG.out), HB.out.trans (low hB2 HB.out.size)⟩, ?_⟩
          simp [intOf]; omega

        · obtain rfl : k = t.parts.length := by omega
          have HE := hid (HEND.out (fun j p hp => HA.out j p (List.getElem?_eq_some_iff.1 hp).1 hp))
          clear hr hB hXo hlt
          have hpl := hid fun W => RPlain_calls t (.slice A t.parts.length c) W ⟨_, _, _, rfl⟩
          unfold tval at hpl
          have HE2 : Hid (rightF t 1 2 n = plainT t) := hid (by rw [HE.out]; rfl)
          clear HE
          go_wp2_with fail
          refine (hpl.out _).mono ?_
          rintro e w2 ⟨rfl, hB2⟩
          go_wp2_with fail
          go_ret
          exact ⟨by rw [HE2.out]; rfl, hBo.out.trans (low hB2 hBo.out.size)⟩
  · rcases ho with rfl | rfl
    · have HEND := hid fun hall => right_end (t := t) (inn := 2) (out := 1) (n := n) (.inr rfl) (.inl rfl) kn hall
      clear kn
      go_enter Try.func46, Try.ntmps46
      go_wp2_with fail
      refine (HNU.out _ ((Below.refl w.heap.size w).alloc (Nat.le_refl _) _)).mono ?_
      rintro e w1 ⟨rfl, hB1⟩
      have hBw : Below w.heap.size w w1 := ((Below.refl w.heap.size w).alloc (Nat.le_refl _) _).trans (low hB1 (by simp))
      have hX1 := (hB1.block w.heap.size (by simp)).trans hX0
      have hs1 := heap_lt hX1
      obtain ⟨p0, p1, p2, p3, p4, p5⟩ := six hX1
      clear hB1 hX0
      go_wp2_with fail
      clear p0 p1 p2 p3 p4 p5
      go_loopw [9] (fun vi wr => ∃ k : Nat, k ≤ t.parts.length ∧ vi = .int .i64 k ∧ Hid (∀ (j : Nat) (p : Part), j < k → t.parts[j]? = some p → rightR 2 n j p = true) ∧ Below w1.heap.size w1 wr) (fun vi _ => t.parts.length - (intOf vi).toNat)
      case atStart => exact ⟨0, Nat.zero_le _, rfl, hid (fun j p h => absurd h (by omega)), Below.refl _ _⟩
      case round =>
        obtain ⟨k, hk, rfl, HA, hB⟩ := hrel
        obtain ⟨wo, hwo⟩ : ∃ wo, wo = wr := ⟨_, rfl⟩
        subst hwo
        have hBo := hid (hBw.trans (hB.mono hBw.size))
        have hr := (listR partR).mono (below_cells hBo.out) (fun _ h => h) h
        have hXo := (hB.block w.heap.size hs1).trans hX1
        have hso := heap_lt hXo
        have HXO := hid hXo
        have HB := hid hB
        obtain ⟨p0, p1, p2, p3, p4, p5⟩ := six hXo
        by_cases hlt : k < t.parts.length
        · obtain ⟨x, hx⟩ := at_lt hlt
          obtain ⟨b, o, rfl, hb', q1, q2, q3, q4, hok⟩ := part_at hr hx
          have hlt' : (k : Int) < t.parts.length := by omega
          have HX := hid hx
          have hbo : b < wo.heap.size := Nat.lt_of_lt_of_le hb' hBo.out.size
          have hrp := hid fun W => RRight_calls x n W
          have hal := hid fun W => Rall_calls x W
          unfold pval at hrp hal
          have HRR : Hid (rightR 2 n k x = (rightP x n && !(decide ((2 : Int) = 2) && (decide (0 < k) || !allF x)))) := hid rfl
          clear hx hr hB hXo hok hb'
          cases k1 : rightP x n
          · have hF : Hid (rightF t 2 1 n = false) := hid (right_bad HX.out (by rw [HRR.out, k1]; rfl))
            rw [k1] at hrp
            clear k1 HRR hal
            go_wp2_with fail
            refine (hrp.out _).mono ?_
            rintro e w2 ⟨rfl, hB2⟩
            go_wp2_with fail
            go_ret
            exact ⟨by rw [hF.out]; rfl, hBo.out.trans (low hB2 hBo.out.size)⟩
          rw [k1] at hrp
          by_cases k0 : 0 < k
          · have k0' : (0 : Int) < k := by omega
            have hF : Hid (rightF t 2 1 n = false) := hid (right_bad HX.out (by rw [HRR.out, k1, decide_eq_true k0]; rfl))
            clear k1 HRR hal
            go_wp2_with fail
            refine (hrp.out _).mono ?_
            rintro e w2 ⟨rfl, hB2⟩
            go_wp2_with fail
            go_ret
            exact ⟨by rw [hF.out]; rfl, hBo.out.trans (low hB2 hBo.out.size)⟩
          obtain rfl : k = 0 := by omega
          simp only [Nat.zero_mul, Nat.add_zero] at q1 q2 q3 q4
          cases k2 : allF x
          · have hF : Hid (rightF t 2 1 n = false) := hid (right_bad HX.out (by rw [HRR.out, k1, k2]; rfl))
            rw [k2] at hal
            clear k1 k2 HRR
            go_wp2_with fail
            refine (hrp.out _).mono ?_
            rintro e w2 ⟨rfl, hB2⟩
            obtain ⟨d0, d1, d2, d3, d4, d5⟩ := six ((hB2.block w.heap.size hso).trans HXO.out)
            have e1 := (hB2.cell (p := ⟨b, o, none⟩) hbo).trans q1
            have e2 := (hB2.cell (p := ⟨b, o + 1, none⟩) hbo).trans q2
            have e3 := (hB2.cell (p := ⟨b, o + 2, none⟩) hbo).trans q3
            have e4 := (hB2.cell (p := ⟨b, o + 3, none⟩) hbo).trans q4
            have hs2 := hB2.size
            go_wp2_with fail
            refine (hal.out _).mono ?_
            rintro e w3 ⟨rfl, hB3⟩
            go_wp2_with fail
            go_ret
            exact ⟨by rw [hF.out]; rfl, (hBo.out.trans (low hB2 hBo.out.size)).trans (low hB3 (Nat.le_trans hBo.out.size hs2))⟩
          · have hG : Hid (rightR 2 n 0 x = true) := hid (by rw [HRR.out, k1, k2]; rfl)
            rw [k2] at hal
            clear k1 k2 HRR
            go_wp2_with fail
            refine (hrp.out _).mono ?_
            rintro e w2 ⟨rfl, hB2⟩
            obtain ⟨d0, d1, d2, d3, d4, d5⟩ := six ((hB2.block w.heap.size hso).trans HXO.out)
            have e1 := (hB2.cell (p := ⟨b, o, none⟩) hbo).trans q1
            have e2 := (hB2.cell (p := ⟨b, o + 1, none⟩) hbo).trans q2
            have e3 := (hB2.cell (p := ⟨b, o + 2, none⟩) hbo).trans q3
            have e4 := (hB2.cell (p := ⟨b, o + 3, none⟩) hbo).trans q4
            have hs2 := hB2.size
            go_wp2_with fail
            refine (hal.out _).mono ?_
            rintro e w3 ⟨rfl, hB3⟩
            go_wp2_with fail
            refine ⟨⟨1, by omega, by push_cast; rfl, hid (fun j p hj hp => by
                rcases Nat.lt_or_ge j 0 with h1 | h1
                · exact HA.out j p h1 hp
                · obtain rfl : j = 0 := by omega
                  rw [HX.out] at hp
                  cases hp
                  exact hG.out), (HB.out.trans (low hB2 HB.out.size)).trans (low hB3 (Nat.le_trans HB.out.size hs2))⟩, ?_⟩
            simp [intOf]; omega

        · obtain rfl : k = t.parts.length := by omega
          have HE := hid (HEND.out (fun j p hp => HA.out j p (List.getElem?_eq_some_iff.1 hp).1 hp))
          clear hr hB hXo hlt
          go_wp2_with fail
          go_ret
          exact ⟨by rw [HE.out]; rfl, hBo.out⟩
    · have HEND := hid fun hall => right_end (t := t) (inn := 2) (out := 2) (n := n) (.inr rfl) (.inr rfl) kn hall
      clear kn
      go_enter Try.func46, Try.ntmps46
      go_wp2_with fail
      refine (HNU.out _ ((Below.refl w.heap.size w).alloc (Nat.le_refl _) _)).mono ?_
      rintro e w1 ⟨rfl, hB1⟩
      have hBw : Below w.heap.size w w1 := ((Below.refl w.heap.size w).alloc (Nat.le_refl _) _).trans (low hB1 (by simp))
      have hX1 := (hB1.block w.heap.size (by simp)).trans hX0
      have hs1 := heap_lt hX1
      obtain ⟨p0, p1, p2, p3, p4, p5⟩ := six hX1
      clear hB1 hX0
      go_wp2_with fail
      clear p0 p1 p2 p3 p4 p5
      go_loopw [9] (fun vi wr => ∃ k : Nat, k ≤ t.parts.length ∧ vi = .int .i64 k ∧ Hid (∀ (j : Nat) (p : Part), j < k → t.parts[j]? = some p → rightR 2 n j p = true) ∧ Below w1.heap.size w1 wr) (fun vi _ => t.parts.length - (intOf vi).toNat)
      case atStart => exact ⟨0, Nat.zero_le _, rfl, hid (fun j p h => absurd h (by omega)), Below.refl _ _⟩
      case round =>
        obtain ⟨k, hk, rfl, HA, hB⟩ := hrel
        obtain ⟨wo, hwo⟩ : ∃ wo, wo = wr := ⟨_, rfl⟩
        subst hwo
        have hBo := hid (hBw.trans (hB.mono hBw.size))
        have hr := (listR partR).mono (below_cells hBo.out) (fun _ h => h) h
        have hXo := (hB.block w.heap.size hs1).trans hX1
        have hso := heap_lt hXo
        have HXO := hid hXo
        have HB := hid hB
        obtain ⟨p0, p1, p2, p3, p4, p5⟩ := six hXo
        by_cases hlt : k < t.parts.length
        · obtain ⟨x, hx⟩ := at_lt hlt
          obtain ⟨b, o, rfl, hb', q1, q2, q3, q4, hok⟩ := part_at hr hx
          have hlt' : (k : Int) < t.parts.length := by omega
          have HX := hid hx
          have hbo : b < wo.heap.size := Nat.lt_of_lt_of_le hb' hBo.out.size
          have hrp := hid fun W => RRight_calls x n W
          have hal := hid fun W => Rall_calls x W
          unfold pval at hrp hal
          have HRR : Hid (rightR 2 n k x = (rightP x n && !(decide ((2 : Int) = 2) && (decide (0 < k) || !allF x)))) := hid rfl
          clear hx hr hB hXo hok hb'
          cases k1 : rightP x n
          · have hF : Hid (rightF t 2 2 n = false) := hid (right_bad HX.out (by rw [HRR.out, k1]; rfl))
            rw [k1] at hrp
            clear k1 HRR hal
            go_wp2_with fail
            refine (hrp.out _).mono ?_
            rintro e w2 ⟨rfl, hB2⟩
            go_wp2_with fail
            go_ret
            exact ⟨by rw [hF.out]; rfl, hBo.out.trans (low hB2 hBo.out.size)⟩
          rw [k1] at hrp
          by_cases k0 : 0 < k
          · have k0' : (0 : Int) < k := by omega
            have hF : Hid (rightF t 2 2 n = false) := hid (right_bad HX.out (by rw [HRR.out, k1, decide_eq_true k0]; rfl))
            clear k1 HRR hal
            go_wp2_with fail
            refine (hrp.out _).mono ?_
            rintro e w2 ⟨rfl, hB2⟩
            go_wp2_with fail
            go_ret
            exact ⟨by rw [hF.out]; rfl, hBo.out.trans (low hB2 hBo.out.size)⟩
          obtain rfl : k = 0 := by omega
          simp only [Nat.zero_mul, Nat.add_zero] at q1 q2 q3 q4
          cases k2 : allF x
          · have hF : Hid (rightF t 2 2 n = false) := hid (right_bad HX.out (by rw [HRR.out, k1, k2]; rfl))
            rw [k2] at hal
            clear k1 k2 HRR
            go_wp2_with fail
            refine (hrp.out _).mono ?_
            rintro e w2 ⟨rfl, hB2⟩
            obtain ⟨d0, d1, d2, d3, d4, d5⟩ := six ((hB2.block w.heap.size hso).trans HXO.out)
            have e1 := (hB2.cell (p := ⟨b, o, none⟩) hbo).trans q1
            have e2 := (hB2.cell (p := ⟨b, o + 1, none⟩) hbo).trans q2
            have e3 := (hB2.cell (p := ⟨b, o + 2, none⟩) hbo).trans q3
            have e4 := (hB2.cell (p := ⟨b, o + 3, none⟩) hbo).trans q4
            have hs2 := hB2.size
            go_wp2_with fail
            refine (hal.out _).mono ?_
            rintro e w3 ⟨rfl, hB3⟩
            go_wp2_with fail
            go_ret
            exact ⟨by rw [hF.out]; rfl, (hBo.out.trans (low hB2 hBo.out.size)).trans (low hB3 (Nat.le_trans hBo.out.size hs2))⟩
          · have hG : Hid (rightR 2 n 0 x = true) := hid (by rw [HRR.out, k1, k2]; rfl)
            rw [k2] at hal
            clear k1 k2 HRR
            go_wp2_with fail
            refine (hrp.out _).mono ?_
            rintro e w2 ⟨rfl, hB2⟩
            obtain ⟨d0, d1, d2, d3, d4, d5⟩ := six ((hB2.block w.heap.size hso).trans HXO.out)
            have e1 := (hB2.cell (p := ⟨b, o, none⟩) hbo).trans q1
            have e2 := (hB2.cell (p := ⟨b, o + 1, none⟩) hbo).trans q2
            have e3 := (hB2.cell (p := ⟨b, o + 2, none⟩) hbo).trans q3
            have e4 := (hB2.cell (p := ⟨b, o + 3, none⟩) hbo).trans q4
            have hs2 := hB2.size
            go_wp2_with fail
            refine (hal.out _).mono ?_
            rintro e w3 ⟨rfl, hB3⟩
            go_wp2_with fail
            refine ⟨⟨1, by omega, by push_cast; rfl, hid (fun j p hj hp => by
                rcases Nat.lt_or_ge j 0 with h1 | h1
                · exact HA.out j p h1 hp
                · obtain rfl : j = 0 := by omega
                  rw [HX.out] at hp
                  cases hp
                  exact hG.out), (HB.out.trans (low hB2 HB.out.size)).trans (low hB3 (Nat.le_trans HB.out.size hs2))⟩, ?_⟩
            simp [intOf]; omega

        · obtain rfl : k = t.parts.length := by omega
          have HE := hid (HEND.out (fun j p hp => HA.out j p (List.getElem?_eq_some_iff.1 hp).1 hp))
          clear hr hB hXo hlt
          have hpl := hid fun W => RPlain_calls t (.slice A t.parts.length c) W ⟨_, _, _, rfl⟩
          unfold tval at hpl
          have HE2 : Hid (rightF t 2 2 n = plainT t) := hid (by rw [HE.out]; rfl)
          clear HE
          go_wp2_with fail
          refine (hpl.out _).mono ?_
          rintro e w2 ⟨rfl, hB2⟩
          go_wp2_with fail
          go_ret
          exact ⟨by rw [HE2.out]; rfl, hBo.out.trans (low hB2 hBo.out.size)⟩
end Go.Proofs.Ytflllgbjlfpgcaa
