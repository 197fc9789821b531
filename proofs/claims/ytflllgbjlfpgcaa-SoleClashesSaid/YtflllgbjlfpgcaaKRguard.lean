/-
  The reference's Fits answers as the program's: plain Lean. The reference's guards.
-/
import Derived.Test.YtflllgbjlfpgcaaKRuleW
import Derived.Test.YtflllgbjlfpgcaaKPlain
import Derived.Test.YtflllgbjlfpgcaaKSole
import Derived.Test.YtflllgbjlfpgcaaKMakeX
import Derived.Test.YtflllgbjlfpgcaaKRnorm
namespace Go.Um
open Go.Proofs.Ytflllgbjlfpgcaa
theorem domF_plain (s : Int) : plain (domF s) = true := by
  unfold domF
  split
  · rfl
  · split <;> rfl
theorem fitsR_eq {t : Term} {inn out : Int} {gs : List (List Span)} {l : List Span} {ok : Bool} (hr : rightF t inn out gs.length = true) (hg : goodG gs) (hi : InnerR t gs l ok) :
    fitsF t inn out gs = (ok && (if out = 2 then (minusF l (domF 2)).isEmpty else outAll t l)) := by
  obtain ⟨_, ho, hn, hp, _, hpl⟩ := rightF_iff.1 hr
  have hrp : ∀ p ∈ t.parts, rightP p gs.length = true := fun p hp' => (hp p hp').1
  have hb : bitsF (outerT t) = true := (numbersF_iff.1 hn).2.2.1
  have hF : fitsF t inn out gs = fitsG t (domF out) gs := by unfold fitsF; rw [hr, Bool.true_and]
  have hiff := fitsG_iff (dom := domF out) hn hrp hg (domF_plain out)
  rw [hF]
  cases ok with
  | false =>
    rw [Bool.false_and]
    cases hc : fitsG t (domF out) gs with
    | false => rfl
    | true =>
      have h1 := hiff.1 hc
      have := hi.1.2 fun z hz => (h1 z hz).1
      cases this
  | true =>
    rw [Bool.true_and]
    obtain ⟨hne, hmem⟩ := hi.2 rfl
    have hall := hi.1.1 rfl
    rw [Bool.eq_iff_iff, hiff]
    by_cases h2 : out = 2
    · subst h2
      rw [if_pos rfl, List.isEmpty_iff, minusF_nil]
      unfold fitsP
      constructor
      · intro h z hz
        have hz' := (hmem z).1 hz.2
        have h3 := (h z hz').2
        rw [valF_plain (hpl rfl) (hall z hz')] at h3
        exact (inSet_plain (domF_plain 2)).2 h3
      · intro h z hz
        refine ⟨hall z hz, ?_⟩
        rw [valF_plain (hpl rfl) (hall z hz)]
        have h4 := hall z hz
        exact (inSet_plain (domF_plain 2)).1 (h z ⟨⟨by omega, by omega⟩, (hmem z).2 hz⟩)
    · have h1 : out = 1 := by omega
      subst h1
      rw [if_neg (by omega), outAll_iff hb hne]
      unfold fitsP
      have hd : ∀ x, mem (domF 1) x ↔ 0 ≤ x ∧ x ≤ 255 := fun x => by simp [domF, mem]
      constructor
      · intro h z hz
        exact (hd _).1 (h z ((hmem z).1 hz)).2
      · intro h z hz
        exact ⟨hall z hz, (hd _).2 (h z ((hmem z).2 hz))⟩
/-- one step of the outer values. -/
theorem outGo_step {b m u fr to q : Int} {f : Nat} : outGo b m u fr to (f + 1) q = if to < q then true else
      if 300 < q - fr ∧ 300 < m then (if 700 < q - fr then false else (if outOk b m u q = true then outGo b m u fr to f (q + 1) else false))
      else if m < q - fr then true else (if outOk b m u q = true then outGo b m u fr to f (q + 1) else false) := rfl
theorem out_bd {t : Term} (hb : bitsF (outerT t) = true) (q : Int) : 0 ≤ q % pw t.take * pw t.up ∧ q % pw t.take * pw t.up ≤ 67108864 := by
  have h1 := valF_nonneg (outerT t) (q * pw t.drop)
  have h2 := valF_le hb (q * pw t.drop)
  have hd := pw_pos t.drop
  have e : valF (outerT t) (q * pw t.drop) = q % pw t.take * pw t.up := by
    unfold valF outerT
    simp only
    rw [Int.mul_ediv_cancel _ (by omega)]
  rw [e] at h1 h2
  exact ⟨h1, h2⟩
end Go.Um
namespace Go.Proofs.Ytflllgbjlfpgcaa
open Go.RowKit Go.Um Go.Proofs
theorem gOf_two : gOf 2 = fun x y => x && !y := by funext x y; rfl
theorem guardsF_all (s : Int) (l : List (List Span)) : guardsF s l = (l.all (guardOk s) && decide (l.length ≤ 4)) := by
  unfold guardsF
  by_cases h : 4 < l.length
  · rw [if_pos h, decide_eq_false (by omega), Bool.and_false]
  · rw [if_neg h, decide_eq_true (by omega), Bool.and_true]
theorem plain_norm {x : List Span} : plain x = decide (x = normF x) := by
  rw [Bool.eq_iff_iff, decide_eq_true_iff]
  exact ⟨fun h => (normF_id h).symm, fun h => by rw [h]; exact normF_plain x⟩
theorem domF_length (s : Int) : (domF s).length ≤ 2 := by
  unfold domF; split
  · simp
  · split <;> simp
set_option maxHeartbeats 2000000 in
set_option maxRecDepth 100000 in
theorem RGuards_calls (s : Int) (l : List (List Span)) (v : Value) (w : World) (h : (listR spansR).rel w (upto w.heap.size) [v] l) : Calls Try.prog 22 #[.int .i64 s, v] w fun e w' => e = .returned (.bool (guardsF s l)) ∧ Below w.heap.size w w' := by
  obtain ⟨A, c, rfl, hc, hm⟩ := list_form h
  unfold maxLen at hm
  obtain ⟨T, hT⟩ : ∃ T, T = guardsF s l := ⟨_, rfl⟩
  rw [← hT]
  have HT : Hid ((l.all (guardOk s) && decide (l.length ≤ 4)) = T) := hid (by rw [hT, guardsF_all])
  clear hT
  go_enter Try.func22, Try.ntmps22
  go_wp2_with fail
  go_loopw [5] (fun vi wr => ∃ k : Nat, k ≤ l.length ∧ vi = .int .i64 k ∧ Hid (((l.drop k).all (guardOk s) && decide (l.length ≤ 4)) = T) ∧ Below w.heap.size w wr) (fun vi _ => l.length - (intOf vi).toNat)
  case atStart => exact ⟨0, Nat.zero_le _, rfl, HT.out, Below.refl _ _⟩
  case round =>
    clear HT
    obtain ⟨k, hk, rfl, HP, hB⟩ := hrel
    obtain ⟨wo, hwo⟩ : ∃ wo, wo = wr := ⟨_, rfl⟩
    subst hwo
    have hr := (listR spansR).mono (below_cells hB) (fun _ h => h) h
    by_cases hlt : k < l.length
    · obtain ⟨x, hx⟩ := at_lt hlt
      obtain ⟨b1, o1, y, rfl, hb1, hy, h1⟩ := list_at1 rfl hr hx
      obtain ⟨A3, c3, rfl, hc3, hm3⟩ := list_form hy
      unfold maxLen at hm3
      have hlt' : (k : Int) < l.length := by omega
      have HP2 : Hid (((guardOk s x && (l.drop (k + 1)).all (guardOk s)) && decide (l.length ≤ 4)) = T) := hid (by have := HP.out; rw [drop_cons hx] at this; exact this)
      have hyw : spansR.rel wo (upto wo.heap.size) [.slice A3 x.length c3] x := spansR.mono (fun _ _ => rfl) (fun b hb => Nat.lt_of_lt_of_le hb hB.size) hy
      clear hx hr hy HP
      by_cases e1 : x = []
      · subst e1
        have hG : Hid (false = T) := hid (by rw [← HP2.out]; simp [guardOk])
        go_wp2_with fail
        go_ret
        exact ⟨by rw [← hG.out]; rfl, hB⟩
      · have e1' : ((x.length : Int) == 0) = false := by
          have : x.length ≠ 0 := fun h => e1 (List.eq_nil_of_length_eq_zero h)
          simp; exact e1
        by_cases e2 : 64 < x.length
        · have e2' : (64 : Int) < x.length := by omega
          have hG : Hid (false = T) := hid (by rw [← HP2.out]; simp [guardOk, e2])
          clear e1
          go_wp2_with fail
          go_ret
          exact ⟨by rw [← hG.out]; rfl, hB⟩
        · have e2' : ¬ (64 : Int) < x.length := by omega
          have HN := hid (RNorm_calls x _ wo hyw (by omega))
          by_cases e3 : x = normF x
          · by_cases e4 : minusF x (domF s) = []
            · have e4' : ¬ (0 : Int) < (minusF x (domF s)).length := by rw [e4]; simp
              have hgk : guardOk s x = true := by unfold guardOk; rw [plain_norm, decide_eq_true e3, e4]; simp [e1, e2]
              have hG : Hid (((l.drop (k + 1)).all (guardOk s) && decide (l.length ≤ 4)) = T) := hid (by rw [← HP2.out, hgk, Bool.true_and])
              clear hgk
              have E3 := hid e3
              clear e1 e2 e3 HP2
              go_wp2_with fail
              refine HN.out.mono ?_
              rintro e w2 ⟨u2, rfl, ho2, hB2⟩
              have hx2 := spansR.below hyw hB2 hB2.size
              have HS := hid (RSame_calls x (normF x) _ _ w2 hx2 ho2.rel)
              rw [sameF_iff, decide_eq_true E3.out] at HS
              obtain ⟨A7, c7, rfl, hc7, hm7⟩ := list_form ho2.rel
              go_wp2_with fail
              refine HS.out.mono ?_
              rintro e w3 ⟨rfl, hB3⟩
              have hx3 := spansR.below hx2 hB3 hB3.size
              have hBw3 := (hB.trans (hB2.mono hB.size)).trans (hB3.mono (Nat.le_trans hB.size hB2.size))
              clear HS HN ho2
              go_wp2_with fail
              refine (RDomain_calls s _).mono ?_
              rintro e w4 ⟨u4, rfl, ho4, hB4⟩
              have hdl := domF_length s
              have hM := RMake2_calls 2 rfl x (domF s) _ _ w4 (spansR.below hx3 hB4 hB4.size) ho4.rel (by omega)
              rw [gOf_two, refMake_less] at hM
              have HM := hid hM
              obtain ⟨A8, c8, rfl, hc8, hm8⟩ := list_form ho4.rel
              clear hM
              go_wp2_with fail
              refine HM.out.mono ?_
              rintro e w5 ⟨u5, rfl, ho5, hB5⟩
              obtain ⟨A9, c9, rfl, hc9, hm9⟩ := list_form ho5.rel
              unfold maxLen at hm9
              have hBw5 := (hBw3.trans (hB4.mono hBw3.size)).trans (hB5.mono (Nat.le_trans hBw3.size hB4.size))
              clear HM ho5 ho4
              clear e4
              go_wp2_with fail
              have HE : Hid (∃ j' : Nat, j' ≤ l.length ∧ Value.int .i64 ((k : Int) + 1) = .int .i64 j' ∧ Hid (((l.drop j').all (guardOk s) && decide (l.length ≤ 4)) = T) ∧ Below w.heap.size w w5) := hid ⟨k + 1, by omega, by push_cast; rfl, hG, hBw5⟩
              first
                | (refine ⟨HE.out, ?_⟩; simp [intOf]; omega)
                | (go_simp; refine ⟨by simpa using HE.out, ?_⟩; simp [intOf]; omega)
            · have e4' : (0 : Int) < (minusF x (domF s)).length := by
                have : (minusF x (domF s)).length ≠ 0 := fun h => e4 (List.eq_nil_of_length_eq_zero h)
                omega
              have hG : Hid (false = T) := hid (by rw [← HP2.out]; simp [guardOk, e4])
              have E3 := hid e3
              clear e1 e2 e3 HP2
              go_wp2_with fail
              refine HN.out.mono ?_
              rintro e w2 ⟨u2, rfl, ho2, hB2⟩
              have hx2 := spansR.below hyw hB2 hB2.size
              have HS := hid (RSame_calls x (normF x) _ _ w2 hx2 ho2.rel)
              rw [sameF_iff, decide_eq_true E3.out] at HS
              obtain ⟨A7, c7, rfl, hc7, hm7⟩ := list_form ho2.rel
              go_wp2_with fail
              refine HS.out.mono ?_
              rintro e w3 ⟨rfl, hB3⟩
              have hx3 := spansR.below hx2 hB3 hB3.size
              have hBw3 := (hB.trans (hB2.mono hB.size)).trans (hB3.mono (Nat.le_trans hB.size hB2.size))
              clear HS HN ho2
              go_wp2_with fail
              refine (RDomain_calls s _).mono ?_
              rintro e w4 ⟨u4, rfl, ho4, hB4⟩
              have hdl := domF_length s
              have hM := RMake2_calls 2 rfl x (domF s) _ _ w4 (spansR.below hx3 hB4 hB4.size) ho4.rel (by omega)
              rw [gOf_two, refMake_less] at hM
              have HM := hid hM
              obtain ⟨A8, c8, rfl, hc8, hm8⟩ := list_form ho4.rel
              clear hM
              go_wp2_with fail
              refine HM.out.mono ?_
              rintro e w5 ⟨u5, rfl, ho5, hB5⟩
              obtain ⟨A9, c9, rfl, hc9, hm9⟩ := list_form ho5.rel
              unfold maxLen at hm9
              have hBw5 := (hBw3.trans (hB4.mono hBw3.size)).trans (hB5.mono (Nat.le_trans hBw3.size hB4.size))
              clear HM ho5 ho4
              clear e4
              go_wp2_with fail
              go_ret
              exact ⟨by rw [← hG.out]; rfl, hBw5⟩
          · have hgk : guardOk s x = false := by unfold guardOk; rw [plain_norm, decide_eq_false e3]; simp
            have hG : Hid (false = T) := hid (by rw [← HP2.out, hgk]; rfl)
            clear hgk
            clear e1 e2 HP2
            go_wp2_with fail
            refine HN.out.mono ?_
            rintro e w2 ⟨u2, rfl, ho2, hB2⟩
            have hx2 := spansR.below hyw hB2 hB2.size
            have HS := hid (RSame_calls x (normF x) _ _ w2 hx2 ho2.rel)
            rw [sameF_iff, decide_eq_false e3] at HS
            obtain ⟨A7, c7, rfl, hc7, hm7⟩ := list_form ho2.rel
            go_wp2_with fail
            refine HS.out.mono ?_
            rintro e w3 ⟨rfl, hB3⟩
            have hBw3 := (hB.trans (hB2.mono hB.size)).trans (hB3.mono (Nat.le_trans hB.size hB2.size))
            clear HS HN ho2
            go_wp2_with fail
            go_ret
            exact ⟨by rw [← hG.out]; rfl, hBw3⟩
    · obtain rfl : k = l.length := by omega
      have HP2 : Hid (decide (l.length ≤ 4) = T) := hid (by rw [← HP.out, List.drop_length]; rfl)
      clear HP hlt
      by_cases h4 : l.length ≤ 4
      · have h4' : (l.length : Int) ≤ 4 := by omega
        have hG : Hid (true = T) := hid (by rw [← HP2.out, decide_eq_true h4])
        go_wp2_with fail
        go_ret
        exact ⟨by rw [← hG.out]; rfl, hB⟩
      · have h4' : ¬ (l.length : Int) ≤ 4 := by omega
        have hG : Hid (false = T) := hid (by rw [← HP2.out, decide_eq_false h4])
        go_wp2_with fail
        go_ret
        exact ⟨by rw [← hG.out]; rfl, hB⟩
end Go.Proofs.Ytflllgbjlfpgcaa
