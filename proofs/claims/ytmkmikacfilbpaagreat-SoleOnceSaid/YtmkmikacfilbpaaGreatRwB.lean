/-
  Words compared: word.Front, word.Compare; a number in a set: span.Has.
-/
import Derived.Test.YtmkmikacfilbpaaGreatRwA
import Derived.Test.YtmkmikacfilbpaaGreatKPlain
namespace Go.Um
open Go.RowKit
def hasI (l : List Span) (x : Int) : Bool := decide (-1073741824 ≤ x) && decide (x ≤ 1073741824) && hasB l x
theorem hasI_iff {l : List Span} {x : Int} : hasI l x = true ↔ inSet l x := by
  unfold hasI inSet
  rw [Bool.and_eq_true, Bool.and_eq_true, decide_eq_true_eq, decide_eq_true_eq, hasB_iff]
end Go.Um
namespace Go.Proofs.YtmkmikacfilbpaaGreat
open Go.RowKit Go.Um
set_option maxHeartbeats 1000000 in
theorem Has_calls (l : List Span) (x : Int) (v : Value) (w : World) (h : spansR.rel w (upto w.heap.size) [v] l) : Calls Tryz.prog 82 #[v, .int .i64 x] w fun e w' => e = .returned (.bool (hasI l x)) ∧ Below w.heap.size w w' := by
  obtain ⟨A, c, rfl, hc, hm⟩ := list_form h
  unfold maxLen at hm
  by_cases c1 : x < -1073741824
  · have hF : Hid (false = hasI l x) := hid (by unfold hasI; rw [decide_eq_false (by omega)]; rfl)
    clear h
    go_enter Tryz.func82, Tryz.ntmps82
    go_wp2_with fail
    go_ret
    exact ⟨by rw [← hF.out]; rfl, Below.refl _ _⟩
  by_cases c2 : 1073741824 < x
  · have hF : Hid (false = hasI l x) := hid (by unfold hasI; rw [decide_eq_false (p := x ≤ 1073741824) (by omega)]; simp)
    clear h
    go_enter Tryz.func82, Tryz.ntmps82
    go_wp2_with fail
    go_ret
    exact ⟨by rw [← hF.out]; rfl, Below.refl _ _⟩
  have hI : Hid (hasI l x = hasB l x) := hid (by unfold hasI; rw [decide_eq_true (by omega), decide_eq_true (by omega)]; rfl)
  go_enter Tryz.func82, Tryz.ntmps82
  go_wp2_with fail
  go_loopw [15] (fun vi wr => ∃ k : Nat, k ≤ l.length ∧ vi = .int .i64 k ∧ hasB (l.drop k) x = hasB l x ∧ Below w.heap.size w wr) (fun vi _ => l.length - (intOf vi).toNat)
  case atStart => exact ⟨0, Nat.zero_le _, rfl, rfl, Below.refl _ _⟩
  case round =>
    obtain ⟨k, hk, rfl, hp, hB⟩ := hrel
    have HP := hid hp; clear hp
    by_cases hlt : k < l.length
    · obtain ⟨s, hx⟩ := at_lt hlt
      obtain ⟨b1, o1, rfl, hb1, h1, h2, hp1, hp2⟩ := span_at h hx
      replace h1 := (hB.cell (p := ⟨b1, o1 + k * 2, none⟩) hb1).trans h1
      replace h2 := (hB.cell (p := ⟨b1, o1 + k * 2 + 1, none⟩) hb1).trans h2
      have hlt' : (k : Int) < l.length := by omega
      have HP2 : Hid ((decide (s.lo ≤ x) && decide (x ≤ s.hi) || hasB (l.drop (k + 1)) x) = hasB l x) := hid (by have := HP.out; rw [drop_cons hx] at this; exact this)
      have hBn : Below w.heap.size w (wr.alloc (.cells #[.int .i64 s.lo, .int .i64 s.hi] 64)) := hB.alloc hB.size _
      have HBn := hid hBn
      clear hx hp1 hp2 hB hBn h
      by_cases e1 : s.lo ≤ x
      · by_cases e2 : x ≤ s.hi
        · have hF : Hid (true = hasB l x) := hid (by have := HP2.out; simpa [e1, e2] using this)
          go_wp2_with fail
          go_ret
          exact ⟨by rw [hI.out, ← hF.out]; rfl, HBn.out⟩
        · have hF : Hid (hasB (l.drop (k + 1)) x = hasB l x) := hid (by have := HP2.out; simpa [e2] using this)
          go_wp2_with fail
          refine ⟨⟨k + 1, by omega, by go_num, hF.out, HBn.out⟩, ?_⟩
          simp [intOf]; omega
      · have hF : Hid (hasB (l.drop (k + 1)) x = hasB l x) := hid (by have := HP2.out; simpa [e1] using this)
        go_wp2_with fail
        refine ⟨⟨k + 1, by omega, by go_num, hF.out, HBn.out⟩, ?_⟩
        simp [intOf]; omega
    · have hke : k = l.length := by omega
      subst hke
      have hF : Hid (false = hasB l x) := hid (by have := HP.out; simpa [hasB] using this)
      clear HP
      go_wp2_with fail
      go_ret
      exact ⟨by rw [hI.out, ← hF.out]; rfl, hB⟩
set_option maxHeartbeats 1000000 in
theorem Front_calls (a b : List Int) (v u : Value) (w : World) (S T : Nat → Prop) (ha : wordR.rel w S [v] a) (hb : wordR.rel w T [u] b) :
    Calls Tryz.prog 121 #[v, u] w fun e w' => e = .returned (.int .i64 (frontF a b)) ∧ ∃ n, w' = w.drewN n := by
  obtain ⟨A, c, rfl, hc, hm⟩ := list_form ha
  obtain ⟨B, d, rfl, hd, hn⟩ := list_form hb
  unfold maxLen at hm hn
  go_enter Tryz.func121, Tryz.ntmps121
  go_wp2_with fail
  go_loopw [5] (fun vi wr => ∃ k n : Nat, k ≤ a.length ∧ k ≤ b.length ∧ vi = .int .i64 k ∧ frontF a b = k + frontF (a.drop k) (b.drop k) ∧ wr = w.drewN n) (fun vi _ => a.length - (intOf vi).toNat)
  case atStart => exact ⟨0, 0, Nat.zero_le _, Nat.zero_le _, rfl, by simp, rfl⟩
  case round =>
    obtain ⟨k, n, hk, hk2, rfl, hp, hw⟩ := hrel
    subst hw
    have HP := hid hp; clear hp
    by_cases hlt : k < a.length
    · have hlt' : (k : Int) < a.length := by omega
      obtain ⟨x, hx⟩ := at_lt hlt
      obtain ⟨b1, o1, rfl, hb1, h1, hx1⟩ := rune_at ha hx
      by_cases hlt2 : k < b.length
      · have hlt2' : (k : Int) < b.length := by omega
        obtain ⟨y, hy⟩ := at_lt hlt2
        obtain ⟨b2, o2, rfl, hb2, h2, hx2⟩ := rune_at hb hy
        have HP2 := hid (HP.out.trans (by rw [front_drop hx hy]))
        clear hx hy hx1 hx2 ha hb
        by_cases he : x = y
        · subst he
          have hF : Hid (frontF a b = k + 1 + frontF (a.drop (k + 1)) (b.drop (k + 1))) := hid (by rw [HP2.out, if_pos rfl]; omega)
          go_wp2_with fail
          go_quiet (fail)
          go_wp2_with fail
          refine ⟨⟨k + 1, _, by omega, by omega, by go_num, hF.out, rfl⟩, ?_⟩
          simp [intOf]; omega
        · have he' : (x == y) = false := by simpa using he
          have hF : Hid (frontF a b = k) := hid (by rw [HP2.out, if_neg he]; omega)
          go_wp2_with fail
          go_quiet (fail)
          go_wp2_with fail
          go_ret
          exact ⟨by rw [hF.out]; rfl, n + nq, by simp⟩
      · have hF : Hid (frontF a b = k) := hid (by rw [HP.out, front_end (.inr (by omega))]; omega)
        have hlt2' : ¬ (k : Int) < b.length := by omega
        clear hx hx1 ha hb 
        go_wp2_with fail
        go_quiet (fail)
        go_wp2_with fail
        go_ret
        exact ⟨by rw [hF.out]; rfl, n + nq, by simp⟩
    · have hF : Hid (frontF a b = k) := hid (by rw [HP.out, front_end (.inl (by omega))]; omega)
      have hlt' : ¬ (k : Int) < a.length := by omega
      clear ha hb
      go_wp2_with fail
      go_quiet (fail)
      go_wp2_with fail
      go_ret
      exact ⟨by rw [hF.out]; rfl, n + nq, by simp⟩
set_option maxHeartbeats 1000000 in
theorem Compare_calls (a b : List Int) (v u : Value) (w : World) (S T : Nat → Prop) (ha : wordR.rel w S [v] a) (hb : wordR.rel w T [u] b) :
    Calls Tryz.prog 95 #[v, u] w fun e w' => e = .returned (.int .i64 (cmpW a b)) ∧ ∃ n, w' = w.drewN n := by
  have HFr := hid (Front_calls a b v u w S T ha hb)
  have HC := hid fun x y W => cmpRune_calls x y W
  obtain ⟨A, c, rfl, hc, hm⟩ := list_form ha
  obtain ⟨B, d, rfl, hd, hn⟩ := list_form hb
  unfold maxLen at hm hn
  obtain ⟨g1, g2, g3, g4⟩ := cmpW_front a b
  obtain ⟨l1, l2⟩ := front_le a b
  obtain ⟨k, hk⟩ : ∃ k, k = frontF a b := ⟨_, rfl⟩
  rw [← hk] at HFr g1 g2 g3 g4 l1 l2
  clear hk
  by_cases e1 : k = a.length
  · have e1' : ((k : Int) == a.length) = true := by simpa using (show (k : Int) = a.length by omega)
    by_cases e2 : k = b.length
    · have e2' : ((k : Int) == b.length) = true := by simpa using (show (k : Int) = b.length by omega)
      have hF := hid (g1 e1 e2)
      clear g1 g2 g3 g4 e1 e2 ha hb
      go_enter Tryz.func95, Tryz.ntmps95
      go_wp2_with fail
      refine HFr.out.mono ?_
      rintro e w1 ⟨rfl, n, rfl⟩
      go_wp2_with fail
      go_ret
      exact ⟨by rw [hF.out]; rfl, _, rfl⟩
    · have e2' : ((k : Int) == b.length) = false := by simpa using (show ¬ (k : Int) = b.length by omega)
      have hF := hid (g2 e1 e2)
      clear g1 g2 g3 g4 e1 e2 ha hb
      go_enter Tryz.func95, Tryz.ntmps95
      go_wp2_with fail
      refine HFr.out.mono ?_
      rintro e w1 ⟨rfl, n, rfl⟩
      go_wp2_with fail
      go_ret
      exact ⟨by rw [hF.out]; rfl, _, rfl⟩
  · have e1' : ((k : Int) == a.length) = false := by simpa using (show ¬ (k : Int) = a.length by omega)
    by_cases e2 : k = b.length
    · have e2' : ((k : Int) == b.length) = true := by simpa using (show (k : Int) = b.length by omega)
      have hF := hid (g3 e1 e2)
      clear g1 g2 g3 g4 e1 e2 ha hb
      go_enter Tryz.func95, Tryz.ntmps95
      go_wp2_with fail
      refine HFr.out.mono ?_
      rintro e w1 ⟨rfl, n, rfl⟩
      go_wp2_with fail
      go_ret
      exact ⟨by rw [hF.out]; rfl, _, rfl⟩
    · have e2' : ((k : Int) == b.length) = false := by simpa using (show ¬ (k : Int) = b.length by omega)
      obtain ⟨x, hx⟩ := at_lt (xs := a) (i := k) (by omega)
      obtain ⟨y, hy⟩ := at_lt (xs := b) (i := k) (by omega)
      obtain ⟨b1, o1, rfl, hb1, h1, hx1⟩ := rune_at ha hx
      obtain ⟨b2, o2, rfl, hb2, h2, hx2⟩ := rune_at hb hy
      have hF := hid (g4 x y hx hy)
      have HC2 := hid fun W => HC.out x y W
      obtain ⟨t, ht⟩ : ∃ t, t = (if x < y then (-1 : Int) else if y < x then 1 else 0) := ⟨_, rfl⟩
      rw [← ht] at hF HC2
      clear ht HC
      have k1 : (k : Int) < a.length := by omega
      have k2 : (k : Int) < b.length := by omega
      clear g1 g2 g3 g4 e1 e2 ha hb hx hy hx1 hx2
      go_enter Tryz.func95, Tryz.ntmps95
      go_wp2_with fail
      refine HFr.out.mono ?_
      rintro e w1 ⟨rfl, n, rfl⟩
      go_wp2_with fail
      obtain ⟨ι, Wc, ⟨i0, hi0'⟩, hWc, Wsur⟩ := held_class (w.drewN n).drew (fun q => q = b1 ∨ q = b2)
      have hne : Nonempty ι := ⟨i0⟩
      have WS := hid Wsur; clear Wsur
      have HWc := hid hWc; clear hWc
      have Hi0 := hid hi0'; clear hi0'
      have q1 : ∀ i, (Wc i).cell? ⟨b1, o1 + k, none⟩ = some (.int .i32 x) := fun i => (World.cell?_of_block (a := ⟨b1, o1 + k, none⟩) (HWc.out i b1 (.inl rfl))).trans h1
      have q2 : ∀ i, (Wc i).cell? ⟨b2, o2 + k, none⟩ = some (.int .i32 y) := fun i => (World.cell?_of_block (a := ⟨b2, o2 + k, none⟩) (HWc.out i b2 (.inr rfl))).trans h2
      refine region_anyL (S := fun w' => ∃ i, w' = Wc i) (last := 10) (by kernel_rfl) ?_
      refine anyL_seg 0 8 (by kernel_rfl) (fun _ _ _ _ _ h => h) ⟨i0, Hi0.out.symm⟩ (f := 2) rfl (by kernel_rfl) (by kernel_rfl) ?_
      simp only [List.drop_zero, List.take_succ_cons, List.take_zero]
      repeat go_big_quiet_step (fail)
      refine wpQuiet_nil ?_
      refine anyL_act (i := 8) (by kernel_rfl) rfl rfl ?_
      intro K hK
      go_wp2_with fail
      refine (HC2.out _).mono ?_
      rintro e w2 ⟨rfl, rfl⟩
      go_wp2_with fail
      refine hK.out _ _ (fun _ => ⟨i0, Hi0.out.symm⟩) ?_
      clear hK K
      refine anyL_seg 9 1 (by kernel_rfl) (fun _ _ _ _ _ h => h) ⟨i0, Hi0.out.symm⟩ (f := 0) rfl (by kernel_rfl) (by kernel_rfl) ?_
      simp only [List.drop_succ_cons, List.drop_zero, List.take_succ_cons, List.take_zero]
      repeat go_big_quiet_step (fail)
      refine wpQuiet_nil ?_
      refine anyL_done (by kernel_rfl) ?_ 0
      go_wp2_with fail
      go_ret
      exact ⟨by rw [hF.out]; rfl, _, rfl⟩
end Go.Proofs.YtmkmikacfilbpaaGreat
