/-
  Words: word.In, word.Fits, cmp.Compare of two runes, word.Front, word.Compare; span.Has.
-/
import Derived.Test.YtmkmikacfilbpaaGreatKSole
namespace Go.Um
open Go.RowKit
/-- a number of Go's rune. -/
def I32 (x : Int) : Prop := -2147483648 ≤ x ∧ x ≤ 2147483647
/-- one rune. -/
def runeR : RepOf Int where
  width := 1
  rel := fun _ _ cs x => cs = [.int .i32 x] ∧ I32 x
  len := by rintro w S cs x ⟨rfl, _⟩; rfl
  mono := by intro w w' S S' cs x _ _ h; exact h
abbrev wordR : RepOf (List Int) := listR runeR
theorem rune_at {w : World} {S : Nat → Prop} {A : Option Addr} {n cap : Nat} {xs : List Int} {x : Int} {i : Nat} (h : wordR.rel w S [.slice A n cap] xs) (hx : xs[i]? = some x) :
    ∃ b o, A = some ⟨b, o, none⟩ ∧ S b ∧ w.cell? ⟨b, o + i, none⟩ = some (.int .i32 x) ∧ I32 x := by
  obtain ⟨b, o, v, h1, h2, ⟨h3, h4⟩, h5⟩ := list_at1 rfl h hx
  injection h3 with h3 _
  exact ⟨b, o, h1, h2, by rw [h5, h3], h4⟩
/-- which of two words comes first. -/
def cmpW : List Int → List Int → Int
  | [], [] => 0
  | [], _ :: _ => -1
  | _ :: _, [] => 1
  | x :: a, y :: b => if x < y then -1 else if y < x then 1 else cmpW a b
def frontF : List Int → List Int → Nat
  | x :: a, y :: b => if x = y then frontF a b + 1 else 0
  | _, _ => 0
theorem front_le : ∀ a b : List Int, frontF a b ≤ a.length ∧ frontF a b ≤ b.length
  | [], _ => ⟨Nat.zero_le _, Nat.zero_le _⟩
  | _ :: _, [] => ⟨Nat.zero_le _, Nat.zero_le _⟩
  | x :: a, y :: b => by
    unfold frontF
    have := front_le a b
    split <;> simp <;> omega
theorem front_drop {a b : List Int} {k : Nat} {x y : Int} (hx : a[k]? = some x) (hy : b[k]? = some y) : frontF (a.drop k) (b.drop k) = if x = y then frontF (a.drop (k + 1)) (b.drop (k + 1)) + 1 else 0 := by
  rw [drop_cons hx, drop_cons hy]
  rfl
theorem front_end {a b : List Int} {k : Nat} (h : a.length ≤ k ∨ b.length ≤ k) : frontF (a.drop k) (b.drop k) = 0 := by
  rcases h with h | h
  · rw [List.drop_eq_nil_iff.2 h]; rfl
  · rw [List.drop_eq_nil_iff.2 h]; cases a.drop k <;> rfl
theorem cmpW_front : ∀ a b : List Int, (frontF a b = a.length → frontF a b = b.length → cmpW a b = 0) ∧ (frontF a b = a.length → frontF a b ≠ b.length → cmpW a b = -1) ∧ (frontF a b ≠ a.length → frontF a b = b.length → cmpW a b = 1) ∧
    ∀ x y, a[frontF a b]? = some x → b[frontF a b]? = some y → cmpW a b = if x < y then -1 else if y < x then 1 else 0
  | [], [] => ⟨fun _ _ => rfl, fun _ h => absurd rfl h, fun h => absurd rfl h, fun x y h => by simp at h⟩
  | [], _ :: _ => ⟨fun _ h => by simp [frontF] at h, fun _ _ => rfl, fun h => absurd rfl h, fun x y h => by simp at h⟩
  | _ :: _, [] => ⟨fun h => by simp [frontF] at h, fun h => by simp [frontF] at h, fun _ _ => rfl, fun x y _ h => by simp at h⟩
  | x :: a, y :: b => by
    obtain ⟨h1, h2, h3, h4⟩ := cmpW_front a b
    unfold frontF cmpW
    by_cases he : x = y
    · subst he
      rw [if_pos rfl, if_neg (by omega), if_neg (by omega)]
      simp only [List.length_cons, Nat.add_right_cancel_iff, List.getElem?_cons_succ, ne_eq]
      exact ⟨h1, h2, h3, h4⟩
    · rw [if_neg he]
      simp only [List.length_cons, List.getElem?_cons_zero, Option.some.injEq]
      refine ⟨fun h => by omega, fun h => by omega, fun _ h => by omega, ?_⟩
      rintro p q rfl rfl
      by_cases hlt : x < y
      · rw [if_pos hlt, if_pos hlt]
      · rw [if_neg hlt, if_neg hlt, if_pos (by omega), if_pos (by omega)]
theorem cmpW_refl : ∀ a : List Int, cmpW a a = 0
  | [] => rfl
  | x :: a => by unfold cmpW; rw [if_neg (by omega), if_neg (by omega)]; exact cmpW_refl a
theorem cmpW_eq : ∀ {a b : List Int}, cmpW a b = 0 → a = b
  | [], [], _ => rfl
  | [], _ :: _, h => by simp [cmpW] at h
  | _ :: _, [], h => by simp [cmpW] at h
  | x :: a, y :: b, h => by
    unfold cmpW at h
    split at h
    · cases h
    · split at h
      · cases h
      · rw [cmpW_eq h, show x = y by omega]
theorem cmpW_bd (a : List Int) : ∀ b : List Int, cmpW a b = -1 ∨ cmpW a b = 0 ∨ cmpW a b = 1 := by
  induction a with
  | nil => intro b; cases b <;> simp [cmpW]
  | cons x a ih =>
    intro b
    cases b with
    | nil => simp [cmpW]
    | cons y b =>
      unfold cmpW
      split
      · simp
      · split
        · simp
        · exact ih b
theorem cmpW_trans : ∀ {a b c : List Int}, cmpW a b < 0 → cmpW b c < 0 → cmpW a c < 0
  | [], [], _, h, _ => by simp [cmpW] at h
  | [], _ :: _, [], _, h => by simp [cmpW] at h
  | [], _ :: _, _ :: _, _, _ => by simp [cmpW]
  | _ :: _, [], _, h, _ => by simp [cmpW] at h
  | _ :: _, _ :: _, [], _, h => by simp [cmpW] at h
  | x :: a, y :: b, z :: c, h1, h2 => by
    unfold cmpW at h1 h2 ⊢
    by_cases e1 : x < y
    · by_cases e2 : y < z
      · rw [if_pos (by omega)]; decide
      · rw [if_neg e2] at h2
        by_cases e3 : z < y
        · rw [if_pos e3] at h2; simp at h2
        · rw [if_pos (by omega)]; decide
    · rw [if_neg e1] at h1
      by_cases e2 : y < x
      · rw [if_pos e2] at h1; simp at h1
      · rw [if_neg e2] at h1
        by_cases e3 : y < z
        · rw [if_pos (by omega)]; decide
        · rw [if_neg e3] at h2
          by_cases e4 : z < y
          · rw [if_pos e4] at h2; simp at h2
          · rw [if_neg e4] at h2
            rw [if_neg (by omega), if_neg (by omega)]
            exact cmpW_trans h1 h2
theorem cmpW_flip : ∀ a b : List Int, cmpW b a = -cmpW a b
  | [], [] => rfl
  | [], _ :: _ => rfl
  | _ :: _, [] => rfl
  | x :: a, y :: b => by
    unfold cmpW
    by_cases e1 : x < y
    · rw [if_pos e1, if_neg (by omega), if_pos e1]; rfl
    · by_cases e2 : y < x
      · rw [if_pos e2, if_neg e1, if_pos e2]
      · rw [if_neg e2, if_neg e1, if_neg e1, if_neg e2]; exact cmpW_flip a b
end Go.Um
namespace Go.Proofs.YtmkmikacfilbpaaGreat
open Go.RowKit Go.Um
set_option maxHeartbeats 1000000 in
theorem In_calls (s x : Int) (w : World) : Calls Tryz.prog 114 #[.int .i64 s, .int .i32 x] w fun e w' => e = .returned (.bool (hasB (domF s) x)) ∧ w' = w := by
  by_cases hs1 : s = 1
  · subst hs1
    by_cases h1 : 0 ≤ x <;> by_cases h2 : x ≤ 255
    all_goals
      go_enter Tryz.func114, Tryz.ntmps114
      go_wp2_with fail
      go_ret
      exact ⟨by simp [domF, hasB, h1, h2], rfl⟩
  · have hs1' : (s == 1) = false := by simpa using hs1
    by_cases hs2 : s = 2
    · subst hs2
      by_cases h1 : 0 ≤ x
      · by_cases h2 : x ≤ 1114111
        · by_cases h3 : x < 55296
          · go_enter Tryz.func114, Tryz.ntmps114
            go_wp2_with fail
            go_ret
            exact ⟨by simp [domF, hasB]; omega, rfl⟩
          · by_cases h4 : 57343 < x
            · go_enter Tryz.func114, Tryz.ntmps114
              go_wp2_with fail
              go_ret
              exact ⟨by simp [domF, hasB]; omega, rfl⟩
            · go_enter Tryz.func114, Tryz.ntmps114
              go_wp2_with fail
              go_ret
              exact ⟨by simp [domF, hasB]; omega, rfl⟩
        · go_enter Tryz.func114, Tryz.ntmps114
          go_wp2_with fail
          go_ret
          exact ⟨by simp [domF, hasB]; omega, rfl⟩
      · go_enter Tryz.func114, Tryz.ntmps114
        go_wp2_with fail
        go_ret
        exact ⟨by simp [domF, hasB]; omega, rfl⟩
    · have hs2' : (s == 2) = false := by simpa using hs2
      go_enter Tryz.func114, Tryz.ntmps114
      go_wp2_with fail
      go_ret
      exact ⟨by simp [domF, hs1, hs2, hasB], rfl⟩
set_option maxHeartbeats 1000000 in
theorem wFits_calls (s : Int) (l : List Int) (v : Value) (w : World) (S : Nat → Prop) (h : wordR.rel w S [v] l) : Calls Tryz.prog 88 #[.int .i64 s, v] w fun e w' => e = .returned (.bool (l.all (hasB (domF s)))) ∧ w' = w := by
  have HI := hid fun x W => In_calls s x W
  obtain ⟨A, c, rfl, hc, hm⟩ := list_form h
  unfold maxLen at hm
  go_enter Tryz.func88, Tryz.ntmps88
  go_wp2_with fail
  go_loop [9] (fun vi => ∃ k : Nat, k ≤ l.length ∧ vi = .int .i64 k ∧ (l.drop k).all (hasB (domF s)) = l.all (hasB (domF s))) (fun vi => l.length - (intOf vi).toNat)
  case atStart => exact ⟨0, Nat.zero_le _, rfl, rfl⟩
  case round =>
    obtain ⟨k, hk, rfl, hp⟩ := hrel
    have HP := hid hp; clear hp
    by_cases hlt : k < l.length
    · obtain ⟨x, hx⟩ := at_lt hlt
      obtain ⟨b1, o1, rfl, hb1, h1, hp1⟩ := rune_at h hx
      have hlt' : (k : Int) < l.length := by omega
      have HP2 : Hid ((hasB (domF s) x && (l.drop (k + 1)).all (hasB (domF s))) = l.all (hasB (domF s))) := hid (by have := HP.out; rw [drop_cons hx] at this; exact this)
      obtain ⟨t, ht⟩ : ∃ t, t = hasB (domF s) x := ⟨_, rfl⟩
      have HX := hid (HI.out x w)
      rw [← ht] at HX HP2
      clear hx hp1 ht
      cases t with
      | true =>
        have hF : Hid ((l.drop (k + 1)).all (hasB (domF s)) = l.all (hasB (domF s))) := hid (by have := HP2.out; simpa using this)
        go_wp2_with fail
        refine HX.out.mono ?_
        rintro e w1 ⟨rfl, rfl⟩
        go_wp2_with fail
        refine ⟨⟨k + 1, by omega, by go_num, hF.out⟩, ?_⟩
        simp [intOf]; omega
      | false =>
        have hF : Hid (false = l.all (hasB (domF s))) := hid (by have := HP2.out; simpa using this)
        go_wp2_with fail
        refine HX.out.mono ?_
        rintro e w1 ⟨rfl, rfl⟩
        go_wp2_with fail
        go_ret
        exact ⟨by rw [← hF.out]; rfl, rfl⟩
    · have hke : k = l.length := by omega
      subst hke
      have hF : Hid (true = l.all (hasB (domF s))) := hid (by have := HP.out; simpa using this)
      clear HP
      go_wp2_with fail
      go_ret
      exact ⟨by rw [← hF.out]; rfl, rfl⟩
set_option maxHeartbeats 1000000 in
theorem isNaN_calls (x : Int) (w : World) : Calls Tryz.prog 143 #[.int .i32 x] w fun e w' => e = .returned (.bool false) ∧ w' = w := by
  go_enter Tryz.func143, Tryz.ntmps143
  go_wp2_with fail
  go_ret
  exact ⟨by simp, rfl⟩
set_option maxHeartbeats 1000000 in
theorem cmpRune_calls (x y : Int) (w : World) : Calls Tryz.prog 122 #[.int .i32 x, .int .i32 y] w fun e w' => e = .returned (.int .i64 (if x < y then -1 else if y < x then 1 else 0)) ∧ w' = w := by
  have HN := hid fun z W => isNaN_calls z W
  by_cases h1 : x < y
  · rw [if_pos h1]
    go_enter Tryz.func122, Tryz.ntmps122
    go_wp2_with fail
    refine (HN.out _ _).mono ?_
    rintro e w1 ⟨rfl, rfl⟩
    go_wp2_with fail
    refine (HN.out _ _).mono ?_
    rintro e w1 ⟨rfl, rfl⟩
    go_wp2_with fail
    go_ret
    exact ⟨rfl, rfl⟩
  · rw [if_neg h1]
    by_cases h2 : y < x
    · rw [if_pos h2]
      go_enter Tryz.func122, Tryz.ntmps122
      go_wp2_with fail
      refine (HN.out _ _).mono ?_
      rintro e w1 ⟨rfl, rfl⟩
      go_wp2_with fail
      refine (HN.out _ _).mono ?_
      rintro e w1 ⟨rfl, rfl⟩
      go_wp2_with fail
      go_ret
      exact ⟨rfl, rfl⟩
    · rw [if_neg h2]
      go_enter Tryz.func122, Tryz.ntmps122
      go_wp2_with fail
      refine (HN.out _ _).mono ?_
      rintro e w1 ⟨rfl, rfl⟩
      go_wp2_with fail
      refine (HN.out _ _).mono ?_
      rintro e w1 ⟨rfl, rfl⟩
      go_wp2_with fail
      go_ret
      exact ⟨rfl, rfl⟩
end Go.Proofs.YtmkmikacfilbpaaGreat
