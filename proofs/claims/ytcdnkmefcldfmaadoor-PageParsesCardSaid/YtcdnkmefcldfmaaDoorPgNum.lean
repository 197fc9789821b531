/-
  Plain Lean: numerals in decimal digits, printed and read. No program is named here.
-/
import Derived.Test.YtcdnkmefcldfmaaDoorMem
import Derived.Lib.AtoiAllCases
import Derived.Lib.ItoaLen
namespace Go.Um

abbrev By := List UInt8
def dig (c : UInt8) : Bool := decide (48 ≤ c.toNat) && decide (c.toNat ≤ 57)
/-- what of a text is read as a numeral. -/
def numPre : By → By
  | [] => []
  | c :: r => if c = 45 then c :: r.takeWhile dig else (c :: r).takeWhile dig
theorem takeWhile_prefix (l : By) : ∃ r, l = l.takeWhile dig ++ r ∧ ∀ c t, r = c :: t → dig c = false := by
  induction l with
  | nil => exact ⟨[], rfl, by simp⟩
  | cons x xs ih =>
    by_cases hx : dig x = true
    · obtain ⟨r, h1, h2⟩ := ih
      exact ⟨r, by rw [List.takeWhile_cons_of_pos hx, List.cons_append, ← h1], h2⟩
    · refine ⟨x :: xs, by rw [List.takeWhile_cons_of_neg hx]; rfl, ?_⟩
      intro c t h
      cases h
      simpa using hx
theorem numPre_prefix (l : By) : ∃ r, l = numPre l ++ r ∧ ∀ c t, r = c :: t → dig c = false := by
  cases l with
  | nil => exact ⟨[], rfl, by simp⟩
  | cons x xs =>
    by_cases hx : x = 45
    · obtain ⟨r, h1, h2⟩ := takeWhile_prefix xs
      have e : numPre (x :: xs) = x :: xs.takeWhile dig := if_pos hx
      exact ⟨r, by rw [e, List.cons_append, ← h1], h2⟩
    · have e : numPre (x :: xs) = (x :: xs).takeWhile dig := if_neg hx
      rw [e]
      exact takeWhile_prefix (x :: xs)
/-- the numeral that a text begins with, and what is behind it. -/
def numF (l : By) : Option (Int × By) :=
  match Lib.atoiAll (numPre l) with
  | .ok x => if Lib.itoa x = numPre l then some (x, l.drop (numPre l).length) else none
  | _ => none

theorem parse_cons (c : UInt8) (r : By) (acc : Nat) : Lib.parseUint10 acc (c :: r) = if 48 ≤ c.toNat ∧ c.toNat ≤ 57 then
      if 1844674407370955162 ≤ acc then .range
      else if 18446744073709551616 ≤ acc * 10 + (c.toNat - 48) then .range
      else Lib.parseUint10 (acc * 10 + (c.toNat - 48)) r
    else Lib.NumEnd.syntax := by rw [Lib.parseUint10]
theorem parse_append (l r : By) : ∀ acc, Lib.parseUint10 acc (l ++ r) = match Lib.parseUint10 acc l with | .ok v => Lib.parseUint10 v r | e => e := by
  induction l with
  | nil => intro acc; rfl
  | cons x xs ih =>
    intro acc
    rw [List.cons_append, parse_cons, parse_cons]
    split
    · split
      · rfl
      · split
        · rfl
        · exact ih _
    · rfl
theorem dig_toNat (d : Nat) (h : d < 10) : (UInt8.ofNat (48 + d)).toNat = 48 + d := by
  rw [UInt8.toNat_ofNat']; omega
theorem parse_decDigits (u : Nat) (h : u < 18446744073709551616) : Lib.parseUint10 0 (Lib.decDigits u) = .ok u := by
  induction u using Nat.strongRecOn with
  | ind u ih =>
    by_cases hu : u < 10
    · rw [Lib.decDigits_one hu]
      have := dig_toNat u hu
      simp only [Lib.parseUint10, this]
      rw [if_pos (by omega), if_neg (by omega), if_neg (by omega)]
      congr 1; omega
    · rw [Lib.decDigits, dif_neg hu, parse_append, ih (u / 10) (by omega) (by omega)]
      have := dig_toNat (u % 10) (by omega)
      simp only [Lib.parseUint10, this]
      rw [if_pos (by omega), if_neg (by omega), if_neg (by omega)]
      congr 1; omega
theorem decDigits_ne (u : Nat) : Lib.decDigits u ≠ [] := by
  have h1 := Lib.decDigits_length u
  have h2 := Lib.nDigits_pos u
  intro h
  rw [h, List.length_nil] at h1
  omega
theorem decDigits_dig (u : Nat) : ∀ c ∈ Lib.decDigits u, dig c = true := by
  induction u using Nat.strongRecOn with
  | ind u ih =>
    intro c hc
    by_cases hu : u < 10
    · rw [Lib.decDigits_one hu] at hc
      obtain rfl := List.mem_singleton.1 hc
      have := dig_toNat u hu
      simp only [dig, this, Bool.and_eq_true, decide_eq_true_eq]; omega
    · rw [Lib.decDigits, dif_neg hu] at hc
      rcases List.mem_append.1 hc with h | h
      · exact ih (u / 10) (by omega) c h
      · obtain rfl := List.mem_singleton.1 h
        have := dig_toNat (u % 10) (by omega)
        simp only [dig, this, Bool.and_eq_true, decide_eq_true_eq]; omega
theorem mag_decDigits (u : Nat) (h : u < 18446744073709551616) : Lib.parseMag (Lib.decDigits u) = .ok u := by
  rw [Lib.parseMag, if_neg (decDigits_ne u), parse_decDigits u h]
theorem dig_ne {c : UInt8} (h : dig c = true) : c ≠ 45 ∧ c ≠ 43 ∧ c ≠ 10 ∧ c.toNat ≠ 43 ∧ c.toNat ≠ 45 := by
  simp [dig] at h
  refine ⟨?_, ?_, ?_, by omega, by omega⟩ <;> rintro rfl <;> simp at h
theorem atoi_itoa (x : Int) (h : I64 x) : Lib.atoiAll (Lib.itoa x) = .ok x := by
  obtain ⟨h1, h2⟩ := h
  unfold Lib.itoa
  split
  · rename_i hn
    rw [Lib.atoiAll_minus, mag_decDigits _ (by omega)]
    simp only [Lib.signed]
    rw [if_neg (by omega)]
    congr 1; omega
  · rename_i hn
    cases hd : Lib.decDigits x.toNat with
    | nil => exact absurd hd (decDigits_ne _)
    | cons c r =>
      have hc := dig_ne (decDigits_dig x.toNat c (by rw [hd]; exact List.mem_cons_self ..))
      rw [Lib.atoiAll_plain c r hc.2.2.2.1 hc.2.2.2.2, ← hd, mag_decDigits _ (by omega)]
      simp only [Lib.signless]
      rw [if_neg (by omega)]
      congr 1; omega
theorem takeWhile_append_of (l r : By) (hl : ∀ c ∈ l, dig c = true) (hr : ∀ c t, r = c :: t → dig c = false) : (l ++ r).takeWhile dig = l := by
  induction l with
  | nil =>
    cases r with
    | nil => rfl
    | cons c t => rw [List.nil_append, List.takeWhile_cons_of_neg (by rw [hr c t rfl]; simp)]
  | cons x xs ih =>
    rw [List.cons_append, List.takeWhile_cons_of_pos (hl x (List.mem_cons_self ..)), ih fun c hc => hl c (List.mem_cons_of_mem _ hc)]
/-- a text that no digit begins. -/
def noDig (r : By) : Prop := ∀ c t, r = c :: t → dig c = false
theorem numPre_itoa (x : Int) (r : By) (hr : noDig r) : numPre (Lib.itoa x ++ r) = Lib.itoa x := by
  unfold Lib.itoa
  split
  · simp only [List.cons_append, numPre, if_true]
    rw [takeWhile_append_of _ _ (decDigits_dig _) hr]
  · cases hd : Lib.decDigits x.toNat with
    | nil => exact absurd hd (decDigits_ne _)
    | cons c t =>
      have hc := dig_ne (decDigits_dig x.toNat c (by rw [hd]; exact List.mem_cons_self ..))
      simp only [List.cons_append, numPre]
      rw [if_neg hc.1, ← List.cons_append, ← hd, takeWhile_append_of _ _ (decDigits_dig _) hr]
theorem numF_itoa (x : Int) (h : I64 x) (r : By) (hr : noDig r) : numF (Lib.itoa x ++ r) = some (x, r) := by
  unfold numF
  rw [numPre_itoa x r hr, atoi_itoa x h]
  simp
theorem numF_some {l : By} {x : Int} {r : By} (h : numF l = some (x, r)) : l = Lib.itoa x ++ r ∧ I64 x ∧ noDig r ∧ r.length < l.length := by
  unfold numF at h
  split at h
  · rename_i y hy
    split at h
    · rename_i he
      cases h
      obtain ⟨r, h1, h2⟩ := numPre_prefix l
      have hd : l.drop (numPre l).length = r := by
        have := congrArg (List.drop (numPre l).length) h1
        rwa [List.drop_left] at this
      have hne : Lib.itoa x ≠ [] := by
        unfold Lib.itoa; split
        · simp
        · exact decDigits_ne _
      refine ⟨by rw [he, hd]; exact h1, Lib.atoiAll_bounds hy, by rw [hd]; exact h2, ?_⟩
      rw [← he, List.length_drop]
      have : 0 < (Lib.itoa x).length := List.length_pos_iff.2 hne
      have hl : (Lib.itoa x).length ≤ l.length := by rw [he]; have := congrArg List.length h1; rw [List.length_append] at this; omega
      omega
    · cases h
  · cases h
theorem itoa_noNL (x : Int) : ∀ c ∈ Lib.itoa x, c ≠ 10 := by
  intro c hc
  unfold Lib.itoa at hc
  split at hc
  · rcases List.mem_cons.1 hc with rfl | hc
    · decide
    · exact (dig_ne (decDigits_dig _ c hc)).2.2.1
  · exact (dig_ne (decDigits_dig _ c hc)).2.2.1
theorem itoa_head (x : Int) : ∃ c t, Lib.itoa x = c :: t ∧ (c = 45 ∨ dig c = true) := by
  unfold Lib.itoa
  split
  · exact ⟨_, _, rfl, .inl rfl⟩
  · cases hd : Lib.decDigits x.toNat with
    | nil => exact absurd hd (decDigits_ne _)
    | cons c r => exact ⟨c, r, rfl, .inr (decDigits_dig x.toNat c (by rw [hd]; exact List.mem_cons_self ..))⟩
end Go.Um
