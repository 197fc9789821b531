/-
  Plain Lean: the document's own reader of a numeral answers as numF. No program is named here.
-/
import Derived.Test.YtcdnkmefcldfmaaDoorPgText
namespace Go.Um

/-- the value of digits. -/
def valD : Nat → By → Nat
  | a, [] => a
  | a, c :: r => valD (10 * a + (c.toNat - 48)) r
theorem valD_one (a : Nat) (c : UInt8) : valD a [c] = 10 * a + (c.toNat - 48) := rfl
theorem valD_append (l r : By) : ∀ a, valD a (l ++ r) = valD (valD a l) r := by
  induction l with
  | nil => intro a; rfl
  | cons c l ih => intro a; exact ih _
theorem valD_le (l : By) : ∀ a, a ≤ valD a l := by
  induction l with
  | nil => intro a; exact Nat.le_refl _
  | cons c l ih => intro a; exact Nat.le_trans (by omega) (ih _)
theorem valD_dec (u : Nat) : valD 0 (Lib.decDigits u) = u := by
  induction u using Nat.strongRecOn with
  | ind u ih =>
    by_cases hu : u < 10
    · rw [Lib.decDigits_one hu, valD_one, dig_toNat u hu]; omega
    · rw [Lib.decDigits, dif_neg hu, valD_append, ih (u / 10) (by omega), valD_one, dig_toNat (u % 10) (by omega)]; omega
/-- where the digits of a numeral begin, and the digits. -/
def numLo2 (l : By) : Nat := if l[0]? = some 45 then 1 else 0
def digs (l : By) : By := (l.drop (numLo2 l)).takeWhile dig
theorem digs_itoa {l r : By} {y : Int} (h : l = Lib.itoa y ++ r) (hr : noDig r) : digs l = Lib.decDigits y.natAbs ∧ (numLo2 l = 1 ↔ y < 0) ∧ numLo2 l ≤ 1 ∧ Lib.itoa y = l.take (numLo2 l) ++ Lib.decDigits y.natAbs ∧ r = l.drop (numLo2 l + (digs l).length) := by
  subst h
  unfold Lib.itoa
  by_cases hy : y < 0
  · rw [if_pos hy]
    have e1 : numLo2 (45 :: Lib.decDigits y.natAbs ++ r) = 1 := rfl
    have e3 : digs (45 :: Lib.decDigits y.natAbs ++ r) = Lib.decDigits y.natAbs := by
      unfold digs
      rw [e1, List.cons_append, List.drop_one, List.tail_cons, takeWhile_append_of _ _ (decDigits_dig _) hr]
    rw [e1, e3]
    refine ⟨rfl, by simp [hy], Nat.le_refl _, rfl, ?_⟩
    rw [List.cons_append, Nat.add_comm, List.drop_succ_cons, List.drop_left]
  · rw [if_neg hy]
    have e2 : y.toNat = y.natAbs := by omega
    rw [e2]
    have e1 : numLo2 (Lib.decDigits y.natAbs ++ r) = 0 := by
      unfold numLo2
      cases hd : Lib.decDigits y.natAbs with
      | nil => exact absurd hd (decDigits_ne _)
      | cons c t =>
        have hc := dig_ne (decDigits_dig y.natAbs c (by rw [hd]; exact List.mem_cons_self ..))
        rw [if_neg]
        simpa using hc.1
    have e3 : digs (Lib.decDigits y.natAbs ++ r) = Lib.decDigits y.natAbs := by
      unfold digs
      rw [e1, List.drop_zero, takeWhile_append_of _ _ (decDigits_dig _) hr]
    rw [e1, e3]
    refine ⟨rfl, by simp; omega, by omega, by simp, ?_⟩
    rw [Nat.zero_add, List.drop_left]
theorem numLo2_le (l : By) : numLo2 l ≤ l.length ∧ numLo2 l ≤ 1 := by
  unfold numLo2
  split
  · cases l with
    | nil => rename_i h; simp at h
    | cons c l => simp
  · omega
theorem digs_at (l : By) : (∀ j c, j < (digs l).length → l[numLo2 l + j]? = some c → (digs l)[j]? = some c ∧ dig c = true) ∧ (∀ c, l[numLo2 l + (digs l).length]? = some c → dig c = false) ∧ numLo2 l + (digs l).length ≤ l.length := by
  unfold digs
  have h0 := (numLo2_le l).1
  generalize numLo2 l = m at *
  obtain ⟨r, h1, h2⟩ := takeWhile_prefix (l.drop m)
  have hl : (l.drop m).length = l.length - m := List.length_drop
  have hdig : ∀ c ∈ (l.drop m).takeWhile dig, dig c = true := by
    intro c hc
    exact List.all_eq_true.1 (List.all_takeWhile) c hc
  generalize hD : (l.drop m).takeWhile dig = D at *
  have hlen : D.length + r.length = l.length - m := by rw [← hl]; conv => rhs; rw [h1]
                                                       rw [List.length_append]
  refine ⟨fun j c hj hc => ?_, fun c hc => ?_, by omega⟩
  · rw [← List.getElem?_drop, h1, List.getElem?_append_left hj] at hc
    exact ⟨hc, hdig c (List.mem_of_getElem? hc)⟩
  · rw [← List.getElem?_drop, h1, List.getElem?_append_right (Nat.le_refl _), Nat.sub_self] at hc
    cases r with
    | nil => simp at hc
    | cons c' t => simp at hc; subst hc; exact h2 c' t rfl
theorem valD_take_le (l : By) (j : Nat) : valD 0 (l.take j) ≤ valD 0 l := by
  conv => rhs; rw [← List.take_append_drop j l]
  rw [valD_append]
  exact valD_le _ _
theorem valD_take_succ {l : By} {j : Nat} {c : UInt8} (h : l[j]? = some c) : valD 0 (l.take (j + 1)) = 10 * valD 0 (l.take j) + (c.toNat - 48) := by
  rw [List.take_add_one, h, valD_append]
  rfl
theorem nDigits_le_of_lt : ∀ (k u : Nat), u < 10 ^ (k + 1) → Lib.nDigits u ≤ k + 1 := by
  intro k
  induction k with
  | zero => intro u h; rw [Lib.nDigits_small (by simpa using h)]; exact Nat.le_refl _
  | succ k ih =>
    intro u h
    by_cases hu : u < 10
    · rw [Lib.nDigits_small hu]; omega
    · rw [Lib.nDigits_big hu]
      have := ih (u / 10) (by rw [Nat.pow_succ] at h; omega)
      omega
/-- a numeral's digits are few, and their value is small. -/
theorem numF_digs {l r : By} {y : Int} (h : numF l = some (y, r)) : valD 0 (digs l) = y.natAbs ∧ I64 y ∧ (digs l).length ≤ 19 ∧ 0 < (digs l).length ∧ (numLo2 l = 1 ↔ y < 0) ∧ l.take (numLo2 l + (digs l).length) = Lib.itoa y ∧ r = l.drop (numLo2 l + (digs l).length) := by
  obtain ⟨h1, h2, h3, _⟩ := numF_some h
  obtain ⟨e1, e2, e3, e4, e5⟩ := digs_itoa h1 h3
  refine ⟨by rw [e1, valD_dec], h2, ?_, ?_, e2, ?_, e5⟩
  · rw [e1, Lib.decDigits_length]
    have hb : y.natAbs < 10 ^ 19 := by obtain ⟨a, b⟩ := h2; omega
    exact nDigits_le_of_lt 18 _ hb
  · rw [e1, Lib.decDigits_length]; exact Lib.nDigits_pos _
  · have hlen : (Lib.itoa y).length = numLo2 l + (digs l).length := by
      rw [e4, List.length_append, List.length_take, ← e1, Nat.min_eq_left (numLo2_le l).1]
    rw [← hlen]
    conv => lhs; rw [h1]
    exact List.take_left
theorem numF_big {l : By} {j : Nat} (h : 9223372036854775808 < valD 0 ((digs l).take j)) : numF l = none := by
  cases hq : numF l with
  | none => rfl
  | some p =>
    obtain ⟨y, r⟩ := p
    obtain ⟨h1, ⟨h2, h3⟩, _⟩ := numF_digs hq
    have := valD_take_le (digs l) j
    omega
theorem numF_edge {l : By} {j : Nat} (h : valD 0 ((digs l).take j) = 9223372036854775808) (hm : numLo2 l = 0) : numF l = none := by
  cases hq : numF l with
  | none => rfl
  | some p =>
    obtain ⟨y, r⟩ := p
    obtain ⟨h1, ⟨h2, h3⟩, _, _, h5, _⟩ := numF_digs hq
    have := valD_take_le (digs l) j
    have : ¬ y < 0 := fun h => by have := h5.2 h; omega
    omega
/-- what the document's reader says of what it has read is what numF says. -/
theorem numF_own {l : By} {j : Nat} {x : Int} (hj : j = (digs l).length ∨ (j = 20 ∧ 20 ≤ (digs l).length)) (hx : x = if numLo2 l = 1 then -(valD 0 ((digs l).take j) : Int) else (valD 0 ((digs l).take j) : Int)) (hI : I64 x) :
    (0 < j ∧ l.take (numLo2 l + j) = Lib.itoa x → numF l = some (x, l.drop (numLo2 l + j))) ∧ (¬ (0 < j ∧ l.take (numLo2 l + j) = Lib.itoa x) → numF l = none) := by
  constructor
  · rintro ⟨h0, he⟩
    have hle := (digs_at l).2.2
    have hlt : l.take (numLo2 l + j) = l.take (numLo2 l) ++ (digs l).take j := by
      have hp : (l.drop (numLo2 l)).take j = (digs l).take j := by
        obtain ⟨r, h1, _⟩ := takeWhile_prefix (l.drop (numLo2 l))
        conv => lhs; rw [h1]
        show List.take j (digs l ++ r) = _
        rw [List.take_append_of_le_length (by omega)]
      rw [List.take_add, hp]
    have hl : l = Lib.itoa x ++ l.drop (numLo2 l + j) := by rw [← he, List.take_append_drop]
    have hlen : (Lib.itoa x).length = numLo2 l + j := by rw [← he, List.length_take]; omega
    have hj2 : j = (digs l).length := by
      rcases hj with hj | ⟨hj, hj2⟩
      · exact hj
      · exfalso
        have hi : (Lib.itoa x).length = (if x < 0 then 1 else 0) + (Lib.decDigits x.natAbs).length := by
          unfold Lib.itoa
          split
          · rw [List.length_cons]; omega
          · rw [show x.toNat = x.natAbs by omega]; omega
        have hb : x.natAbs < 10 ^ 19 := by obtain ⟨a, b⟩ := hI; omega
        have hd : (Lib.decDigits x.natAbs).length ≤ 19 := by rw [Lib.decDigits_length]; exact nDigits_le_of_lt 18 _ hb
        have hlo := (numLo2_le l).2
        split at hi
        · rename_i hneg
          have : numLo2 l = 1 := by
            by_cases h : numLo2 l = 1
            · exact h
            · rw [if_neg h] at hx; omega
          omega
        · omega
    have hnd : noDig (l.drop (numLo2 l + j)) := by
      intro c t hc
      refine (digs_at l).2.1 c ?_
      rw [← hj2, ← List.head?_drop, hc]
      rfl
    conv => lhs; rw [hl]
    exact numF_itoa x hI _ hnd
  · intro hno
    cases hq : numF l with
    | none => rfl
    | some p =>
      obtain ⟨y, r⟩ := p
      obtain ⟨h1, h2, h3, h4, h5, h6, h7⟩ := numF_digs hq
      have hj2 : j = (digs l).length := by
        rcases hj with hj | ⟨hj, hj2⟩
        · exact hj
        · omega
      exfalso
      apply hno
      subst hj2
      rw [List.take_length, h1] at hx
      have hxy : x = y := by
        rw [hx]
        split
        · rename_i h; have := h5.1 h; omega
        · rename_i h; have : ¬ y < 0 := fun hh => h (h5.2 hh); omega
      exact ⟨h4, by rw [hxy]; exact h6⟩
end Go.Um
