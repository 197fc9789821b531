/-
  Bytes and scalars: which bytes are a scalar's, which begin one's, plain Lean. No program is named here.
-/
import Derived.Test.YthfcbbdghggefaaGreatPi
import Derived.Test.YthfcbbdghggefaaGreatRKCodecP
namespace Go.Proofs.YthfcbbdghggefaaGreat
open Go.Proofs Go.Um Go.RowKit
/-- a scalar's bytes. -/
def scalP (x : Int) : Prop := 0 ≤ x ∧ x < 1114112 ∧ ¬ (55296 ≤ x ∧ x < 57344)
instance (x : Int) : Decidable (scalP x) := by unfold scalP; infer_instance
def bytesF (x : Int) : List Int :=
  if ¬ scalP x then [] else if x < 128 then [x] else if x < 2048 then [192 + x / 64, 128 + x % 64]
  else if x < 65536 then [224 + x / 4096, 128 + x / 64 % 64, 128 + x % 64] else [240 + x / 262144, 128 + x / 4096 % 64, 128 + x / 64 % 64, 128 + x % 64]
def leadF (n : Nat) : Int := [0, 0, 192, 224, 240].getD n 0
def capF (n : Nat) : Int := [0, 0, 32, 16, 8].getD n 0
def leastF (n : Nat) : Int := [0, 0, 128, 2048, 65536].getD n 0
def valB (b : List Int) : Int := (b.drop 1).foldl (fun x c => x * 64 + c - 128) (b.getD 0 0 - leadF b.length)
def scalF (b : List Int) : Option Int := if valB b < 0 ∨ 1114111 < valB b ∨ bytesF (valB b) ≠ b then none else some (valB b)
/-- the least and the most that begin so. -/
def rangeF : Nat → List Int → Int × Int → Option (Int × Int)
  | 0, _, p => some p
  | n + 1, [], p => rangeF n [] (p.1 * 64, p.2 * 64 + 63)
  | n + 1, c :: l, p => if c - 128 < 0 ∨ 63 < c - 128 then none else rangeF n l (p.1 * 64 + (c - 128), p.2 * 64 + (c - 128))
def endsF (n : Nat) (p : Int × Int) : Bool := decide ((max p.1 (leastF n) < 55296 ∧ max p.1 (leastF n) ≤ min p.2 1114111) ∨ (57343 < min p.2 1114111 ∧ max p.1 (leastF n) ≤ min p.2 1114111))
def begF (b : List Int) (n : Nat) : Bool :=
  if b.getD 0 0 - leadF n < 0 ∨ capF n ≤ b.getD 0 0 - leadF n then false
  else match rangeF (n - 1) (b.drop 1) (b.getD 0 0 - leadF n, b.getD 0 0 - leadF n) with
    | none => false
    | some p => endsF n p
theorem scal1 {a x : Int} (ha : 0 ≤ a ∧ a ≤ 255) : scalF [a] = some x ↔ a < 128 ∧ x = a := by
  unfold scalF
  have hv : valB [a] = a := by simp [valB, leadF]
  rw [hv]
  unfold bytesF scalP
  repeat' split
  all_goals first | (simp at *; omega) | (simp at *)
theorem scal2 {a b x : Int} (ha : 0 ≤ a ∧ a ≤ 255) (hb : 0 ≤ b ∧ b ≤ 255) : scalF [a, b] = some x ↔ 194 ≤ a ∧ a ≤ 223 ∧ 128 ≤ b ∧ b ≤ 191 ∧ x = (a - 192) * 64 + (b - 128) := by
  unfold scalF
  have hv : valB [a, b] = (a - 192) * 64 + b - 128 := by simp [valB, leadF]
  rw [hv]
  unfold bytesF scalP
  repeat' split
  all_goals first | (simp at *; omega) | (simp at *)
theorem scal3 {a b c x : Int} (ha : 0 ≤ a ∧ a ≤ 255) (hb : 0 ≤ b ∧ b ≤ 255) (hc : 0 ≤ c ∧ c ≤ 255) : scalF [a, b, c] = some x ↔ 224 ≤ a ∧ a ≤ 239 ∧ 128 ≤ b ∧ b ≤ 191 ∧ 128 ≤ c ∧ c ≤ 191 ∧ (a = 224 → 160 ≤ b) ∧ (a = 237 → b ≤ 159) ∧ x = (a - 224) * 4096 + (b - 128) * 64 + (c - 128) := by
  unfold scalF
  have hv : valB [a, b, c] = ((a - 224) * 64 + b - 128) * 64 + c - 128 := by simp [valB, leadF]
  rw [hv]
  unfold bytesF scalP
  repeat' split
  all_goals first | (simp at *; omega) | (simp at *)
theorem scal4 {a b c d x : Int} (ha : 0 ≤ a ∧ a ≤ 255) (hb : 0 ≤ b ∧ b ≤ 255) (hc : 0 ≤ c ∧ c ≤ 255) (hd : 0 ≤ d ∧ d ≤ 255) : scalF [a, b, c, d] = some x ↔ 240 ≤ a ∧ a ≤ 244 ∧ 128 ≤ b ∧ b ≤ 191 ∧ 128 ≤ c ∧ c ≤ 191 ∧ 128 ≤ d ∧ d ≤ 191 ∧ (a = 240 → 144 ≤ b) ∧ (a = 244 → b ≤ 143) ∧ x = (a - 240) * 262144 + (b - 128) * 4096 + (c - 128) * 64 + (d - 128) := by
  unfold scalF
  have hv : valB [a, b, c, d] = (((a - 240) * 64 + b - 128) * 64 + c - 128) * 64 + d - 128 := by simp [valB, leadF]
  rw [hv]
  unfold bytesF scalP
  repeat' split
  all_goals first | (simp at *; omega) | (simp at *)
theorem beg23 {a b : Int} (ha : 0 ≤ a ∧ a ≤ 255) (hb : 0 ≤ b ∧ b ≤ 255) : begF [a, b] 3 = true ↔ 224 ≤ a ∧ a ≤ 239 ∧ 128 ≤ b ∧ b ≤ 191 ∧ (a = 224 → 160 ≤ b) ∧ (a = 237 → b ≤ 159) := by
  have hr : rangeF 2 [b] (a - 224, a - 224) = if b - 128 < 0 ∨ 63 < b - 128 then none else some (((a - 224) * 64 + (b - 128)) * 64, ((a - 224) * 64 + (b - 128)) * 64 + 63) := rfl
  have h : begF [a, b] 3 = if a - 224 < 0 ∨ 16 ≤ a - 224 then false else match rangeF 2 [b] (a - 224, a - 224) with | none => false | some p => endsF 3 p := rfl
  rw [h, hr]
  by_cases h1 : a - 224 < 0 ∨ 16 ≤ a - 224
  · rw [if_pos h1]
    simp
    omega
  · rw [if_neg h1]
    by_cases h2 : b - 128 < 0 ∨ 63 < b - 128
    · rw [if_pos h2]
      simp
      omega
    · rw [if_neg h2]
      simp only [endsF, leastF, List.getD_cons_zero, List.getD_cons_succ, decide_eq_true_eq]
      omega
theorem beg24 {a b : Int} (ha : 0 ≤ a ∧ a ≤ 255) (hb : 0 ≤ b ∧ b ≤ 255) : begF [a, b] 4 = true ↔ 240 ≤ a ∧ a ≤ 244 ∧ 128 ≤ b ∧ b ≤ 191 ∧ (a = 240 → 144 ≤ b) ∧ (a = 244 → b ≤ 143) := by
  have hr : rangeF 3 [b] (a - 240, a - 240) = if b - 128 < 0 ∨ 63 < b - 128 then none else some (((a - 240) * 64 + (b - 128)) * 64 * 64, (((a - 240) * 64 + (b - 128)) * 64 + 63) * 64 + 63) := rfl
  have h : begF [a, b] 4 = if a - 240 < 0 ∨ 8 ≤ a - 240 then false else match rangeF 3 [b] (a - 240, a - 240) with | none => false | some p => endsF 4 p := rfl
  rw [h, hr]
  by_cases h1 : a - 240 < 0 ∨ 8 ≤ a - 240
  · rw [if_pos h1]
    simp
    omega
  · rw [if_neg h1]
    by_cases h2 : b - 128 < 0 ∨ 63 < b - 128
    · rw [if_pos h2]
      simp
      omega
    · rw [if_neg h2]
      simp only [endsF, leastF, List.getD_cons_zero, List.getD_cons_succ, decide_eq_true_eq]
      omega
theorem beg34 {a b c : Int} (ha : 0 ≤ a ∧ a ≤ 255) (hb : 0 ≤ b ∧ b ≤ 255) (hc : 0 ≤ c ∧ c ≤ 255) : begF [a, b, c] 4 = true ↔ 240 ≤ a ∧ a ≤ 244 ∧ 128 ≤ b ∧ b ≤ 191 ∧ (a = 240 → 144 ≤ b) ∧ (a = 244 → b ≤ 143) ∧ 128 ≤ c ∧ c ≤ 191 := by
  have hr : rangeF 3 [b, c] (a - 240, a - 240) = if b - 128 < 0 ∨ 63 < b - 128 then none else if c - 128 < 0 ∨ 63 < c - 128 then none else some (((a - 240) * 64 + (b - 128)) * 64 + (c - 128), ((a - 240) * 64 + (b - 128)) * 64 + (c - 128)) |>.map (fun p => (p.1 * 64, p.2 * 64 + 63)) := by
    unfold rangeF
    split
    · rfl
    · unfold rangeF
      split <;> rfl
  have h : begF [a, b, c] 4 = if a - 240 < 0 ∨ 8 ≤ a - 240 then false else match rangeF 3 [b, c] (a - 240, a - 240) with | none => false | some p => endsF 4 p := rfl
  rw [h, hr]
  by_cases h1 : a - 240 < 0 ∨ 8 ≤ a - 240
  · rw [if_pos h1]
    simp
    omega
  · rw [if_neg h1]
    by_cases h2 : b - 128 < 0 ∨ 63 < b - 128
    · rw [if_pos h2]
      simp
      omega
    · rw [if_neg h2]
      by_cases h3 : c - 128 < 0 ∨ 63 < c - 128
      · rw [if_pos h3]
        simp
        omega
      · rw [if_neg h3]
        simp only [Option.map_some, endsF, leastF, List.getD_cons_zero, List.getD_cons_succ, decide_eq_true_eq]
        omega
end Go.Proofs.YthfcbbdghggefaaGreat
