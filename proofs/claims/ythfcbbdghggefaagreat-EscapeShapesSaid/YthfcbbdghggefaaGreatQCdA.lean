/-
  Bytes and scalars: which bytes are a scalar's, which begin one's, plain Lean. No program is named here.
-/
import Derived.Test.YthfcbbdghggefaaGreatPi
import Derived.Test.YthfcbbdghggefaaGreatQKCodecP
namespace Go.Proofs.YthfcbbdghggefaaGreat
open Go.Proofs Go.Um Go.RowKit
/-- a scalar's bytes. -/
def scalP (x : Int) : Prop := 0 ≤ x ∧ x < 1114112 ∧ ¬ (55296 ≤ x ∧ x < 57344)
instance (x : Int) : Decidable (scalP x) := by unfold scalP; infer_instance
def bytesF (x : Int) : List Int :=
  if ¬ scalP x then [] else if x < 128 then [x] else if x < 2048 then [192 + x / 64, 128 + x % 64]
  else if x < 65536 then [224 + x / 4096, 128 + x / 64 % 64, 128 + x % 64] else [240 + x / 262144, 128 + x / 4096 % 64, 128 + x / 64 % 64, 128 + x % 64]
def leadF (n : Nat) : Int := [0, 0, 192, 224, 240].getD n 0
def capF (n : Nat) : Int := [0, 0, 32, 16, 8].getD n 0
def leastF (n : Nat) : Int := [0, 0, 128, 2048, 65536].getD n 0
def valB (b : List Int) : Int := (b.drop 1).foldl (fun x c => x * 64 + c - 128) (b.getD 0 0 - leadF b.length)
def scalF (b : List Int) : Option Int := if valB b < 0 ∨ 1114111 < valB b ∨ bytesF (valB b) ≠ b then none else some (valB b)
/-- the least and the most that begin so. -/
def rangeF : Nat → List Int → Int × Int → Option (Int × Int)
  | 0, _, p => some p
  | n + 1, [], p => rangeF n [] (p.1 * 64, p.2 * 64 + 63)
  | n + 1, c :: l, p => if c - 128 < 0 ∨ 63 < c - 128 then none else rangeF n l (p.1 * 64 + (c - 128), p.2 * 64 + (c - 128))
def endsF (n : Nat) (p : Int × Int) : Bool := decide ((max p.1 (leastF n) < 55296 ∧ max p.1 (leastF n) ≤ min p.2 1114111) ∨ (57343 < min p.2 1114111 ∧ max p.1 (leastF n) ≤ min p.2 1114111))
def begF (b : List Int) (n : Nat) : Bool :=
  if b.getD 0 0 - leadF n < 0 ∨ capF n ≤ b.getD 0 0 - leadF n then false
  else match rangeF (n - 1) (b.drop 1) (b.getD 0 0 - leadF n, b.getD 0 0 - leadF n) with
    | none => false
    | some p => endsF n p
end Go.Proofs.YthfcbbdghggefaaGreat
