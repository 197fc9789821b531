/-
  What decodes valid bytes, and what repairs, relate any bytes to what the reading of scalars gives, and to nothing else, plain Lean. No program is named here.
-/
import Derived.Test.YthfcbbdghggefaaGreatQCdB
namespace Go.Proofs.YthfcbbdghggefaaGreat
open Go.Proofs Go.Um Go.RowKit
/-- bytes, what they are repaired to, and whether nothing was wrong. -/
inductive Rep : List Int → List Int → Bool → Prop
  | nil : Rep [] [] true
  | cons {y w : List Int} {h : Bool} (hy : y ≠ []) (hr : Rep (y.drop (scanF y).2.1) w h) : Rep y ((scanF y).1 :: w) ((scanF y).2.2 && h)
end Go.Proofs.YthfcbbdghggefaaGreat
