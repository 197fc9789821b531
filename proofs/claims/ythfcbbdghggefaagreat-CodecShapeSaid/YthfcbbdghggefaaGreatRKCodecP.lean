/-
  The codecs: are they right, and sole? Plain Lean.
-/
import Derived.Test.YthfcbbdghggefaaGreatPh
import Derived.Test.YthfcbbdghggefaaGreatRKCodecD
namespace Go.Proofs.YthfcbbdghggefaaGreat
open Go.Proofs Go.Um Go.RowKit
theorem where_repair : (whereF repairD).1 = 0 := by decide +kernel
theorem sole_repair : soleS repairD = .tuple #[.bool true, .int .i64 0] := by
  unfold soleS
  rw [if_pos where_repair, show (outerS (optsD repairD) 0 (optsD repairD)).isNone = true by decide +kernel]
end Go.Proofs.YthfcbbdghggefaaGreat
