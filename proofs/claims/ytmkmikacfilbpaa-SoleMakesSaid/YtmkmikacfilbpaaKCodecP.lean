/-
  The codecs: are they right, and sole? Plain Lean.
-/
import Derived.Test.YtmkmikacfilbpaaKWhere
import Derived.Test.YtmkmikacfilbpaaKCodecD
namespace Go.Proofs.Ytmkmikacfilbpaa
open Go.Proofs Go.Um Go.RowKit
theorem sole_same1 : soleS (sameD 1) = .tuple #[.bool true, .int .i64 0] := by
  unfold soleS
  rw [if_pos (by decide +kernel), show (outerS (optsD (sameD 1)) 0 (optsD (sameD 1))).isNone = true by decide +kernel]
theorem sole_same2 : soleS (sameD 2) = .tuple #[.bool true, .int .i64 0] := by
  unfold soleS
  rw [if_pos (by decide +kernel), show (outerS (optsD (sameD 2)) 0 (optsD (sameD 2))).isNone = true by decide +kernel]
theorem sole_join1 : soleS (joinSame 1) = .tuple #[.bool false, .int .i64 0] := by
  unfold soleS
  rw [if_pos (by decide +kernel), show (outerS (optsD (joinSame 1)) 0 (optsD (joinSame 1))).isNone = false by decide +kernel]
theorem sole_join2 : soleS (joinSame 2) = .tuple #[.bool false, .int .i64 0] := by
  unfold soleS
  rw [if_pos (by decide +kernel), show (outerS (optsD (joinSame 2)) 0 (optsD (joinSame 2))).isNone = false by decide +kernel]
theorem where_encode : (whereF encodeD).1 = 0 := by decide +kernel
theorem where_strict : (whereF strictD).1 = 0 := by decide +kernel
theorem sole_strict : soleS strictD = .tuple #[.bool true, .int .i64 0] := by
  unfold soleS
  rw [if_pos where_strict, show (outerS (optsD strictD) 0 (optsD strictD)).isNone = true by decide +kernel]
theorem sole_encode : soleS encodeD = .tuple #[.bool true, .int .i64 0] := by
  unfold soleS
  rw [if_pos where_encode, show (outerS (optsD encodeD) 0 (optsD encodeD)).isNone = true by decide +kernel]
theorem where_repair : (whereF repairD).1 = 0 := by decide +kernel
theorem sole_repair : soleS repairD = .tuple #[.bool true, .int .i64 0] := by
  unfold soleS
  rw [if_pos where_repair, show (outerS (optsD repairD) 0 (optsD repairD)).isNone = true by decide +kernel]
theorem sole_none {s : Int} (h1 : s ≠ 1) (h2 : s ≠ 2) : soleS (sameD s) = .tuple #[.bool false, .int .i64 2] := by
  unfold soleS
  rw [if_neg]
  have : headF (sameD s) = false := by
    unfold headF sameD sortF
    rw [decide_eq_false (by dsimp only; omega)]
    rfl
  unfold whereF
  rw [this]
  simp
end Go.Proofs.Ytmkmikacfilbpaa
