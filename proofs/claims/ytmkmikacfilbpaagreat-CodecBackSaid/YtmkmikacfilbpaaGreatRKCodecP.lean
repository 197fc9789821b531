/-
  The codecs: are they right, and sole? Plain Lean.
-/
import Derived.Test.YtmkmikacfilbpaaGreatPh
import Derived.Test.YtmkmikacfilbpaaGreatRKCodecD
namespace Go.Proofs.YtmkmikacfilbpaaGreat
open Go.Proofs Go.Um Go.RowKit
theorem where_encode : (whereF encodeD).1 = 0 := by decide +kernel
theorem where_strict : (whereF strictD).1 = 0 := by decide +kernel
theorem sole_strict : soleS strictD = .tuple #[.bool true, .int .i64 0] := by
  unfold soleS
  rw [if_pos where_strict, show (outerS (optsD strictD) 0 (optsD strictD)).isNone = true by decide +kernel]
theorem sole_encode : soleS encodeD = .tuple #[.bool true, .int .i64 0] := by
  unfold soleS
  rw [if_pos where_encode, show (outerS (optsD encodeD) 0 (optsD encodeD)).isNone = true by decide +kernel]
theorem where_repair : (whereF repairD).1 = 0 := by decide +kernel
theorem sole_repair : soleS repairD = .tuple #[.bool true, .int .i64 0] := by
  unfold soleS
  rw [if_pos where_repair, show (outerS (optsD repairD) 0 (optsD repairD)).isNone = true by decide +kernel]
end Go.Proofs.YtmkmikacfilbpaaGreat
