/-
  The codecs: are they right, and sole? Plain Lean.
-/
import Derived.Test.YthfcbbdghggefaaGreatPh
import Derived.Test.YthfcbbdghggefaaGreatQKCodecD
namespace Go.Proofs.YthfcbbdghggefaaGreat
open Go.Proofs Go.Um Go.RowKit
end Go.Proofs.YthfcbbdghggefaaGreat
