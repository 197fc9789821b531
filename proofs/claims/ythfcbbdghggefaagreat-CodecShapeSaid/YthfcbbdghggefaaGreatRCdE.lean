/-
  The reference's tests of words: the same two, of a sort; and a scalar's bytes.
-/
import Derived.Test.YthfcbbdghggefaaGreatRCdA
import Derived.Test.YthfcbbdghggefaaGreatPj
import Derived.Test.YthfcbbdghggefaaGreatPm
namespace Go.Proofs.YthfcbbdghggefaaGreat
open Go.RowKit Go.Um Go.Proofs
end Go.Proofs.YthfcbbdghggefaaGreat
