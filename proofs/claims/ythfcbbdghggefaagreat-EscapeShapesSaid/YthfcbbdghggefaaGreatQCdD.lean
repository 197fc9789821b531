/-
  What repairs relates any bytes to what they are repaired to; what encodes relates scalars to their bytes; plain Lean. No program is named here.
-/
import Derived.Test.YthfcbbdghggefaaGreatQCdC
namespace Go.Proofs.YthfcbbdghggefaaGreat
open Go.Proofs Go.Um Go.RowKit
end Go.Proofs.YthfcbbdghggefaaGreat
