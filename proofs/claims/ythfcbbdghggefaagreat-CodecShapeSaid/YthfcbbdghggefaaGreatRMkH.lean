/-
  Terms copied: desc.terms.
-/
import Derived.Test.YthfcbbdghggefaaGreatRMkG
namespace Go.Proofs.YthfcbbdghggefaaGreat
open Go.RowKit Go.Um Go.Proofs
end Go.Proofs.YthfcbbdghggefaaGreat
