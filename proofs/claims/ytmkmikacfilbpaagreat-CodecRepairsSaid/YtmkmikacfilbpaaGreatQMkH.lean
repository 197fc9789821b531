/-
  Terms copied: desc.terms.
-/
import Derived.Test.YtmkmikacfilbpaaGreatQMkG
namespace Go.Proofs.YtmkmikacfilbpaaGreat
open Go.RowKit Go.Um Go.Proofs
end Go.Proofs.YtmkmikacfilbpaaGreat
