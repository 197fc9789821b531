/-
  What the reference escapes bytes to, and turns back.
-/
import Derived.Test.YtmkmikacfilbpaaGreatTEsC
import Derived.Test.YtmkmikacfilbpaaGreatTEsO
import Derived.Test.YtmkmikacfilbpaaGreatTEsR
import Derived.Test.YtmkmikacfilbpaaGreatPe
namespace Go.Proofs.YtmkmikacfilbpaaGreat
open Go.RowKit Go.Um Go.Proofs
end Go.Proofs.YtmkmikacfilbpaaGreat
