/-
  The codecs: are they right, and sole? Plain Lean.
-/
import Derived.Test.YtmkmikacfilbpaaGreatPh
import Derived.Test.YtmkmikacfilbpaaGreatTKCodecD
namespace Go.Proofs.YtmkmikacfilbpaaGreat
open Go.Proofs Go.Um Go.RowKit
end Go.Proofs.YtmkmikacfilbpaaGreat
