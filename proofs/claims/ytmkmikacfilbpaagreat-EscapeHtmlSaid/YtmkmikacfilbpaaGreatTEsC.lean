/-
  What the reference escapes bytes to: which are unreserved, a digit's number.
-/
import Derived.Test.YtmkmikacfilbpaaGreatTEsP
import Derived.Test.YtmkmikacfilbpaaGreatProg
import Derived.WalkKit
namespace Go.Proofs.YtmkmikacfilbpaaGreat
open Go.RowKit Go.Um Go.Proofs
def lett (s : ByteArray) (j : Nat) : Int := ((s.data.toList.map UInt8.toNat).getD j 0 : Nat)
theorem lett_at (s : ByteArray) (k : Nat) (h : k < s.size) : ((s[k]'h).toNat : Int) = lett s k := by
  unfold lett
  rw [List.getD_eq_getElem?_getD, List.getElem?_map, Array.getElem?_toList, Array.getElem?_eq_getElem (show k < s.data.size from h)]
  rfl
end Go.Proofs.YtmkmikacfilbpaaGreat
