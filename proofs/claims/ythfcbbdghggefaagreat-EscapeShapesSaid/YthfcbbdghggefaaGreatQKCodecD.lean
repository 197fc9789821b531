/-
  The descriptions that decode, repair and encode UTF-8, and the one that writes what it reads. No program is named here.
-/
import Derived.Test.YthfcbbdghggefaaGreatPb
namespace Go.Proofs.YthfcbbdghggefaaGreat
open Go.Proofs Go.Um Go.RowKit
def copyT (a b : Int) : Term := ⟨0, 0, 21, 0, b, [⟨a, 0, 21, 0⟩]⟩
def constT (x : Int) : Term := ⟨0, 0, 21, 0, x, []⟩
def allB : List Span := [⟨0, 255⟩]
end Go.Proofs.YthfcbbdghggefaaGreat
