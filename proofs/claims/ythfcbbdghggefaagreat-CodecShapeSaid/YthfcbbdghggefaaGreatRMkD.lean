/-
  What writes what it reads: desc.Same.
-/
import Derived.Test.YthfcbbdghggefaaGreatRMkC
namespace Go.Proofs.YthfcbbdghggefaaGreat
open Go.RowKit Go.Um Go.Proofs
theorem cellA (W : World) (o : Obj) (b j : Nat) (h : b < W.heap.size) : (W.alloc o).cell? ⟨b, j, none⟩ = W.cell? ⟨b, j, none⟩ := World.cell?_of_block (Below.heap_alloc _ _ _ h)
end Go.Proofs.YthfcbbdghggefaaGreat
