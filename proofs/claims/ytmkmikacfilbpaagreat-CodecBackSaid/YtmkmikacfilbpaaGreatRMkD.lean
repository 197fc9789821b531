/-
  What writes what it reads: desc.Same.
-/
import Derived.Test.YtmkmikacfilbpaaGreatRMkC
namespace Go.Proofs.YtmkmikacfilbpaaGreat
open Go.RowKit Go.Um Go.Proofs
theorem cellA (W : World) (o : Obj) (b j : Nat) (h : b < W.heap.size) : (W.alloc o).cell? ⟨b, j, none⟩ = W.cell? ⟨b, j, none⟩ := World.cell?_of_block (Below.heap_alloc _ _ _ h)
theorem froA (W : World) (o : Obj) (b j : Nat) (h : b < W.heap.size) : (W.alloc o).frozen? ⟨b, j, none⟩ = W.frozen? ⟨b, j, none⟩ := by
  unfold World.frozen?
  rw [Below.heap_alloc _ _ _ h]
end Go.Proofs.YtmkmikacfilbpaaGreat
