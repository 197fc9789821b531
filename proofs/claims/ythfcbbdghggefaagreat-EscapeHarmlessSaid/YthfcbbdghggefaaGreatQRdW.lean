/-
  What comes in, a word of symbols.
-/
import Derived.Test.YthfcbbdghggefaaGreatPm
namespace Go.Proofs.YthfcbbdghggefaaGreat
open Go.RowKit Go.Um Go.ChangeShapes Go.WideShapes Go.ChangeAt Go.Deep
section
variable {H : Type} {enc : TypeId × Value → H} {w : World} {base : Nat} {spare : Nat → Bool} {held : Bool}
theorem rd_rune2 {fuel : Nat} {cs : List Value} {x : DataW H × List MemPlace} (h : DataW.trod enc Tryz.prog w base spare held fuel 21 cs = some x) : ∃ y, runeR.rel w (upto w.heap.size) cs y := by
  obtain ⟨n, h1, h2, h3⟩ := DataW.trod_int Tryz.underlying21 h
  refine ⟨n, h1, ?_⟩
  simp [Lit.wf] at h3
  exact ⟨h3.1, h3.2⟩
theorem rd_word2 {fuel : Nat} {cs : List Value} {x : DataW H × List MemPlace} (h : DataW.trod enc Tryz.prog w base spare held fuel 37 cs = some x) : ∃ ys, wordR.rel w (upto w.heap.size) cs ys :=
  open_rep (r := runeR) Tryz.underlying37 (by kernel_rfl) (by decide) (fun _ _ _ h => rd_rune2 h) h
end
end Go.Proofs.YthfcbbdghggefaaGreat
