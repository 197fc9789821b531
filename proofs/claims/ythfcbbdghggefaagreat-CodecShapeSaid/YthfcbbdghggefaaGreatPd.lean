/-
  
-/
import Derived.Test.YthfcbbdghggefaaGreatPc
namespace Go.Proofs.YthfcbbdghggefaaGreat
open Go.RowKit Go.Um

theorem box6 {w W : World} {x0 x1 x2 x3 x4 x5 : Value} {t : TypeId} (hB : Below (w.heap.size + 1) (w.alloc (.cells #[x0, x1, x2, x3, x4, x5] t)) W) :
    W.cell? ⟨w.heap.size, 0, none⟩ = some x0 ∧ W.cell? ⟨w.heap.size, 1, none⟩ = some x1 ∧ W.cell? ⟨w.heap.size, 2, none⟩ = some x2 ∧ W.cell? ⟨w.heap.size, 3, none⟩ = some x3 ∧ W.cell? ⟨w.heap.size, 4, none⟩ = some x4 ∧ W.cell? ⟨w.heap.size, 5, none⟩ = some x5 :=
  ⟨(hB.cell (p := ⟨w.heap.size, 0, none⟩) (by simp)).trans (by go_simp), (hB.cell (p := ⟨w.heap.size, 1, none⟩) (by simp)).trans (by go_simp), (hB.cell (p := ⟨w.heap.size, 2, none⟩) (by simp)).trans (by go_simp),
   (hB.cell (p := ⟨w.heap.size, 3, none⟩) (by simp)).trans (by go_simp), (hB.cell (p := ⟨w.heap.size, 4, none⟩) (by simp)).trans (by go_simp), (hB.cell (p := ⟨w.heap.size, 5, none⟩) (by simp)).trans (by go_simp)⟩
theorem box65 {w W : World} {x0 x1 x2 x3 x4 x5 y0 y1 y2 y3 y4 : Value} {t t' : TypeId} (hB : Below (w.heap.size + 2) ((w.alloc (.cells #[x0, x1, x2, x3, x4, x5] t)).alloc (.cells #[y0, y1, y2, y3, y4] t')) W) :
    (W.cell? ⟨w.heap.size, 0, none⟩ = some x0 ∧ W.cell? ⟨w.heap.size, 1, none⟩ = some x1 ∧ W.cell? ⟨w.heap.size, 2, none⟩ = some x2 ∧ W.cell? ⟨w.heap.size, 3, none⟩ = some x3 ∧ W.cell? ⟨w.heap.size, 4, none⟩ = some x4 ∧ W.cell? ⟨w.heap.size, 5, none⟩ = some x5) ∧ (W.cell? ⟨w.heap.size + 1, 0, none⟩ = some y0 ∧ W.cell? ⟨w.heap.size + 1, 1, none⟩ = some y1 ∧ W.cell? ⟨w.heap.size + 1, 2, none⟩ = some y2 ∧ W.cell? ⟨w.heap.size + 1, 3, none⟩ = some y3 ∧ W.cell? ⟨w.heap.size + 1, 4, none⟩ = some y4) :=
  ⟨⟨(hB.cell (p := ⟨w.heap.size, 0, none⟩) (by simp)).trans (by go_simp), (hB.cell (p := ⟨w.heap.size, 1, none⟩) (by simp)).trans (by go_simp), (hB.cell (p := ⟨w.heap.size, 2, none⟩) (by simp)).trans (by go_simp), (hB.cell (p := ⟨w.heap.size, 3, none⟩) (by simp)).trans (by go_simp), (hB.cell (p := ⟨w.heap.size, 4, none⟩) (by simp)).trans (by go_simp), (hB.cell (p := ⟨w.heap.size, 5, none⟩) (by simp)).trans (by go_simp)⟩, ⟨(hB.cell (p := ⟨w.heap.size + 1, 0, none⟩) (by simp)).trans (by go_simp), (hB.cell (p := ⟨w.heap.size + 1, 1, none⟩) (by simp)).trans (by go_simp), (hB.cell (p := ⟨w.heap.size + 1, 2, none⟩) (by simp)).trans (by go_simp), (hB.cell (p := ⟨w.heap.size + 1, 3, none⟩) (by simp)).trans (by go_simp), (hB.cell (p := ⟨w.heap.size + 1, 4, none⟩) (by simp)).trans (by go_simp)⟩⟩
theorem low {B B' : Nat} {a b : World} (h : Below B' a b) (hB : B ≤ B') : Below B a b := h.mono hB

end Go.Proofs.YthfcbbdghggefaaGreat
namespace Go.Proofs.YthfcbbdghggefaaGreat
open Go.RowKit Go.Um

end Go.Proofs.YthfcbbdghggefaaGreat
namespace Go.Proofs.YthfcbbdghggefaaGreat
open Go.RowKit Go.Um

end Go.Proofs.YthfcbbdghggefaaGreat
