/-
  Small terms and rows that the codecs are made of: term.Copy, term.Const, desc.Empty, utf.tail, utf.row, utf.Rows.
-/
import Derived.Test.YthfcbbdghggefaaGreatPe
import Derived.Test.YthfcbbdghggefaaGreatPj
import Derived.Test.YthfcbbdghggefaaGreatRKCodecD
namespace Go.Proofs.YthfcbbdghggefaaGreat
open Go.RowKit Go.Um Go.Proofs
def TermPost (t : Term) (w : World) (e : Ending) (w' : World) : Prop := ∃ v, e = .returned (tval t v) ∧ (listR partR).rel w' (Fresh w.heap.size w') [v] t.parts ∧ Below w.heap.size w w'
def DescPost (D : Desc) (w : World) (e : Ending) (w' : World) : Prop := ∃ vr vf, e = .returned (.agg #[.int .i64 D.inn, .int .i64 D.out, .int .i64 D.states, .int .i64 D.start, vr, vf]) ∧ (listR ruleR).rel w' (Fresh w.heap.size w') [vr] D.rules ∧ (listR finalR).rel w' (Fresh w.heap.size w') [vf] D.finals ∧ Below w.heap.size w w'
theorem heapLtM {w : World} {G : Nat} {o : Obj} (h : w.heap[G]? = some o) : G < w.heap.size := (Array.getElem?_eq_some_iff.1 h).1
theorem infoSs : (Tryz.prog.info? 76).map (fun i => (i.zero, i.size, i.bytes)) = some (some (.slice none 0 0), 1, 24) := by kernel_rfl
theorem six9 {W : World} {b : Nat} {x0 x1 x2 x3 x4 x5 : Value} {t : TypeId} (h : W.heap[b]? = some (.cells #[x0, x1, x2, x3, x4, x5] t)) :
    W.cell? ⟨b, 0, none⟩ = some x0 ∧ W.cell? ⟨b, 1, none⟩ = some x1 ∧ W.cell? ⟨b, 2, none⟩ = some x2 ∧ W.cell? ⟨b, 3, none⟩ = some x3 ∧ W.cell? ⟨b, 4, none⟩ = some x4 ∧ W.cell? ⟨b, 5, none⟩ = some x5 :=
  ⟨cell_of_row _ _ 0 _ _ _ h, cell_of_row _ _ 1 _ _ _ h, cell_of_row _ _ 2 _ _ _ h, cell_of_row _ _ 3 _ _ _ h, cell_of_row _ _ 4 _ _ _ h, cell_of_row _ _ 5 _ _ _ h⟩
/-- six cells of a block, set. -/
def setS (w : World) (b : Nat) (x0 x1 x2 x3 x4 x5 : Value) : World := (((((w.setCell ⟨b, 0, none⟩ x0).setCell ⟨b, 1, none⟩ x1).setCell ⟨b, 2, none⟩ x2).setCell ⟨b, 3, none⟩ x3).setCell ⟨b, 4, none⟩ x4).setCell ⟨b, 5, none⟩ x5
theorem _root_.Go.RowKit.Below.set6 {B b : Nat} {a w : World} (h : Below B a w) (hb : B ≤ b) (x0 x1 x2 x3 x4 x5 : Value) : Below B a (setS w b x0 x1 x2 x3 x4 x5) :=
  (((((h.setCell (p := ⟨b, 0, none⟩) hb x0).setCell (p := ⟨b, 1, none⟩) hb x1).setCell (p := ⟨b, 2, none⟩) hb x2).setCell (p := ⟨b, 3, none⟩) hb x3).setCell (p := ⟨b, 4, none⟩) hb x4).setCell (p := ⟨b, 5, none⟩) hb x5
theorem setS_heap {w : World} {b : Nat} {y0 y1 y2 y3 y4 y5 : Value} {t : TypeId} (h : w.heap[b]? = some (.cells #[y0, y1, y2, y3, y4, y5] t)) (x0 x1 x2 x3 x4 x5 : Value) : (setS w b x0 x1 x2 x3 x4 x5).heap[b]? = some (.cells #[x0, x1, x2, x3, x4, x5] t) := by
  unfold setS
  have h0 := heap_setCell_same w b 0 _ t x0 h
  have h1 := heap_setCell_same _ b 1 _ t x1 h0
  have h2 := heap_setCell_same _ b 2 _ t x2 h1
  have h3 := heap_setCell_same _ b 3 _ t x3 h2
  have h4 := heap_setCell_same _ b 4 _ t x4 h3
  have h5 := heap_setCell_same _ b 5 _ t x5 h4
  rw [h5]
  rfl
theorem setS_size (w : World) (b : Nat) (x0 x1 x2 x3 x4 x5 : Value) : (setS w b x0 x1 x2 x3 x4 x5).heap.size = w.heap.size := by unfold setS; simp
theorem setS_other (w : World) (b g : Nat) (x0 x1 x2 x3 x4 x5 : Value) (h : g ≠ b) : (setS w b x0 x1 x2 x3 x4 x5).heap[g]? = w.heap[g]? := by
  unfold setS
  rw [heap_setCell_other _ _ _ _ (by simpa using h), heap_setCell_other _ _ _ _ (by simpa using h), heap_setCell_other _ _ _ _ (by simpa using h), heap_setCell_other _ _ _ _ (by simpa using h), heap_setCell_other _ _ _ _ (by simpa using h), heap_setCell_other _ _ _ _ (by simpa using h)]
theorem fro6 {W : World} {b : Nat} {x0 x1 x2 x3 x4 x5 : Value} {t : TypeId} (h : W.heap[b]? = some (.cells #[x0, x1, x2, x3, x4, x5] t)) :
    W.frozen? ⟨b, 0, none⟩ = false ∧ W.frozen? ⟨b, 1, none⟩ = false ∧ W.frozen? ⟨b, 2, none⟩ = false ∧ W.frozen? ⟨b, 3, none⟩ = false ∧ W.frozen? ⟨b, 4, none⟩ = false ∧ W.frozen? ⟨b, 5, none⟩ = false :=
  ⟨frozen_of_row _ _ 0 _ _ h, frozen_of_row _ _ 1 _ _ h, frozen_of_row _ _ 2 _ _ h, frozen_of_row _ _ 3 _ _ h, frozen_of_row _ _ 4 _ _ h, frozen_of_row _ _ 5 _ _ h⟩
set_option maxHeartbeats 1000000 in
set_option maxRecDepth 100000 in
theorem Const_calls (x : Int) (w : World) (hx : -2147483648 ≤ x ∧ x ≤ 2147483647) : Calls Tryz.prog 57 #[.int .i32 x] w fun e w' => e = .returned (tval (constT x) (.slice none 0 0)) ∧ Below w.heap.size w w' := by
  unfold tval constT
  dsimp only
  go_enter Tryz.func57, Tryz.ntmps57
  go_wp2_with fail
  exact bodyPost_ret (v := .agg #[.int .i64 0, .int .i64 0, .int .i64 21, .int .i64 0, .int .i64 x, .slice none 0 0]) (by simp [results, Tryz.results57, go_sem]) rfl ⟨rfl, ((Below.refl w.heap.size w).alloc (Nat.le_refl _) _)⟩
set_option maxHeartbeats 1000000 in
set_option maxRecDepth 100000 in
theorem Copy_calls (a b : Int) (w : World) (ha : I64 a) : Calls Tryz.prog 43 #[.int .i64 a, .int .i64 b] w fun e w' => TermPost (copyT a b) w e w' := by
  have hw := hid fun W => Whole_calls a W
  unfold pval wholeP at hw
  dsimp only at hw
  go_enter Tryz.func43, Tryz.ntmps43
  go_wp2_with fail
  refine (hw.out _).mono ?_
  rintro e w1 ⟨rfl, hB1⟩
  have hB : Below w.heap.size w w1 := ((Below.refl w.heap.size w).alloc (Nat.le_refl _) _).trans (hB1.mono (by simp))
  have hX := (hB1.block w.heap.size (by simp)).trans (heap_alloc_new w _)
  have hXl := heapLtM hX
  obtain ⟨x0, x1, x2, x3, x4, x5⟩ := six9 hX
  obtain ⟨f0, f1, f2, f3, f4, f5⟩ := fro6 hX
  go_wp2_with fail
  obtain ⟨ws, hws⟩ : ∃ ws, ws = setS w1 w.heap.size (.int .i64 0) (.int .i64 0) (.int .i64 21) (.int .i64 0) (.int .i64 b) (.slice (some ⟨w1.heap.size, 0, none⟩) 1 1) := ⟨_, rfl⟩
  have hXs : ws.heap[w.heap.size]? = some (.cells #[.int .i64 0, .int .i64 0, .int .i64 21, .int .i64 0, .int .i64 b, .slice (some ⟨w1.heap.size, 0, none⟩) 1 1] 69) := by rw [hws]; exact setS_heap hX _ _ _ _ _ _
  have hBs : Below w.heap.size w ws := by rw [hws]; exact hB.set6 (Nat.le_refl _) _ _ _ _ _ _
  have hss : ws.heap.size = w1.heap.size := by rw [hws]; exact setS_size ..
  unfold setS at hws
  rw [← hws]
  clear hws
  have hFL := FL.one (e := 72) (r := partR) (x := ⟨a, 0, 21, 0⟩) (cs := [.int .i64 a, .int .i64 0, .int .i64 21, .int .i64 0]) (cells := #[.int .i64 a, .int .i64 0, .int .i64 21, .int .i64 0]) (w := ws) (b0 := w.heap.size) (base := w.heap.size) ⟨rfl, ha, (⟨by decide, by decide⟩ : I64 0), (⟨by decide, by decide⟩ : I64 21), (⟨by decide, by decide⟩ : I64 0)⟩ rfl hBs.size
  rw [hss] at hFL
  obtain ⟨y0, y1, y2, y3, y4, y5⟩ := six9 hXs
  have hsl := heapLtM hXs
  exact bodyPost_ret (v := .agg #[.int .i64 0, .int .i64 0, .int .i64 21, .int .i64 0, .int .i64 b, .slice (some ⟨w1.heap.size, 0, none⟩) 1 1]) (by simp [results, Tryz.results43, go_sem, y0, y1, y2, y3, y4, y5, hsl]) rfl ⟨_, rfl, hFL.rel (Nat.le_refl _), hBs.alloc hBs.size _⟩
end Go.Proofs.YthfcbbdghggefaaGreat
