/-
  A row of spans of the call's own, sorted by the library: the glue between the kit's words for the sort and ours. No program is named here.
-/
import Derived.Test.YtflllgbjlfpgcaaSpan2
import Derived.Shelf.SlSortCmp.WholeK

namespace Go.Um
open Go.RowKit Go.Sort Go.Proofs

instance : Inhabited Span := ⟨⟨0, 0⟩⟩

theorem flatK_spans (xs : List Span) : flatK Span.cells 2 xs.toArray = (xs.flatMap Span.cells).toArray := by
  have hlen : (xs.flatMap Span.cells).length = xs.length * 2 := by
    induction xs with
    | nil => rfl
    | cons x r ih => rw [List.flatMap_cons, List.length_append, ih, List.length_cons, Nat.add_mul]; simp [Span.cells]; omega
  refine ext_get! (by simp [hlen]) fun t ht => ?_
  have ht' : t < xs.toArray.size * 2 := by simpa using ht
  rw [get_flatK _ _ _ _ ht']
  simp only [List.size_toArray] at ht'
  clear ht hlen
  induction xs generalizing t with
  | nil => simp at ht'
  | cons x r ih =>
    rw [List.flatMap_cons]
    match t with
    | 0 => rfl
    | 1 => rfl
    | t + 2 =>
      have h1 := ih t (by simp at ht'; omega)
      have e1 : (t + 2) / 2 = t / 2 + 1 := by omega
      have e2 : (t + 2) % 2 = t % 2 := by omega
      rw [e1, e2]
      simpa [Span.cells] using h1

theorem holds_flat {w : World} {g : Nat} {cur : Array Value} {e : TypeId} {F : List Value} (hb : w.heap[g]? = some (.cells cur e (0, 0))) (ht : cur.toList.take F.length = F) : Holds id w g 0 F.toArray := by
  intro j hj
  have hj' : j < F.length := by simpa using hj
  refine ⟨?_, by simp [World.frozen?, hb]⟩
  have h1 : (cur.toList.take F.length)[j]? = F[j]? := by rw [ht]
  rw [List.getElem?_take_of_lt hj'] at h1
  simp only [World.cell?, hb, Nat.zero_add]
  simp only [Option.isSome_none, Bool.false_eq_true, if_false]
  rw [← Array.getElem?_toList, h1]
  simp [hj']
theorem heap_flat {w : World} {g n : Nat} {os : Array Obj} {cur : Array Value} {e : TypeId} {fr : Nat × Nat} (d : Array Value) (hb : w.heap[g]? = some (.cells cur e fr)) :
    (grow (putRow id (Sort.ahead w n) g 0 d) os).heap[g]? = some (.cells (putCells id 0 d cur) e fr) := by
  have hg : g < w.heap.size := (Array.getElem?_eq_some_iff.1 hb).1
  rw [heap_grow_old _ _ (by simpa using hg)]
  simp [putRow, mapBlock, Sort.ahead, Array.getElem?_modify, hb, onCells]
theorem grown_flat {w : World} {g n : Nat} {os : Array Obj} (d : Array Value) : w.grownBy (grow (putRow id (Sort.ahead w n) g 0 d) os) (some g) := by
  refine ⟨rfl, rfl, rfl, by simp, fun k hk hne => ?_⟩
  rw [heap_grow_old _ _ (by simpa using hk)]
  have : g ≠ k := fun e => hne (by rw [e])
  simp [putRow, mapBlock, Sort.ahead, Array.getElem?_modify, this]
theorem take_flat (cur : Array Value) (F : List Value) (h : F.length ≤ cur.size) : (putCells id 0 F.toArray cur).toList.take F.length = F := by
  apply List.ext_getElem?
  intro j
  by_cases hj : j < F.length
  · rw [List.getElem?_take_of_lt hj, Array.getElem?_toList]
    simp [putCells, hj, show j < cur.size by omega]
  · rw [List.getElem?_take_eq_none (by omega), List.getElem?_eq_none (by omega)]

/-- cmp.Compare of the Los, less. -/
theorem ltLo (x y : Span) : ltOf (fun x y : Span => Lib.compareInt x.lo y.lo) x y = decide (x.lo < y.lo) := by
  unfold ltOf Lib.compareInt
  by_cases h1 : x.lo < y.lo
  · simp [h1]
  · by_cases h2 : y.lo < x.lo <;> simp [h1, h2]
theorem swoLo : SWO (ltOf fun x y : Span => Lib.compareInt x.lo y.lo) where
  irrefl x := by rw [ltLo]; simp
  trans x y z h1 h2 := by rw [ltLo] at *; simp at *; omega
  ntrans x y z h1 h2 := by rw [ltLo] at *; simp at *; omega

theorem sortedLo_of {d : Array Span} (h : SortedIn (ltOf fun x y : Span => Lib.compareInt x.lo y.lo) 0 d.size d) : SortedLo d.toList := by
  unfold SortedLo
  rw [List.pairwise_iff_getElem]
  intro i j hi hj hij
  have h1 := h i j (Nat.zero_le _) hij (by simpa using hj)
  rw [ltLo] at h1
  simp only [Array.length_toList] at hi hj
  rw [getElem!_pos d i hi, getElem!_pos d j hj] at h1
  simp at h1
  simpa using h1
theorem perm_of {d d' : Array Span} (h : PermIn 0 d.size d d') : d'.toList.Perm d.toList := by
  obtain ⟨h1, _, h3⟩ := h
  have e1 : d'.extract 0 d.size = d' := by rw [← h1]; simp
  have e2 : d.extract 0 d.size = d := by simp
  rwa [e1, e2] at h3

theorem length_cells (xs : List Span) : (xs.flatMap Span.cells).length = xs.length * 2 := by
  induction xs with
  | nil => rfl
  | cons x r ih => rw [List.flatMap_cons, List.length_append, ih, List.length_cons, Nat.add_mul]; simp [Span.cells]; omega

theorem OwnS.holds {e : TypeId} {w : World} {base g cap : Nat} {xs : List Span} (h : OwnS e w base (.slice (some ⟨g, 0, none⟩) xs.length cap) xs) : HoldsK Span.cells 2 w g 0 xs.toArray := by
  rcases h.1.2 with ⟨h0, _⟩ | ⟨g', cap', cur, hv, hb, hg, hn, hc, hs, ht⟩
  · cases h0
  · cases hv
    unfold HoldsK
    rw [flatK_spans]
    exact holds_flat hg (by rw [length_cells]; exact ht)
/-- behind the sort. -/
theorem OwnS.sorted {e : TypeId} {w : World} {base g cap n : Nat} {os : Array Obj} {xs ys : List Span} (h : OwnS e w base (.slice (some ⟨g, 0, none⟩) xs.length cap) xs) (hp : ys.Perm xs) :
    OwnS e (sortWorldK Span.cells 2 w g 0 n ys.toArray os) base (.slice (some ⟨g, 0, none⟩) xs.length cap) ys ∧ w.grownBy (sortWorldK Span.cells 2 w g 0 n ys.toArray os) (some g) := by
  have hl := hp.length_eq
  refine ⟨⟨?_, fun y hy => h.2 y (hp.mem_iff.1 hy)⟩, ?_⟩
  · rcases h.1.2 with ⟨h0, _⟩ | ⟨g', cap', cur, hv, hb, hg, hn, hc, hs, ht⟩
    · cases h0
    · cases hv
      rw [← hl]
      refine ⟨length_cells ys, .inr ⟨g, cap, putCells id 0 (ys.flatMap Span.cells).toArray cur, rfl, hb, ?_, by omega, hc, by simp [putCells, hs], ?_⟩⟩
      · unfold sortWorldK putRowK
        rw [flatK_spans]
        exact heap_flat _ hg
      · have := take_flat cur (ys.flatMap Span.cells) (by rw [length_cells, hs]; exact Nat.mul_le_mul_right 2 (by omega))
        rwa [length_cells] at this
  · unfold sortWorldK putRowK
    exact grown_flat _
end Go.Um
