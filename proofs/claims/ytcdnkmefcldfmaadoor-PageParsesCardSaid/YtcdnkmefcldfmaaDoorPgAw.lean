/-
  The document's example: awake returns true.
-/
import Derived.Test.YtcdnkmefcldfmaaDoorPgPrint
import Derived.Test.YtcdnkmefcldfmaaDoorPgPa
namespace Go.Proofs.YtcdnkmefcldfmaaDoor
open Go.RowKit Go.Um

set_option maxHeartbeats 1000000 in
theorem Whole_calls (w : World) : Calls Tryd.prog 51 #[.int .i64 0] w fun e w' => e = .returned (.agg #[.int .i64 0, .int .i64 0, .int .i64 21, .int .i64 0]) ∧ Below w.heap.size w w' := by
  go_enter Tryd.func51, Tryd.ntmps51
  go_wp2_with fail
  exact bodyPost_ret (v := .agg #[.int .i64 0, .int .i64 0, .int .i64 21, .int .i64 0]) (by simp [results, Tryd.results51, go_sem]) rfl ⟨rfl, (Below.refl _ _).alloc (Nat.le_refl _) _⟩

set_option maxHeartbeats 1000000 in
theorem Empty_calls (w : World) : Calls Tryd.prog 31 #[.int .i64 1, .int .i64 1] w fun e w' => e = .returned (.agg #[.int .i64 1, .int .i64 1, .int .i64 1, .int .i64 0, .slice none 0 0, .slice none 0 0]) ∧ Below w.heap.size w w' := by
  go_enter Tryd.func31, Tryd.ntmps31
  go_wp2_with fail
  exact bodyPost_ret (v := .agg #[.int .i64 1, .int .i64 1, .int .i64 1, .int .i64 0, .slice none 0 0, .slice none 0 0]) (by simp [results, Tryd.results31, go_sem]) rfl ⟨rfl, (Below.refl _ _).alloc (Nat.le_refl _) _⟩

set_option maxHeartbeats 1000000 in
theorem Dom_calls (w : World) : Calls Tryd.prog 32 #[.int .i64 1] w fun e w' => ∃ g, e = .returned (.slice (some ⟨g, 0, none⟩) 1 1) ∧ w'.heap[g]? = some (.cells #[.int .i64 0, .int .i64 255] 86 (0, 0)) ∧ Below w.heap.size w w' := by
  go_enter Tryd.func32, Tryd.ntmps32
  go_wp2_with fail
  go_ret
  exact ⟨_, rfl, heap_alloc_new _ _, (Below.refl _ _).alloc (Nat.le_refl _) _⟩
theorem heap_at {w w' : World} {o : Obj} {g : Nat} (hw : w' = w.alloc o) (h : g = w.heap.size) : w'.heap[g]? = some o := by subst hw; subst h; exact heap_alloc_new _ _
def CopyPost (w : World) (e : Ending) (w' : World) : Prop := ∃ g, e = .returned (.agg #[.int .i64 0, .int .i64 0, .int .i64 21, .int .i64 0, .int .i64 0, .slice (some ⟨g, 0, none⟩) 1 1]) ∧ w'.heap[g]? = some (.cells #[.int .i64 0, .int .i64 0, .int .i64 21, .int .i64 0] 88 (0, 0)) ∧ Below w.heap.size w w'
set_option maxHeartbeats 2000000 in
set_option maxRecDepth 100000 in
theorem Copy_calls (w : World) : Calls Tryd.prog 33 #[.int .i64 0, .int .i64 0] w (CopyPost w) := by
  go_enter Tryd.func33, Tryd.ntmps33
  go_wp2_with fail
  refine (Whole_calls _).mono ?_
  rintro e w1 ⟨rfl, hb1⟩
  have hsz : w.heap.size < w1.heap.size := by have := hb1.size; simp at this; omega
  have hq : w1.heap[w.heap.size]? = some (.cells #[.int .i64 0, .int .i64 0, .int .i64 0, .int .i64 0, .int .i64 0, .slice none 0 0] 76 (0, 0)) := (hb1.block _ (by simp)).trans (heap_alloc_new _ _)
  have c0 : w1.cell? ⟨w.heap.size, 0, none⟩ = some (.int .i64 0) := by rw [Lib.cell_of_heap hq]; rfl
  have c1 : w1.cell? ⟨w.heap.size, 1, none⟩ = some (.int .i64 0) := by rw [Lib.cell_of_heap hq]; rfl
  have c2 : w1.cell? ⟨w.heap.size, 2, none⟩ = some (.int .i64 0) := by rw [Lib.cell_of_heap hq]; rfl
  have c3 : w1.cell? ⟨w.heap.size, 3, none⟩ = some (.int .i64 0) := by rw [Lib.cell_of_heap hq]; rfl
  have c4 : w1.cell? ⟨w.heap.size, 4, none⟩ = some (.int .i64 0) := by rw [Lib.cell_of_heap hq]; rfl
  have c5 : w1.cell? ⟨w.heap.size, 5, none⟩ = some (.slice none 0 0) := by rw [Lib.cell_of_heap hq]; rfl
  have g0 : w1.frozen? ⟨w.heap.size, 0, none⟩ = false := Lib.frozen_of_heap hq _
  have g1 : w1.frozen? ⟨w.heap.size, 1, none⟩ = false := Lib.frozen_of_heap hq _
  have g2 : w1.frozen? ⟨w.heap.size, 2, none⟩ = false := Lib.frozen_of_heap hq _
  have g3 : w1.frozen? ⟨w.heap.size, 3, none⟩ = false := Lib.frozen_of_heap hq _
  have g4 : w1.frozen? ⟨w.heap.size, 4, none⟩ = false := Lib.frozen_of_heap hq _
  have g5 : w1.frozen? ⟨w.heap.size, 5, none⟩ = false := Lib.frozen_of_heap hq _
  clear hq
  have HB1 := hid hb1
  clear hb1
  go_wp2_with fail
  refine bodyPost_ret (v := .agg #[.int .i64 0, .int .i64 0, .int .i64 21, .int .i64 0, .int .i64 0, .slice (some ⟨w1.heap.size, 0, none⟩) 1 1]) ?_ rfl ?_
  · simp [results, Tryd.results33, go_sem, World.cell?_alloc_lt, hsz, c0, c1, c2, c3, c4, c5]
  · refine ⟨_, rfl, ?_, ?_⟩
    · exact heap_at rfl (by simp [World.setCell])
    · have h0 : Below w.heap.size w w1 := ((Below.refl _ _).alloc (Nat.le_refl _) _).trans (HB1.out.mono (by simp))
      exact ((((((h0.setCell (p := ⟨w.heap.size, 0, none⟩) (Nat.le_refl _) _).setCell (p := ⟨w.heap.size, 1, none⟩) (Nat.le_refl _) _).setCell (p := ⟨w.heap.size, 2, none⟩) (Nat.le_refl _) _).setCell (p := ⟨w.heap.size, 3, none⟩) (Nat.le_refl _) _).setCell (p := ⟨w.heap.size, 4, none⟩) (Nat.le_refl _) _).setCell (p := ⟨w.heap.size, 5, none⟩) (Nat.le_refl _) _).alloc (by simp [World.setCell]; omega) _

/-- the description of the document's example. -/
def dB : Desc := ⟨1, 1, 1, 0, [⟨0, 0, [[⟨0, 255⟩]], 1, [⟨0, 0, 21, 0, 0, [⟨0, 0, 21, 0⟩]⟩]⟩], [⟨0, [], []⟩]⟩
theorem list_one {α : Type} {r : RepOf α} {w : World} {S : Nat → Prop} {b o c : Nat} {x : α} {ds : List Value} (h1 : 1 ≤ c) (hc : c ≤ maxLen) (hS : S b) (hr : r.rel w S ds x)
    (hcells : ∀ (j : Nat) (v : Value), ds[j]? = some v → w.cell? ⟨b, o + j, none⟩ = some v) : (listR r).rel w S [.slice (some ⟨b, o, none⟩) 1 c] [x] := by
  refine ⟨_, _, _, rfl, rfl, h1, hc, .inr ⟨b, o, rfl, hS, fun i y hi => ?_⟩⟩
  match i, hi with
  | 0, hi =>
    simp at hi
    subst hi
    exact ⟨ds, hr, fun j v hv => by simpa using hcells j v hv⟩
theorem one_block {α : Type} {r : RepOf α} {w : World} {S : Nat → Prop} {b : Nat} {x : α} {ds : List Value} {t : TypeId} (hb : w.heap[b]? = some (.cells ⟨ds⟩ t (0, 0))) (hS : S b) (hr : r.rel w S ds x) : (listR r).rel w S [.slice (some ⟨b, 0, none⟩) 1 1] [x] :=
  list_one (Nat.le_refl _) (by unfold maxLen; omega) hS hr (fun j v hv => by rw [Nat.zero_add, Lib.cell_of_heap hb]; simpa using hv)
theorem i0 (x : Int) (h : -1000000 ≤ x) (h' : x ≤ 1000000) : I64 x := I64.of (by omega) (by omega)
theorem dB_rules {w : World} {g k a b c : Nat} (n1 : g < w.heap.size) (n2 : k < w.heap.size) (n3 : a < w.heap.size) (n4 : b < w.heap.size) (n5 : c < w.heap.size)
    (h1 : w.heap[g]? = some (.cells #[.int .i64 0, .int .i64 255] 86 (0, 0)))
    (h2 : w.heap[k]? = some (.cells #[.slice (some ⟨g, 0, none⟩) 1 1] 73 (0, 0)))
    (h3 : w.heap[a]? = some (.cells #[.int .i64 0, .int .i64 0, .int .i64 21, .int .i64 0] 88 (0, 0)))
    (h4 : w.heap[b]? = some (.cells #[.int .i64 0, .int .i64 0, .int .i64 21, .int .i64 0, .int .i64 0, .slice (some ⟨a, 0, none⟩) 1 1] 76 (0, 0)))
    (h5 : w.heap[c]? = some (.cells #[.int .i64 0, .int .i64 0, .slice (some ⟨k, 0, none⟩) 1 1, .int .i64 1, .slice (some ⟨b, 0, none⟩) 1 1] 45 (0, 0))) :
    (listR ruleR).rel w (upto w.heap.size) [.slice (some ⟨c, 0, none⟩) 1 1] dB.rules := by
  have z0 := i0 0 (by decide) (by decide)
  have r1 : spansR.rel w (upto w.heap.size) [.slice (some ⟨g, 0, none⟩) 1 1] [⟨0, 255⟩] := one_block (r := spanR) h1 n1 ⟨rfl, z0, i0 255 (by decide) (by decide)⟩
  have r2 : (listR spansR).rel w (upto w.heap.size) [.slice (some ⟨k, 0, none⟩) 1 1] [[⟨0, 255⟩]] := one_block (r := spansR) h2 n2 r1
  have r3 : (listR partR).rel w (upto w.heap.size) [.slice (some ⟨a, 0, none⟩) 1 1] [⟨0, 0, 21, 0⟩] := one_block (r := partR) h3 n3 ⟨rfl, z0, z0, i0 21 (by decide) (by decide), z0⟩
  have r4 : (listR termR).rel w (upto w.heap.size) [.slice (some ⟨b, 0, none⟩) 1 1] [⟨0, 0, 21, 0, 0, [⟨0, 0, 21, 0⟩]⟩] := one_block (r := termR) h4 n4 ⟨_, rfl, ⟨z0, z0, i0 21 (by decide) (by decide), z0, z0⟩, r3⟩
  exact one_block (r := ruleR) h5 n5 ⟨_, _, rfl, ⟨z0, z0, i0 1 (by decide) (by decide)⟩, r2, r4⟩
theorem dB_finals {w : World} {c : Nat} (n5 : c < w.heap.size) (h5 : w.heap[c]? = some (.cells #[.int .i64 0, .slice none 0 0, .slice none 0 0] 47 (0, 0))) :
    (listR finalR).rel w (upto w.heap.size) [.slice (some ⟨c, 0, none⟩) 1 1] dB.finals :=
  one_block (r := finalR) h5 n5 ⟨_, _, rfl, i0 0 (by decide) (by decide), list_nil spansR _ _, list_nil termR _ _⟩
def SamePost (w : World) (e : Ending) (w' : World) : Prop := ∃ vr vf, e = .returned (.agg #[.int .i64 1, .int .i64 1, .int .i64 1, .int .i64 0, vr, vf]) ∧ (listR ruleR).rel w' (upto w'.heap.size) [vr] dB.rules ∧ (listR finalR).rel w' (upto w'.heap.size) [vf] dB.finals ∧ Below w.heap.size w w'
set_option maxHeartbeats 4000000 in
set_option maxRecDepth 100000 in
theorem DSame_calls (w : World) : Calls Tryd.prog 16 #[.int .i64 1] w (SamePost w) := by
  go_enter Tryd.func16, Tryd.ntmps16
  go_wp2_with fail
  refine (Empty_calls _).mono ?_
  rintro e w1 ⟨rfl, hb1⟩
  have hz1 : w.heap.size < w1.heap.size := by have := hb1.size; simp at this; omega
  go_wp2_with fail
  refine (Dom_calls _).mono ?_
  rintro e w2 ⟨g, rfl, hg, hb2⟩
  have hz2 : w1.heap.size < w2.heap.size := by have := hb2.size; simp at this; omega
  go_wp2_with fail
  refine (Copy_calls _).mono ?_
  rintro e w3 ⟨a, rfl, ha, hb3⟩
  have hz3 : w2.heap.size < w3.heap.size := by have := hb3.size; simp at this; omega
  have hD : w3.heap[w1.heap.size]? = some (.cells #[.int .i64 1, .int .i64 1, .int .i64 1, .int .i64 0, .slice none 0 0, .slice none 0 0] 26 (0, 0)) :=
    (hb3.block _ (by simp; omega)).trans ((Below.heap_alloc _ _ _ hz2).trans ((hb2.block _ (by simp)).trans (heap_alloc_new _ _)))
  have hR : w3.heap[w.heap.size]? = some (.cells #[.int .i64 0, .int .i64 0, .int .i64 0, .int .i64 0, .slice none 0 0, .slice none 0 0] 26 (0, 0)) :=
    (hb3.block _ (by simp; omega)).trans ((Below.heap_alloc _ _ _ (by omega)).trans ((hb2.block _ (by simp; omega)).trans ((Below.heap_alloc _ _ _ hz1).trans ((hb1.block _ (by simp)).trans (heap_alloc_new _ _)))))
  have hK : w3.heap[w2.heap.size]? = some (.cells #[.slice (some ⟨g, 0, none⟩) 1 1] 73 (0, 0)) := (hb3.block _ (by simp)).trans (heap_alloc_new _ _)
  have hgl : g < w2.heap.size := by
    rcases Nat.lt_or_ge g w2.heap.size with h' | h'
    · exact h'
    · simp [Array.getElem?_eq_none h'] at hg
  have hal : a < w3.heap.size := by
    rcases Nat.lt_or_ge a w3.heap.size with h' | h'
    · exact h'
    · simp [Array.getElem?_eq_none h'] at ha
  have hG : w3.heap[g]? = some (.cells #[.int .i64 0, .int .i64 255] 86 (0, 0)) := (hb3.block _ (by simp; omega)).trans ((Below.heap_alloc _ _ _ hgl).trans hg)
  have hgt : Tag 86 w3 g := ⟨_, _, hG⟩
  have hDt : Tag 26 w3 w1.heap.size := ⟨_, _, hD⟩
  have hRt : Tag 26 w3 w.heap.size := ⟨_, _, hR⟩
  have hg1 : g ≠ w1.heap.size := Tag.ne hgt hDt (by decide)
  have hg2 : g ≠ w.heap.size := Tag.ne hgt hRt (by decide)
  have hat : Tag 88 w3 a := ⟨_, _, ha⟩
  have ha1 : a ≠ w1.heap.size := Tag.ne hat hDt (by decide)
  have ha2 : a ≠ w.heap.size := Tag.ne hat hRt (by decide)
  have hBB : Below w.heap.size w w3 := ((((Below.refl _ _).alloc (Nat.le_refl _) _).trans (hb1.mono (by simp))).trans (((Below.refl _ _).alloc (by omega) _).trans (hb2.mono (by simp; omega)))).trans (((Below.refl _ _).alloc (by omega) _).trans (hb3.mono (by simp; omega)))
  have d0 : w3.cell? ⟨w1.heap.size, 0, none⟩ = some (.int .i64 1) := by rw [Lib.cell_of_heap hD]; rfl
  have d1 : w3.cell? ⟨w1.heap.size, 1, none⟩ = some (.int .i64 1) := by rw [Lib.cell_of_heap hD]; rfl
  have d2 : w3.cell? ⟨w1.heap.size, 2, none⟩ = some (.int .i64 1) := by rw [Lib.cell_of_heap hD]; rfl
  have d3 : w3.cell? ⟨w1.heap.size, 3, none⟩ = some (.int .i64 0) := by rw [Lib.cell_of_heap hD]; rfl
  have d4 : w3.cell? ⟨w1.heap.size, 4, none⟩ = some (.slice none 0 0) := by rw [Lib.cell_of_heap hD]; rfl
  have d5 : w3.cell? ⟨w1.heap.size, 5, none⟩ = some (.slice none 0 0) := by rw [Lib.cell_of_heap hD]; rfl
  have e0 : w3.frozen? ⟨w1.heap.size, 0, none⟩ = false := Lib.frozen_of_heap hD _
  have e1 : w3.frozen? ⟨w1.heap.size, 1, none⟩ = false := Lib.frozen_of_heap hD _
  have e2 : w3.frozen? ⟨w1.heap.size, 2, none⟩ = false := Lib.frozen_of_heap hD _
  have e3 : w3.frozen? ⟨w1.heap.size, 3, none⟩ = false := Lib.frozen_of_heap hD _
  have e4 : w3.frozen? ⟨w1.heap.size, 4, none⟩ = false := Lib.frozen_of_heap hD _
  have e5 : w3.frozen? ⟨w1.heap.size, 5, none⟩ = false := Lib.frozen_of_heap hD _
  have r0 : w3.cell? ⟨w.heap.size, 0, none⟩ = some (.int .i64 0) := by rw [Lib.cell_of_heap hR]; rfl
  have r1 : w3.cell? ⟨w.heap.size, 1, none⟩ = some (.int .i64 0) := by rw [Lib.cell_of_heap hR]; rfl
  have r2 : w3.cell? ⟨w.heap.size, 2, none⟩ = some (.int .i64 0) := by rw [Lib.cell_of_heap hR]; rfl
  have r3 : w3.cell? ⟨w.heap.size, 3, none⟩ = some (.int .i64 0) := by rw [Lib.cell_of_heap hR]; rfl
  have r4 : w3.cell? ⟨w.heap.size, 4, none⟩ = some (.slice none 0 0) := by rw [Lib.cell_of_heap hR]; rfl
  have r5 : w3.cell? ⟨w.heap.size, 5, none⟩ = some (.slice none 0 0) := by rw [Lib.cell_of_heap hR]; rfl
  have s0 : w3.frozen? ⟨w.heap.size, 0, none⟩ = false := Lib.frozen_of_heap hR _
  have s1 : w3.frozen? ⟨w.heap.size, 1, none⟩ = false := Lib.frozen_of_heap hR _
  have s2 : w3.frozen? ⟨w.heap.size, 2, none⟩ = false := Lib.frozen_of_heap hR _
  have s3 : w3.frozen? ⟨w.heap.size, 3, none⟩ = false := Lib.frozen_of_heap hR _
  have s4 : w3.frozen? ⟨w.heap.size, 4, none⟩ = false := Lib.frozen_of_heap hR _
  have s5 : w3.frozen? ⟨w.heap.size, 5, none⟩ = false := Lib.frozen_of_heap hR _
  have HH := hid (And.intro hK (And.intro hG (And.intro ha (And.intro hBB (And.intro hgl hal)))))
  have zd0 : w1.heap.size < w3.heap.size := by omega
  have zr0 : w.heap.size < w3.heap.size := by omega
  have zd1 : w1.heap.size < w3.heap.size + 1 := by omega
  have zr1 : w.heap.size < w3.heap.size + 1 := by omega
  have zd2 : w1.heap.size < w3.heap.size + 1 + 1 := by omega
  have zr2 : w.heap.size < w3.heap.size + 1 + 1 := by omega
  have zd3 : w1.heap.size < w3.heap.size + 1 + 1 + 1 := by omega
  have zr3 : w.heap.size < w3.heap.size + 1 + 1 + 1 := by omega
  have zd4 : w1.heap.size < w3.heap.size + 2 := by omega
  have zr4 : w.heap.size < w3.heap.size + 2 := by omega
  have zd5 : w1.heap.size < w3.heap.size + 3 := by omega
  have zr5 : w.heap.size < w3.heap.size + 3 := by omega
  have HN := hid (And.intro hg1 (And.intro hg2 (And.intro ha1 ha2)))
  clear hD hR hK hG ha hBB hb1 hb2 hb3 hg hgt hDt hRt hat hg1 hg2 ha1 ha2
  go_wp2_with fail
  refine bodyPost_ret (v := .agg #[.int .i64 1, .int .i64 1, .int .i64 1, .int .i64 0, .slice (some ⟨w3.heap.size + 1, 0, none⟩) 1 1, .slice (some ⟨w3.heap.size + 2, 0, none⟩) 1 1]) ?_ rfl ?_
  · simp [results, Tryd.results16, go_sem, World.cell?_alloc_lt, zr0, zr1, zr2, r0, r1, r2, r3, r4, r5]
  · obtain ⟨hK, hG, ha, hBB, hgl, hal⟩ := HH.out
    obtain ⟨hg1, hg2, ha1, ha2⟩ := HN.out
    have key : ∀ X : World, X.heap.size = w3.heap.size → (∀ g, g ≠ w1.heap.size → g ≠ w.heap.size → X.heap[g]? = w3.heap[g]?) → Below w.heap.size w3 X →
        SamePost w (.returned (.agg #[.int .i64 1, .int .i64 1, .int .i64 1, .int .i64 0, .slice (some ⟨w3.heap.size + 1, 0, none⟩) 1 1, .slice (some ⟨w3.heap.size + 2, 0, none⟩) 1 1])) (((X.alloc (.cells #[.int .i64 0, .int .i64 0, .int .i64 21, .int .i64 0, .int .i64 0, .slice (some ⟨a, 0, none⟩) 1 1] 76)).alloc (.cells #[.int .i64 0, .int .i64 0, .slice (some ⟨w2.heap.size, 0, none⟩) 1 1, .int .i64 1, .slice (some ⟨w3.heap.size, 0, none⟩) 1 1] 45)).alloc (.cells #[.int .i64 0, .slice none 0 0, .slice none 0 0] 47)) := by
      intro X hs hk hb
      have hsz : (((X.alloc (.cells #[.int .i64 0, .int .i64 0, .int .i64 21, .int .i64 0, .int .i64 0, .slice (some ⟨a, 0, none⟩) 1 1] 76)).alloc (.cells #[.int .i64 0, .int .i64 0, .slice (some ⟨w2.heap.size, 0, none⟩) 1 1, .int .i64 1, .slice (some ⟨w3.heap.size, 0, none⟩) 1 1] 45)).alloc (.cells #[.int .i64 0, .slice none 0 0, .slice none 0 0] 47)).heap.size = w3.heap.size + 3 := by simp [hs]
      have hold : ∀ g, g < w3.heap.size → (((X.alloc (.cells #[.int .i64 0, .int .i64 0, .int .i64 21, .int .i64 0, .int .i64 0, .slice (some ⟨a, 0, none⟩) 1 1] 76)).alloc (.cells #[.int .i64 0, .int .i64 0, .slice (some ⟨w2.heap.size, 0, none⟩) 1 1, .int .i64 1, .slice (some ⟨w3.heap.size, 0, none⟩) 1 1] 45)).alloc (.cells #[.int .i64 0, .slice none 0 0, .slice none 0 0] 47)).heap[g]? = X.heap[g]? := fun g hg => by
        rw [Below.heap_alloc _ _ _ (by simp; omega), Below.heap_alloc _ _ _ (by simp; omega), Below.heap_alloc _ _ _ (by omega)]
      refine ⟨_, _, rfl, ?_, ?_, ?_⟩
      · refine dB_rules (g := g) (k := w2.heap.size) (a := a) (b := w3.heap.size) (c := w3.heap.size + 1) (by omega) (by omega) (by omega) (by omega) (by omega) ?_ ?_ ?_ ?_ ?_
        · exact (hold g (by omega)).trans ((hk g hg1 hg2).trans hG)
        · exact (hold _ hz3).trans ((hk _ (by omega) (by omega)).trans hK)
        · exact (hold a hal).trans ((hk a ha1 ha2).trans ha)
        · rw [Below.heap_alloc _ _ _ (by simp; omega), Below.heap_alloc _ _ _ (by simp; omega)]
          exact heap_at rfl hs.symm
        · rw [Below.heap_alloc _ _ _ (by simp; omega)]
          exact heap_at rfl (by simp [hs])
      · exact dB_finals (c := w3.heap.size + 2) (by omega) (heap_at rfl (by simp [hs]))
      · have h0 : Below w.heap.size w X := hBB.trans hb
        exact ((h0.alloc (by omega) _).alloc (by simp; omega) _).alloc (by simp; omega) _
    refine key _ (by simp [World.setCell]) (fun g h1 h2 => by
      rw [Below.heap_setCell _ _ _ _ h2, Below.heap_setCell _ _ _ _ h2, Below.heap_setCell _ _ _ _ h2, Below.heap_setCell _ _ _ _ h2, Below.heap_setCell _ _ _ _ h2, Below.heap_setCell _ _ _ _ h2, Below.heap_setCell _ _ _ _ h1, Below.heap_setCell _ _ _ _ h1]) ?_
    have q0 : w.heap.size ≤ w1.heap.size := by omega
    exact ((((((((Below.refl _ _).setCell (p := ⟨w1.heap.size, 4, none⟩) q0 _).setCell (p := ⟨w1.heap.size, 5, none⟩) q0 _).setCell (p := ⟨w.heap.size, 0, none⟩) (Nat.le_refl _) _).setCell (p := ⟨w.heap.size, 1, none⟩) (Nat.le_refl _) _).setCell (p := ⟨w.heap.size, 2, none⟩) (Nat.le_refl _) _).setCell (p := ⟨w.heap.size, 3, none⟩) (Nat.le_refl _) _).setCell (p := ⟨w.heap.size, 4, none⟩) (Nat.le_refl _) _).setCell (p := ⟨w.heap.size, 5, none⟩) (Nat.le_refl _) _

/-! ### its text -/
def wantB : By := [117, 109, 108, 97, 117, 116, 32, 49, 32, 49, 32, 49, 32, 48, 10, 114, 117, 108, 101, 32, 48, 32, 48, 32, 49, 32, 91, 48, 46, 46, 50, 53, 53, 93, 32, 45, 62, 32, 40, 48, 32, 48, 32, 50, 49, 32, 48, 32, 48, 59, 32, 48, 32, 48, 32, 50, 49, 32, 48, 41, 10, 102, 105, 110, 97, 108, 32, 48, 32, 45, 62, 10]
theorem itoa0 : Lib.itoa 0 = [48] := by unfold Lib.itoa; rw [if_neg (by decide)]; exact Lib.decDigits_one (i := 0) (by decide)
theorem itoa1 : Lib.itoa 1 = [49] := by unfold Lib.itoa; rw [if_neg (by decide)]; exact Lib.decDigits_one (i := 1) (by decide)
theorem itoa21 : Lib.itoa 21 = [50, 49] := by unfold Lib.itoa; rw [if_neg (by decide)]; exact Lib.decDigits_two (i := 21) (by decide) (by decide)
theorem itoa255 : Lib.itoa 255 = [50, 53, 53] := by
  unfold Lib.itoa
  rw [if_neg (by decide)]
  show Lib.decDigits 255 = _
  rw [Lib.decDigits, dif_neg (by decide), show 255 / 10 = 25 from rfl, Lib.decDigits_two (i := 25) (by decide) (by decide)]
  rfl
theorem print_dB : printL dB = wantB := by
  simp [printL, dB, headL, rulesL, finalsL, ruleL, finalL, bodyL, guardsL, spansFrom, termsL, partsL, numsFrom, sepL, nl, itoa0, itoa1, itoa21, itoa255, wantB]
theorem dB_ok : dB.ok := by
  have z0 := i0 0 (by decide) (by decide)
  have z1 := i0 1 (by decide) (by decide)
  have z2 := i0 21 (by decide) (by decide)
  have z3 := i0 255 (by decide) (by decide)
  refine ⟨⟨z1, z1, z1, z0⟩, ?_, ?_⟩
  · intro r hr
    simp [dB] at hr
    subst hr
    refine ⟨⟨z0, z0, z1⟩, ?_, ?_⟩
    · intro g hg s hs
      simp at hg
      subst hg
      simp at hs
      subst hs
      exact ⟨z0, z3⟩
    · intro t ht
      simp at ht
      subst ht
      refine ⟨⟨z0, z0, z2, z0, z0⟩, ?_⟩
      intro p hp
      simp at hp
      subst hp
      exact ⟨z0, z0, z2, z0⟩
  · intro r hr
    simp [dB] at hr
    subst hr
    exact ⟨z0, (fun g hg => by cases hg), (fun g hg => by cases hg)⟩
theorem parse_dB : parseF (wantB.length + 1) 1 d0 wantB = .inl dB := by
  rw [← print_dB]
  exact parse_print dB dB_ok _ (Nat.lt_succ_self _)
end Go.Proofs.YtcdnkmefcldfmaaDoor
