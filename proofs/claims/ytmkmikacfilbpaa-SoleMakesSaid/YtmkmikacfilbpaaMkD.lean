/-
  What writes what it reads: desc.Same.
-/
import Derived.Test.YtmkmikacfilbpaaMkC
namespace Go.Proofs.Ytmkmikacfilbpaa
open Go.RowKit Go.Um Go.Proofs
theorem cellA (W : World) (o : Obj) (b j : Nat) (h : b < W.heap.size) : (W.alloc o).cell? ⟨b, j, none⟩ = W.cell? ⟨b, j, none⟩ := World.cell?_of_block (Below.heap_alloc _ _ _ h)
theorem froA (W : World) (o : Obj) (b j : Nat) (h : b < W.heap.size) : (W.alloc o).frozen? ⟨b, j, none⟩ = W.frozen? ⟨b, j, none⟩ := by
  unfold World.frozen?
  rw [Below.heap_alloc _ _ _ h]
set_option maxHeartbeats 2000000 in
set_option maxRecDepth 100000 in
theorem Same_calls (s : Int) (w : World) : Calls Try.prog 8 #[.int .i64 s] w fun e w' => DescPost (sameD s) w e w' := by
  have HE := hid fun W => Empty_calls s s W
  have HD := hid fun W => Domain_calls s W
  have HC := hid fun W => Copy_calls 0 0 W (okI (by omega))
  go_enter Try.func8, Try.ntmps8
  go_wp2_with fail
  refine (HE.out _).mono ?_
  rintro e w1 ⟨rfl, hB1⟩
  have hX1 := (hB1.block w.heap.size (by simp)).trans (heap_alloc_new w _)
  have hXl := heapLtM hX1
  have hB1w : Below w.heap.size w w1 := ((Below.refl w.heap.size w).alloc (Nat.le_refl _) _).trans (hB1.mono (by simp))
  clear hB1 HE
  go_wp2_with fail
  refine (HD.out _).mono ?_
  rintro e w2 ⟨u, rfl, ho, hB2⟩
  have hD2 := (hB2.block w1.heap.size (by simp)).trans (heap_alloc_new w1 _)
  have hX2 := ((hB2.block w.heap.size (by simp; omega)).trans (Below.heap_alloc _ _ _ hXl)).trans hX1
  have hDl := heapLtM hD2
  have hB2w : Below w.heap.size w w2 := (hB1w.alloc hB1w.size _).trans (hB2.mono (by have := hB1w.size; simp; omega))
  have hg := own_fresh ho (Nat.le_refl _)
  obtain ⟨A, c, rfl, _, _⟩ := list_form hg
  have hgl := FL.one (e := 55) (r := spansR) (b0 := w1.heap.size + 1) (base := w1.heap.size + 1) (cells := #[.slice A (domF s).length c]) (rel_low hg (by simp)) rfl (by omega)
  have hFc : ∀ g, Fresh (w1.alloc (.cells #[.int .i64 s, .int .i64 s, .int .i64 1, .int .i64 0, .slice none 0 0, .slice none 0 0] 29)).heap.size w2 g → w1.heap.size < g := fun g h9 => by have := h9.1; simp at this; omega
  clear hB2 ho HD hX1
  go_wp2_with fail
  refine (HC.out _).mono ?_
  rintro e w3 ⟨v, rfl, hp, hB3⟩
  have hD3 := (hB3.block w1.heap.size (by simp; omega)).trans ((Below.heap_alloc _ _ _ hDl).trans hD2)
  have hX3 := (hB3.block w.heap.size (by simp; omega)).trans ((Below.heap_alloc _ _ _ (by omega)).trans hX2)
  have hB3w : Below w.heap.size w w3 := (hB2w.alloc hB2w.size _).trans (hB3.mono (by have := hB2w.size; simp; omega))
  have hgl3 := hgl.later hB3
  have hDl3 := heapLtM hD3
  have hXl3 := heapLtM hX3
  have hxd : w.heap.size ≠ w1.heap.size := by omega
  have hs3 : w2.heap.size + 1 ≤ w3.heap.size := by have := hB3.size; simpa using this
  obtain ⟨A2, c2, rfl, _, _⟩ := list_form hp
  have hp3 := (show (listR partR).rel w3 _ [.slice A2 1 c2] (copyT 0 0).parts from hp)
  clear hp hgl hB3 HC hD2 hX2
  unfold tval copyT
  dsimp only
  have hcA := cellA
  have hfA := froA
  have hq1 : w1.heap.size < w3.heap.size + 1 := by omega
  have hq2 : w1.heap.size < w3.heap.size + 1 + 1 := by omega
  have hq3 : w.heap.size < w3.heap.size + 1 := by omega
  have hq4 : w.heap.size < w3.heap.size + 1 + 1 := by omega
  obtain ⟨x0, x1, x2, x3, x4, x5⟩ := six9 hD3
  obtain ⟨f0, f1, f2, f3, f4, f5⟩ := fro6 hD3
  obtain ⟨z0, z1, z2, z3, z4, z5⟩ := six9 hX3
  obtain ⟨e0, e1, e2, e3, e4, e5⟩ := fro6 hX3
  go_wp2_with fail
  clear x0 x1 x2 x3 x4 x5 f0 f1 f2 f3 f4 f5 z0 z1 z2 z3 z4 z5 e0 e1 e2 e3 e4 e5
  obtain ⟨wp, hwp⟩ : ∃ wp, wp = (w3.setCell ⟨w1.heap.size, 4, none⟩ (.slice (some ⟨w3.heap.size + 1, 0, none⟩) 1 1)).setCell ⟨w1.heap.size, 5, none⟩ (.slice (some ⟨w3.heap.size + 1 + 1, 0, none⟩) 1 1) := ⟨_, rfl⟩
  have hwx : wp.heap[w.heap.size]? = some (.cells #[.int .i64 0, .int .i64 0, .int .i64 0, .int .i64 0, .slice none 0 0, .slice none 0 0] 29) := by
    rw [hwp, heap_setCell_other _ _ _ _ (by simpa using hxd), heap_setCell_other _ _ _ _ (by simpa using hxd)]; exact hX3
  have hwo : ∀ g, g ≠ w1.heap.size → wp.heap[g]? = w3.heap[g]? := fun g h9 => by
    rw [hwp, heap_setCell_other _ _ _ _ (by simpa using h9), heap_setCell_other _ _ _ _ (by simpa using h9)]
  have hwb : Below w.heap.size w wp := by rw [hwp]; exact (hB3w.setCell (p := ⟨w1.heap.size, 4, none⟩) (by simp only; omega) _).setCell (p := ⟨w1.heap.size, 5, none⟩) (by simp only; omega) _
  have hwz : wp.heap.size = w3.heap.size := by rw [hwp]; simp
  rw [← hwp]
  clear hwp
  obtain ⟨ws, hws⟩ : ∃ ws, ws = setS wp w.heap.size (.int .i64 s) (.int .i64 s) (.int .i64 1) (.int .i64 0) (.slice (some ⟨w3.heap.size + 1, 0, none⟩) 1 1) (.slice (some ⟨w3.heap.size + 1 + 1, 0, none⟩) 1 1) := ⟨_, rfl⟩
  have hXs : ws.heap[w.heap.size]? = some (.cells #[.int .i64 s, .int .i64 s, .int .i64 1, .int .i64 0, .slice (some ⟨w3.heap.size + 1, 0, none⟩) 1 1, .slice (some ⟨w3.heap.size + 1 + 1, 0, none⟩) 1 1] 29) := by rw [hws]; exact setS_heap hwx _ _ _ _ _ _
  have hBs : Below w.heap.size w ws := by rw [hws]; exact hwb.set6 (Nat.le_refl _) _ _ _ _ _ _
  have hss : ws.heap.size = w3.heap.size := by rw [hws, setS_size, hwz]
  have hoth : ∀ g, w1.heap.size < g → ws.heap[g]? = w3.heap[g]? := fun g h9 => by rw [hws, setS_other _ _ _ _ _ _ _ _ _ (by omega), hwo _ (by omega)]
  unfold setS at hws
  rw [← hws]
  clear hws hwx hwo hwb
  have hps : (listR partR).rel ws (Fresh w.heap.size ws) [.slice A2 1 c2] (copyT 0 0).parts :=
    (listR partR).mono (fun p hp => World.cell?_of_block (hoth _ (by have := hp.1; simp at this; omega))) (fun b hb => ⟨by have := hb.1; simp at this; omega, by have := hb.2; omega⟩) hp3
  have hgs : (listR spansR).rel ws (Fresh w.heap.size ws) [.slice (some ⟨w2.heap.size, 0, none⟩) 1 1] [domF s] :=
    (listR spansR).mono (fun p hp => World.cell?_of_block (hoth _ (by have := hp.1; omega))) (fun b hb => ⟨by have := hb.1; omega, by have := hb.2; omega⟩) (hgl3.rel (Nat.le_refl _))
  have hFt := FL.one (e := 47) (r := termR) (x := copyT 0 0) (w := ws) (b0 := w.heap.size) (base := w.heap.size) (cells := #[.int .i64 0, .int .i64 0, .int .i64 21, .int .i64 0, .int .i64 0, .slice A2 1 c2]) ⟨_, rfl, ⟨(okI (by omega) : I64 0), (okI (by omega) : I64 0), (okI (by omega) : I64 21), (okI (by omega) : I64 0), (okI (by omega) : I64 0)⟩, hps⟩ rfl hBs.size
  have hBt : Below ws.heap.size ws (ws.alloc (.cells #[.int .i64 0, .int .i64 0, .int .i64 21, .int .i64 0, .int .i64 0, .slice A2 1 c2] 47)) := (Below.refl _ ws).alloc (Nat.le_refl _) _
  have hBtw : Below w.heap.size w (ws.alloc (.cells #[.int .i64 0, .int .i64 0, .int .i64 21, .int .i64 0, .int .i64 0, .slice A2 1 c2] 47)) := hBs.alloc hBs.size _
  have hgt := rel_fresh (q := listR spansR) hgs hBt
  have hFr := FL.one (e := 50) (r := ruleR) (x := ⟨0, 0, [domF s], 1, [copyT 0 0]⟩) (w := ws.alloc (.cells #[.int .i64 0, .int .i64 0, .int .i64 21, .int .i64 0, .int .i64 0, .slice A2 1 c2] 47)) (b0 := w.heap.size) (base := w.heap.size) (cells := #[.int .i64 0, .int .i64 0, .slice (some ⟨w2.heap.size, 0, none⟩) 1 1, .int .i64 1, .slice (some ⟨ws.heap.size, 0, none⟩) 1 1]) ⟨_, _, rfl, ⟨(okI (by omega) : I64 0), (okI (by omega) : I64 0), (okI (by omega) : I64 1)⟩, hgt, hFt.rel (Nat.le_refl _)⟩ rfl hBtw.size
  have hFf := FL.one (e := 42) (r := finalR) (x := ⟨0, [], []⟩) (w := (ws.alloc (.cells #[.int .i64 0, .int .i64 0, .int .i64 21, .int .i64 0, .int .i64 0, .slice A2 1 c2] 47)).alloc (.cells #[.int .i64 0, .int .i64 0, .slice (some ⟨w2.heap.size, 0, none⟩) 1 1, .int .i64 1, .slice (some ⟨w3.heap.size, 0, none⟩) 1 1] 50)) (b0 := w.heap.size) (base := w.heap.size) (cells := #[.int .i64 0, .slice none 0 0, .slice none 0 0]) ⟨_, _, rfl, (okI (by omega) : I64 0), list_nil _ _ _, list_nil _ _ _⟩ rfl (hBtw.alloc hBtw.size _).size
  have hz1 : (ws.alloc (.cells #[.int .i64 0, .int .i64 0, .int .i64 21, .int .i64 0, .int .i64 0, .slice A2 1 c2] 47)).heap.size = w3.heap.size + 1 := by simp; omega
  have hz2 : ((ws.alloc (.cells #[.int .i64 0, .int .i64 0, .int .i64 21, .int .i64 0, .int .i64 0, .slice A2 1 c2] 47)).alloc (.cells #[.int .i64 0, .int .i64 0, .slice (some ⟨w2.heap.size, 0, none⟩) 1 1, .int .i64 1, .slice (some ⟨w3.heap.size, 0, none⟩) 1 1] 50)).heap.size = w3.heap.size + 1 + 1 := by simp; omega
  rw [hz1, hss] at hFr
  rw [hz2] at hFf
  have hFr2 := hFr.later ((Below.refl _ _).alloc (Nat.le_refl _) (.cells #[.int .i64 0, .slice none 0 0, .slice none 0 0] 42))
  have hB9 := (hBtw.alloc hBtw.size (.cells #[.int .i64 0, .int .i64 0, .slice (some ⟨w2.heap.size, 0, none⟩) 1 1, .int .i64 1, .slice (some ⟨w3.heap.size, 0, none⟩) 1 1] 50)).alloc (by rw [hz2]; have := hB3w.size; omega) (.cells #[.int .i64 0, .slice none 0 0, .slice none 0 0] 42)
  obtain ⟨y0, y1, y2, y3, y4, y5⟩ := six9 hXs
  have hsl := heapLtM hXs
  have hsl1 : w.heap.size < ws.heap.size + 1 := by omega
  have hsl2 : w.heap.size < ws.heap.size + 1 + 1 := by omega
  exact bodyPost_ret (v := .agg #[.int .i64 s, .int .i64 s, .int .i64 1, .int .i64 0, .slice (some ⟨w3.heap.size + 1, 0, none⟩) 1 1, .slice (some ⟨w3.heap.size + 1 + 1, 0, none⟩) 1 1]) (by simp [results, Try.results8, go_sem, y0, y1, y2, y3, y4, y5, hcA, hsl, hsl1, hsl2]) rfl ⟨.slice (some ⟨w3.heap.size + 1, 0, none⟩) 1 1, .slice (some ⟨w3.heap.size + 1 + 1, 0, none⟩) 1 1, rfl, hFr2.rel (Nat.le_refl _), hFf.rel (Nat.le_refl _), hB9⟩
end Go.Proofs.Ytmkmikacfilbpaa
