/-
  The table of UTF-8's sequences, and the term that is a sequence's scalar: utf.Rows, codec.scalar.
-/
import Derived.Test.YthfcbbdghggefaaGreatRMkB
namespace Go.Proofs.YthfcbbdghggefaaGreat
open Go.RowKit Go.Um Go.Proofs
set_option maxHeartbeats 2000000 in
set_option maxRecDepth 100000 in
theorem Rows_calls (w : World) : Calls Tryz.prog 40 #[] w fun e w' => ∃ u, e = .returned u ∧ (listR (listR spansR)).rel w' (Fresh w.heap.size w') [u] rowsP ∧ Below w.heap.size w w' := by
  have hF1 := one_span (w := w) (Nat.le_refl _) 0 127 (okI (by omega)) (okI (by omega))
  obtain ⟨wa, hwa⟩ : ∃ wa, wa = w.alloc (.cells #[.int .i64 0, .int .i64 127] 75) := ⟨_, rfl⟩
  have hBa : Below w.heap.size w wa := by rw [hwa]; exact (Below.refl _ w).alloc (Nat.le_refl _) _
  have hsa : wa.heap.size = w.heap.size + 1 := by rw [hwa]; simp
  rw [← hwa] at hF1
  have hR0 := (FL.one (e := 76) (r := spansR) (w := wa) (b0 := w.heap.size) (base := w.heap.size) (cells := #[.slice (some ⟨w.heap.size, 0, none⟩) 1 1]) (hF1.rel (Nat.le_refl _)) rfl hBa.size).rel (Nat.le_refl _)
  have hB0 : Below w.heap.size w (wa.alloc (.cells #[.slice (some ⟨w.heap.size, 0, none⟩) 1 1] 76)) := hBa.alloc hBa.size _
  rw [hsa] at hR0
  rw [hwa] at hR0 hB0
  clear hF1 hBa hsa hwa wa
  go_enter Tryz.func40, Tryz.ntmps40
  go_wp2_with fail
  generalize (w.alloc (.cells #[.int .i64 0, .int .i64 127] 75)).alloc (.cells #[.slice (some ⟨w.heap.size, 0, none⟩) 1 1] 76) = w0 at *
  refine (row_calls 194 223 128 191 0 w0 (by decide) (by omega) (by omega) (by omega) (by omega)).mono ?_
  rintro e w1 ⟨u1, rfl, h1, hb1⟩
  obtain ⟨A1, c1, rfl, _, _⟩ := list_form h1
  have hR1 := rel_low (q := listR spansR) h1 hB0.size
  have hB1 := hB0.trans (hb1.mono hB0.size)
  replace hR0 := rel_fresh (q := listR spansR) hR0 hb1
  clear h1 hb1
  go_wp2_with fail
  refine (row_calls 224 224 160 191 1 w1 (by decide) (by omega) (by omega) (by omega) (by omega)).mono ?_
  rintro e w2 ⟨u2, rfl, h2, hb2⟩
  obtain ⟨A2, c2, rfl, _, _⟩ := list_form h2
  have hR2 := rel_low (q := listR spansR) h2 hB1.size
  have hB2 := hB1.trans (hb2.mono hB1.size)
  replace hR0 := rel_fresh (q := listR spansR) hR0 hb2
  replace hR1 := rel_fresh (q := listR spansR) hR1 hb2
  clear h2 hb2
  go_wp2_with fail
  refine (row_calls 225 236 128 191 1 w2 (by decide) (by omega) (by omega) (by omega) (by omega)).mono ?_
  rintro e w3 ⟨u3, rfl, h3, hb3⟩
  obtain ⟨A3, c3, rfl, _, _⟩ := list_form h3
  have hR3 := rel_low (q := listR spansR) h3 hB2.size
  have hB3 := hB2.trans (hb3.mono hB2.size)
  replace hR0 := rel_fresh (q := listR spansR) hR0 hb3
  replace hR1 := rel_fresh (q := listR spansR) hR1 hb3
  replace hR2 := rel_fresh (q := listR spansR) hR2 hb3
  clear h3 hb3
  go_wp2_with fail
  refine (row_calls 237 237 128 159 1 w3 (by decide) (by omega) (by omega) (by omega) (by omega)).mono ?_
  rintro e w4 ⟨u4, rfl, h4, hb4⟩
  obtain ⟨A4, c4, rfl, _, _⟩ := list_form h4
  have hR4 := rel_low (q := listR spansR) h4 hB3.size
  have hB4 := hB3.trans (hb4.mono hB3.size)
  replace hR0 := rel_fresh (q := listR spansR) hR0 hb4
  replace hR1 := rel_fresh (q := listR spansR) hR1 hb4
  replace hR2 := rel_fresh (q := listR spansR) hR2 hb4
  replace hR3 := rel_fresh (q := listR spansR) hR3 hb4
  clear h4 hb4
  go_wp2_with fail
  refine (row_calls 238 239 128 191 1 w4 (by decide) (by omega) (by omega) (by omega) (by omega)).mono ?_
  rintro e w5 ⟨u5, rfl, h5, hb5⟩
  obtain ⟨A5, c5, rfl, _, _⟩ := list_form h5
  have hR5 := rel_low (q := listR spansR) h5 hB4.size
  have hB5 := hB4.trans (hb5.mono hB4.size)
  replace hR0 := rel_fresh (q := listR spansR) hR0 hb5
  replace hR1 := rel_fresh (q := listR spansR) hR1 hb5
  replace hR2 := rel_fresh (q := listR spansR) hR2 hb5
  replace hR3 := rel_fresh (q := listR spansR) hR3 hb5
  replace hR4 := rel_fresh (q := listR spansR) hR4 hb5
  clear h5 hb5
  go_wp2_with fail
  refine (row_calls 240 240 144 191 2 w5 (by decide) (by omega) (by omega) (by omega) (by omega)).mono ?_
  rintro e w6 ⟨u6, rfl, h6, hb6⟩
  obtain ⟨A6, c6, rfl, _, _⟩ := list_form h6
  have hR6 := rel_low (q := listR spansR) h6 hB5.size
  have hB6 := hB5.trans (hb6.mono hB5.size)
  replace hR0 := rel_fresh (q := listR spansR) hR0 hb6
  replace hR1 := rel_fresh (q := listR spansR) hR1 hb6
  replace hR2 := rel_fresh (q := listR spansR) hR2 hb6
  replace hR3 := rel_fresh (q := listR spansR) hR3 hb6
  replace hR4 := rel_fresh (q := listR spansR) hR4 hb6
  replace hR5 := rel_fresh (q := listR spansR) hR5 hb6
  clear h6 hb6
  go_wp2_with fail
  refine (row_calls 241 243 128 191 2 w6 (by decide) (by omega) (by omega) (by omega) (by omega)).mono ?_
  rintro e w7 ⟨u7, rfl, h7, hb7⟩
  obtain ⟨A7, c7, rfl, _, _⟩ := list_form h7
  have hR7 := rel_low (q := listR spansR) h7 hB6.size
  have hB7 := hB6.trans (hb7.mono hB6.size)
  replace hR0 := rel_fresh (q := listR spansR) hR0 hb7
  replace hR1 := rel_fresh (q := listR spansR) hR1 hb7
  replace hR2 := rel_fresh (q := listR spansR) hR2 hb7
  replace hR3 := rel_fresh (q := listR spansR) hR3 hb7
  replace hR4 := rel_fresh (q := listR spansR) hR4 hb7
  replace hR5 := rel_fresh (q := listR spansR) hR5 hb7
  replace hR6 := rel_fresh (q := listR spansR) hR6 hb7
  clear h7 hb7
  go_wp2_with fail
  refine (row_calls 244 244 128 143 2 w7 (by decide) (by omega) (by omega) (by omega) (by omega)).mono ?_
  rintro e w8 ⟨u8, rfl, h8, hb8⟩
  obtain ⟨A8, c8, rfl, _, _⟩ := list_form h8
  have hR8 := rel_low (q := listR spansR) h8 hB7.size
  have hB8 := hB7.trans (hb8.mono hB7.size)
  replace hR0 := rel_fresh (q := listR spansR) hR0 hb8
  replace hR1 := rel_fresh (q := listR spansR) hR1 hb8
  replace hR2 := rel_fresh (q := listR spansR) hR2 hb8
  replace hR3 := rel_fresh (q := listR spansR) hR3 hb8
  replace hR4 := rel_fresh (q := listR spansR) hR4 hb8
  replace hR5 := rel_fresh (q := listR spansR) hR5 hb8
  replace hR6 := rel_fresh (q := listR spansR) hR6 hb8
  replace hR7 := rel_fresh (q := listR spansR) hR7 hb8
  clear h8 hb8
  go_wp2_with fail
  have hF := FL.lits (e := 43) (r := listR spansR) (w := w8) (b0 := w.heap.size) (base := w.heap.size) (css := [[.slice (some ⟨w.heap.size + 1, 0, none⟩) 1 1], [.slice A1 (rowP 194 223 128 191 0).length c1], [.slice A2 (rowP 224 224 160 191 1).length c2], [.slice A3 (rowP 225 236 128 191 1).length c3], [.slice A4 (rowP 237 237 128 159 1).length c4], [.slice A5 (rowP 238 239 128 191 1).length c5], [.slice A6 (rowP 240 240 144 191 2).length c6], [.slice A7 (rowP 241 243 128 191 2).length c7], [.slice A8 (rowP 244 244 128 143 2).length c8]]) (xs := rowsP) (cells := #[.slice (some ⟨w.heap.size + 1, 0, none⟩) 1 1, .slice A1 (rowP 194 223 128 191 0).length c1, .slice A2 (rowP 224 224 160 191 1).length c2, .slice A3 (rowP 225 236 128 191 1).length c3, .slice A4 (rowP 237 237 128 159 1).length c4, .slice A5 (rowP 238 239 128 191 1).length c5, .slice A6 (rowP 240 240 144 191 2).length c6, .slice A7 (rowP 241 243 128 191 2).length c7, .slice A8 (rowP 244 244 128 143 2).length c8]) ⟨hR0, hR1, hR2, hR3, hR4, hR5, hR6, hR7, hR8, trivial⟩ rfl hB8.size (by unfold maxLen rowsP; simp)
  go_ret
  exact ⟨_, rfl, hF.rel (Nat.le_refl _), hB8.alloc hB8.size _⟩
theorem infoPt : (Tryz.prog.info? 72).map (fun i => (i.zero, i.size, i.bytes)) = some (some (.agg #[.int .i64 0, .int .i64 0, .int .i64 0, .int .i64 0]), 4, 32) := by kernel_rfl
def bitsK (n k : Nat) : List Part := (List.range k).map (fun k => ⟨((n - 1 - k : Nat) : Int), 0, 6, 6 * (k : Int)⟩)
theorem bitsK_succ (n k : Nat) : bitsK n (k + 1) = bitsK n k ++ [⟨((n - 1 - k : Nat) : Int), 0, 6, 6 * (k : Int)⟩] := by unfold bitsK; rw [List.range_succ, List.map_append]; rfl
def ScalI (w wr : World) (n : Nat) (i : Value) (k : Nat) : Prop := ∃ vp, i = .int .i64 ((n : Int) - 1 - k) ∧ wr.heap[w.heap.size + 1]? = some (.cells #[.int .i64 0, .int .i64 0, .int .i64 21, .int .i64 0, .int .i64 0, vp] 69) ∧ (∃ z0 z1 z2 z3 z4 z5, wr.heap[w.heap.size]? = some (.cells #[z0, z1, z2, z3, z4, z5] 69)) ∧ FL 72 partR wr (w.heap.size + 2) (w.heap.size + 2) vp (bitsK n k) ∧ Below w.heap.size w wr
set_option maxHeartbeats 2000000 in
set_option maxRecDepth 100000 in
theorem scalar_calls (n : Nat) (w : World) (h1 : 1 ≤ n) (h4 : n ≤ 4) : Calls Tryz.prog 41 #[.int .i64 n] w fun e w' => TermPost (scalarT n) w e w' := by
  by_cases hn : n = 1
  · have hn1 : ((n : Int) == 1) = true := beq_t (by omega)
    have hS : Hid (scalarT n = copyT 0 0) := hid (by unfold scalarT; rw [if_pos hn])
    have HC := hid fun W => Copy_calls 0 0 W (okI (by omega))
    clear hn
    go_enter Tryz.func41, Tryz.ntmps41
    go_wp2_with fail
    refine (HC.out _).mono ?_
    rintro e w1 ⟨v, rfl, hp, hB1⟩
    have hB : Below w.heap.size w w1 := ((Below.refl w.heap.size w).alloc (Nat.le_refl _) _).trans (hB1.mono (by simp))
    have hX := (hB1.block w.heap.size (by simp)).trans (heap_alloc_new w _)
    have hXl := heapLtM hX
    obtain ⟨A, c, rfl, _, _⟩ := list_form hp
    have hp2 := (show (listR partR).rel w1 _ [.slice A 1 c] (copyT 0 0).parts from hp)
    clear hp
    unfold tval copyT
    dsimp only
    obtain ⟨x0, x1, x2, x3, x4, x5⟩ := six9 hX
    obtain ⟨f0, f1, f2, f3, f4, f5⟩ := fro6 hX
    go_wp2_with fail
    obtain ⟨ws, hws⟩ : ∃ ws, ws = setS w1 w.heap.size (.int .i64 0) (.int .i64 0) (.int .i64 21) (.int .i64 0) (.int .i64 0) (.slice A 1 c) := ⟨_, rfl⟩
    have hXs : ws.heap[w.heap.size]? = some (.cells #[.int .i64 0, .int .i64 0, .int .i64 21, .int .i64 0, .int .i64 0, .slice A 1 c] 69) := by rw [hws]; exact setS_heap hX _ _ _ _ _ _
    have hBs : Below w.heap.size w ws := by rw [hws]; exact hB.set6 (Nat.le_refl _) _ _ _ _ _ _
    have hss : ws.heap.size = w1.heap.size := by rw [hws]; exact setS_size ..
    have hoth : ∀ g, g ≠ w.heap.size → ws.heap[g]? = w1.heap[g]? := fun g hg => by rw [hws]; exact setS_other _ _ _ _ _ _ _ _ _ hg
    unfold setS at hws
    rw [← hws]
    clear hws
    obtain ⟨y0, y1, y2, y3, y4, y5⟩ := six9 hXs
    have hsl := heapLtM hXs
    have hps : (listR partR).rel ws (Fresh w.heap.size ws) [.slice A 1 c] (copyT 0 0).parts :=
      (listR partR).mono (fun p hp' => World.cell?_of_block (hoth _ (by have := hp'.1; simp at this; omega))) (fun b hb => ⟨by have := hb.1; simp at this; omega, by have := hb.2; omega⟩) hp2
    exact bodyPost_ret (v := .agg #[.int .i64 0, .int .i64 0, .int .i64 21, .int .i64 0, .int .i64 0, .slice A 1 c]) (by simp [results, Tryz.results41, go_sem, y0, y1, y2, y3, y4, y5]) rfl ⟨.slice A 1 c, by rw [hS.out]; rfl, by rw [hS.out]; exact hps, hBs⟩
  · have hn1 : ((n : Int) == 1) = false := beq_f (by omega)
    have hS : Hid (scalarT n = ⟨0, 0, 21, 0, 0, bitsK n (n - 1) ++ [⟨0, 0, 7 - (n : Int), 6 * ((n : Int) - 1)⟩]⟩) := hid (by unfold scalarT; rw [if_neg hn]; rfl)
    obtain ⟨inf, hi0, hz0, hz1, hz2⟩ := info_parts infoPt
    have hZ0 : ((w.alloc (.cells #[.int .i64 0, .int .i64 0, .int .i64 0, .int .i64 0, .int .i64 0, .slice none 0 0] 69)).alloc (.cells #[.int .i64 0, .int .i64 0, .int .i64 21, .int .i64 0, .int .i64 0, .slice none 0 0] 69)).heap[w.heap.size]? = some (.cells #[.int .i64 0, .int .i64 0, .int .i64 0, .int .i64 0, .int .i64 0, .slice none 0 0] 69) := by
      rw [Below.heap_alloc _ _ _ (by simp)]; exact heap_alloc_new _ _
    have hT0 : ((w.alloc (.cells #[.int .i64 0, .int .i64 0, .int .i64 0, .int .i64 0, .int .i64 0, .slice none 0 0] 69)).alloc (.cells #[.int .i64 0, .int .i64 0, .int .i64 21, .int .i64 0, .int .i64 0, .slice none 0 0] 69)).heap[w.heap.size + 1]? = some (.cells #[.int .i64 0, .int .i64 0, .int .i64 21, .int .i64 0, .int .i64 0, .slice none 0 0] 69) := by
      have := heap_alloc_new (w.alloc (.cells #[.int .i64 0, .int .i64 0, .int .i64 0, .int .i64 0, .int .i64 0, .slice none 0 0] 69)) (.cells #[.int .i64 0, .int .i64 0, .int .i64 21, .int .i64 0, .int .i64 0, .slice none 0 0] 69)
      simpa using this
    have hB0 : Below w.heap.size w ((w.alloc (.cells #[.int .i64 0, .int .i64 0, .int .i64 0, .int .i64 0, .int .i64 0, .slice none 0 0] 69)).alloc (.cells #[.int .i64 0, .int .i64 0, .int .i64 21, .int .i64 0, .int .i64 0, .slice none 0 0] 69)) := ((Below.refl _ w).alloc (Nat.le_refl _) _).alloc (by simp) _
    clear hn
    go_enter Tryz.func41, Tryz.ntmps41
    go_wp2_with fail
    generalize (w.alloc (.cells #[.int .i64 0, .int .i64 0, .int .i64 0, .int .i64 0, .int .i64 0, .slice none 0 0] 69)).alloc (.cells #[.int .i64 0, .int .i64 0, .int .i64 21, .int .i64 0, .int .i64 0, .slice none 0 0] 69) = wm at *
    go_loopw [4] (fun vi wr => ∃ k : Nat, k ≤ n - 1 ∧ ScalI w wr n vi k) (fun vi _ => (intOf vi).toNat)
    case atStart => exact ⟨0, Nat.zero_le _, _, by simp, hT0, ⟨_, _, _, _, _, _, hZ0⟩, OwnR.nil, hB0⟩
    case round =>
      clear hT0 hZ0 hB0
      obtain ⟨k, hk, vp, rfl, hT, ⟨z0, z1, z2, z3, z4, z5, hZ⟩, hF, hB⟩ := hrel
      obtain ⟨wo, hwo⟩ : ∃ wo, wo = wr := ⟨_, rfl⟩
      subst hwo
      obtain ⟨i, hi⟩ : ∃ i : Nat, i = n - 1 - k := ⟨_, rfl⟩
      have hin : (n : Int) - 1 - k = (i : Int) := by omega
      rw [hin]
      have hs2 : w.heap.size + 2 ≤ wo.heap.size := by have := heapLtM hT; omega
      have hib : (i : Int) ≤ 3 := by omega
      have hn4 : (n : Int) ≤ 4 := by omega
      have hn0 : (1 : Int) ≤ n := by omega
      have HF := hid hF
      have HB := hid hB
      have HT := hid hT
      have HZ := hid hZ
      obtain ⟨Ap, cp, rfl⟩ := hF.len
      obtain ⟨x0, x1, x2, x3, x4, x5⟩ := six9 hT
      have hbl : (bitsK n k).length ≤ 4 := by unfold bitsK; simp; omega
      by_cases hlt : k < n - 1
      · have hi0' : (0 : Int) < (i : Int) := by omega
        have hpart : Hid (bitsK n (k + 1) = bitsK n k ++ [Part.mk (i : Int) 0 6 (6 * ((n : Int) - 1 - (i : Int)))]) := hid (by
          rw [bitsK_succ, hi]
          congr 3
          omega)
        have hBa : Below wo.heap.size wo (wo.alloc (.cells #[.int .i64 i, .int .i64 0, .int .i64 6, .int .i64 (6 * ((n : Int) - 1 - (i : Int)))] 72)) := (Below.refl _ wo).alloc (Nat.le_refl _) _
        have HIN := hid hin
        have hk1 : k + 1 ≤ n - 1 := by omega
        clear hF hB hT hZ hin hi hlt hk
        go_wp2_with (at_builtin; refine Hid.out ?_)
        refine hid ?_
        show wpList _ _ _ _ _ _
        refine wpList_append_fl (r := partR) (v := .slice Ap (bitsK n k).length cp) (xs := bitsK n k) (by rfl) _ _ 67 (by rfl) inf _ 32 Tryz.underlying67 hi0 hz0 hz1 hz2 rfl (by decide) (by rfl) HF.out hBa (by simp; omega) ⟨wo.heap.size, 0, none⟩ 1 ⟨(i : Int), 0, 6, 6 * ((n : Int) - 1 - (i : Int))⟩ [.int .i64 i, .int .i64 0, .int .i64 6, .int .i64 (6 * ((n : Int) - 1 - (i : Int)))] (by rfl) ⟨rfl, (okI (by omega) : I64 (i : Int)), (okI (by omega) : I64 0), (okI (by omega) : I64 6), (okI (by omega) : I64 (6 * ((n : Int) - 1 - (i : Int))))⟩
          (news_at (w := wo) (cs := #[_, _, _, _]) rfl) (by simp [Value.oneCell']) (by unfold maxLen; omega) (by omega) ?_
        intro v' w3 hF3 hB3
        have hT3 := ((hB3.block _ (by omega)).trans (hBa.block _ (by omega))).trans HT.out
        have hZ3 := ((hB3.block _ (by omega)).trans (hBa.block _ (by omega))).trans HZ.out
        obtain ⟨Aq, cq, rfl⟩ := hF3.len
        have hTs := heap_setCell_same w3 (w.heap.size + 1) 5 _ _ (.slice Aq (bitsK n k ++ [Part.mk (i : Int) 0 6 (6 * ((n : Int) - 1 - (i : Int)))]).length cq) hT3
        have hZs := (heap_setCell_other w3 ⟨w.heap.size + 1, 5, none⟩ w.heap.size (.slice Aq (bitsK n k ++ [Part.mk (i : Int) 0 6 (6 * ((n : Int) - 1 - (i : Int)))]).length cq) (by simp)).trans hZ3
        have HF3 := hid (hF3.keep (w' := w3.setCell ⟨w.heap.size + 1, 5, none⟩ (.slice Aq (bitsK n k ++ [Part.mk (i : Int) 0 6 (6 * ((n : Int) - 1 - (i : Int)))]).length cq)) (Nat.le_refl _) (by simp) (fun g hg _ => heap_setCell_other _ _ _ _ (by simp only; omega)))
        have HB3 := hid (((HB.out.trans (hBa.mono (by omega))).trans (hB3.mono (by omega))).setCell (p := ⟨w.heap.size + 1, 5, none⟩) (by simp) (.slice Aq (bitsK n k ++ [Part.mk (i : Int) 0 6 (6 * ((n : Int) - 1 - (i : Int)))]).length cq))
        obtain ⟨q0, q1, q2, q3, q4, q5⟩ := six9 hT3
        obtain ⟨f0, f1, f2, f3, f4, f5⟩ := fro6 hT3
        have HE : Hid (∃ k' : Nat, k' ≤ n - 1 ∧ ScalI w (w3.setCell ⟨w.heap.size + 1, 5, none⟩ (.slice Aq (bitsK n k ++ [Part.mk (i : Int) 0 6 (6 * ((n : Int) - 1 - (i : Int)))]).length cq)) n (.int .i64 ((i : Int) - 1)) k') := hid ⟨k + 1, hk1, _, by have := HIN.out; congr 1; omega, hTs, ⟨_, _, _, _, _, _, hZs⟩, by rw [hpart.out]; exact HF3.out, HB3.out⟩
        clear hF3 hB3 hT3 hZ3 hTs hZs x0 x1 x2 x3 x4 x5
        go_wp2_with fail
        first
          | (refine ⟨HE.out, ?_⟩; simp [intOf]; omega)
          | (go_simp; refine ⟨by simpa using HE.out, ?_⟩; simp [intOf]; omega)
      · have hi0' : ¬ (0 : Int) < (i : Int) := by omega
        have hkn : Hid (bitsK n k = bitsK n (n - 1)) := hid (by rw [show k = n - 1 by omega])
        have hBa : Below wo.heap.size wo (wo.alloc (.cells #[.int .i64 0, .int .i64 0, .int .i64 (7 - (n : Int)), .int .i64 (6 * ((n : Int) - 1))] 72)) := (Below.refl _ wo).alloc (Nat.le_refl _) _
        clear hF hB hT hZ hin hi hlt hk
        go_wp2_with (at_builtin; refine Hid.out ?_)
        refine hid ?_
        show wpList _ _ _ _ _ _
        refine wpList_append_fl (r := partR) (v := .slice Ap (bitsK n k).length cp) (xs := bitsK n k) (by rfl) _ _ 67 (by rfl) inf _ 32 Tryz.underlying67 hi0 hz0 hz1 hz2 rfl (by decide) (by rfl) HF.out hBa (by simp; omega) ⟨wo.heap.size, 0, none⟩ 1 ⟨0, 0, 7 - (n : Int), 6 * ((n : Int) - 1)⟩ [.int .i64 0, .int .i64 0, .int .i64 (7 - (n : Int)), .int .i64 (6 * ((n : Int) - 1))] (by rfl) ⟨rfl, (okI (by omega) : I64 0), (okI (by omega) : I64 0), (okI (by omega) : I64 (7 - (n : Int))), (okI (by omega) : I64 (6 * ((n : Int) - 1)))⟩
          (news_at (w := wo) (cs := #[_, _, _, _]) rfl) (by simp [Value.oneCell']) (by unfold maxLen; omega) (by omega) ?_
        intro v' w3 hF3 hB3
        have hT3 := ((hB3.block _ (by omega)).trans (hBa.block _ (by omega))).trans HT.out
        have hZ3 := ((hB3.block _ (by omega)).trans (hBa.block _ (by omega))).trans HZ.out
        have HB3 := hid ((HB.out.trans (hBa.mono (by omega))).trans (hB3.mono (by omega)))
        have HFQ := hid (by have := hF3; rw [hkn.out] at this; exact this)
        have hlq : (bitsK n k ++ [Part.mk 0 0 (7 - (n : Int)) (6 * ((n : Int) - 1))]).length = (bitsK n (n - 1) ++ [Part.mk 0 0 (7 - (n : Int)) (6 * ((n : Int) - 1))]).length := by rw [hkn.out]
        obtain ⟨Aq, cq, rfl⟩ := hF3.len
        obtain ⟨m, hm⟩ : ∃ m, m = (bitsK n k ++ [Part.mk 0 0 (7 - (n : Int)) (6 * ((n : Int) - 1))]).length := ⟨_, rfl⟩
        rw [← hm] at HFQ ⊢
        clear hlq hm
        obtain ⟨w4, hw4⟩ : ∃ w4, w4 = w3.setCell ⟨w.heap.size + 1, 5, none⟩ (.slice Aq m cq) := ⟨_, rfl⟩
        have hZ4 : w4.heap[w.heap.size]? = some (.cells #[z0, z1, z2, z3, z4, z5] 69) := by rw [hw4]; exact (heap_setCell_other w3 ⟨w.heap.size + 1, 5, none⟩ w.heap.size (.slice Aq m cq) (by simp)).trans hZ3
        have HF4 : Hid (FL 72 partR w4 (w.heap.size + 2) (w.heap.size + 2) (.slice Aq m cq) (bitsK n (n - 1) ++ [Part.mk 0 0 (7 - (n : Int)) (6 * ((n : Int) - 1))])) := hid (by
          rw [hw4]; exact HFQ.out.keep (Nat.le_refl _) (by simp) (fun g hg _ => heap_setCell_other _ _ _ _ (by simp only; omega)))
        have hB : Below w.heap.size w w4 := by rw [hw4]; exact HB3.out.setCell (p := ⟨w.heap.size + 1, 5, none⟩) (by simp) _
        obtain ⟨q0, q1, q2, q3, q4, q5⟩ := six9 hT3
        obtain ⟨f0, f1, f2, f3, f4, f5⟩ := fro6 hT3
        obtain ⟨c0, c1, c2, c3, c4, c5⟩ := six9 hZ3
        obtain ⟨d0, d1, d2, d3, d4, d5⟩ := fro6 hZ3
        clear hF3 hB3 hT3 hZ3 x0 x1 x2 x3 x4 x5 HFQ HB3
        have HW4 := hid hw4
        clear hw4
        go_wp2_with fail
        rw [← HW4.out]
        have hX := hZ4
        obtain ⟨ws, hws⟩ : ∃ ws, ws = setS w4 w.heap.size (.int .i64 0) (.int .i64 0) (.int .i64 21) (.int .i64 0) (.int .i64 0) (.slice Aq m cq) := ⟨_, rfl⟩
        have hXs : ws.heap[w.heap.size]? = some (.cells #[.int .i64 0, .int .i64 0, .int .i64 21, .int .i64 0, .int .i64 0, .slice Aq m cq] 69) := by rw [hws]; exact setS_heap hX _ _ _ _ _ _
        have hBs : Below w.heap.size w ws := by rw [hws]; exact hB.set6 (Nat.le_refl _) _ _ _ _ _ _
        have hss : ws.heap.size = w4.heap.size := by rw [hws]; exact setS_size ..
        have hoth : ∀ g, g ≠ w.heap.size → ws.heap[g]? = w4.heap[g]? := fun g hg => by rw [hws]; exact setS_other _ _ _ _ _ _ _ _ _ hg
        unfold setS at hws
        rw [← hws]
        clear hws
        obtain ⟨y0, y1, y2, y3, y4, y5⟩ := six9 hXs
        have hsl := heapLtM hXs
        have hFs := HF4.out.keep (w' := ws) (Nat.le_refl _) (by omega) (fun g hg _ => hoth g (by omega))
        exact bodyPost_ret (v := .agg #[.int .i64 0, .int .i64 0, .int .i64 21, .int .i64 0, .int .i64 0, .slice Aq m cq]) (by simp [results, Tryz.results41, go_sem, y0, y1, y2, y3, y4, y5]) rfl ⟨.slice Aq m cq, by rw [hS.out]; rfl, by rw [hS.out]; exact rel_low (q := listR partR) (hFs.rel (Nat.le_refl _)) (by omega), hBs⟩
end Go.Proofs.YthfcbbdghggefaaGreat
