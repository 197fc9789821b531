/-
  What encodes scalars: codec.Encoder.
-/
import Derived.Test.YtmkmikacfilbpaaGreatRMkE
import Derived.Test.YtmkmikacfilbpaaGreatRMkH
namespace Go.Proofs.YtmkmikacfilbpaaGreat
open Go.RowKit Go.Um Go.Proofs
theorem five9 {W : World} {b : Nat} {x0 x1 x2 x3 x4 : Value} {t : TypeId} (h : W.heap[b]? = some (.cells #[x0, x1, x2, x3, x4] t)) :
    W.cell? ⟨b, 0, none⟩ = some x0 ∧ W.cell? ⟨b, 1, none⟩ = some x1 ∧ W.cell? ⟨b, 2, none⟩ = some x2 ∧ W.cell? ⟨b, 3, none⟩ = some x3 ∧ W.cell? ⟨b, 4, none⟩ = some x4 :=
  ⟨cell_of_row _ _ 0 _ _ _ h, cell_of_row _ _ 1 _ _ _ h, cell_of_row _ _ 2 _ _ _ h, cell_of_row _ _ 3 _ _ _ h, cell_of_row _ _ 4 _ _ _ h⟩
def encR (k : Nat) : Rule := ⟨0, 0, [encSets.getD k []], 1, encOut k⟩
def encRs : List Rule := [encR 0, encR 1, encR 2, encR 3]
theorem enc_rules : encodeD.rules = encRs := rfl
def InnI (b : Nat) (gv : Value) (wc wt : World) (L : List Term) : Prop := ∃ vo, wt.heap[b + 1]? = some (.cells #[.int .i64 0, .int .i64 0, gv, .int .i64 1, vo] 56) ∧ FL 90 termR wt (b + 1 + 1) (b + 1 + 1) vo L ∧ Below (b + 1) wc wt
def EncI (w w0 wr : World) (k : Nat) : Prop := ∃ vr, wr.heap[w.heap.size + 1 + 1]? = some (.cells #[.int .i64 2, .int .i64 1, .int .i64 1, .int .i64 0, vr, .slice (some ⟨w.heap.size + 1, 0, none⟩) 1 1] 26) ∧ FL 56 ruleR wr (w.heap.size + 1 + 1 + 1) (w.heap.size + 1 + 1 + 1 + 1 + 1 + 1 + 1 + 1) vr (encRs.take k) ∧ (∀ g, g < w.heap.size + 1 + 1 + 1 + 1 + 1 + 1 + 1 + 1 → g ≠ w.heap.size + 1 + 1 → wr.heap[g]? = w0.heap[g]?) ∧ w.heap.size + 1 + 1 + 1 + 1 + 1 + 1 + 1 + 1 ≤ wr.heap.size ∧ Below w.heap.size w wr
set_option maxHeartbeats 4000000 in
set_option maxRecDepth 100000 in
theorem Encoder_calls (w : World) : Calls Tryz.prog 32 #[] w fun e w' => DescOwn encodeD w e w' := by
  have HC := hid fun W => Copy_calls 0 0 W (okI (by omega))
  have HW := hid fun W => Whole_calls 0 W
  unfold pval wholeP at HW
  dsimp only at HW
  obtain ⟨inf, hi0, hz0, hz1, hz2⟩ := info_parts infoRu
  obtain ⟨inft, ht0, hy0, hy1, hy2⟩ := info_parts infoTm
  obtain ⟨w0, hw0⟩ : ∃ w0, w0 = ((((((((w.alloc (.cells #[.int .i64 0, .int .i64 0, .int .i64 0, .int .i64 0, .slice none 0 0, .slice none 0 0] 26)).alloc (.cells #[.int .i64 0, .slice none 0 0, .slice none 0 0] 59)).alloc (.cells #[.int .i64 2, .int .i64 1, .int .i64 1, .int .i64 0, .slice none 0 0, .slice (some ⟨w.heap.size + 1, 0, none⟩) 1 1] 26)).alloc (.cells #[.int .i64 0, .int .i64 127] 64)).alloc (.cells #[.int .i64 128, .int .i64 2047] 64)).alloc (.cells #[.int .i64 2048, .int .i64 55295, .int .i64 57344, .int .i64 65535] 64)).alloc (.cells #[.int .i64 65536, .int .i64 1114111] 64)).alloc (.cells #[.slice (some ⟨w.heap.size + 1 + 1 + 1, 0, none⟩) 1 1, .slice (some ⟨w.heap.size + 1 + 1 + 1 + 1, 0, none⟩) 1 1, .slice (some ⟨w.heap.size + 1 + 1 + 1 + 1 + 1, 0, none⟩) 2 2, .slice (some ⟨w.heap.size + 1 + 1 + 1 + 1 + 1 + 1, 0, none⟩) 1 1] 65)) := ⟨_, rfl⟩
  have hm0 : w0.heap[w.heap.size]? = some (.cells #[.int .i64 0, .int .i64 0, .int .i64 0, .int .i64 0, .slice none 0 0, .slice none 0 0] 26) := by
    rw [hw0]
    rw [Below.heap_alloc _ _ _ (by simp; try omega), Below.heap_alloc _ _ _ (by simp; try omega), Below.heap_alloc _ _ _ (by simp; try omega), Below.heap_alloc _ _ _ (by simp; try omega), Below.heap_alloc _ _ _ (by simp; try omega), Below.heap_alloc _ _ _ (by simp; try omega), Below.heap_alloc _ _ _ (by simp; try omega)]
    have := heap_alloc_new w (.cells #[.int .i64 0, .int .i64 0, .int .i64 0, .int .i64 0, .slice none 0 0, .slice none 0 0] 26)
    simpa using this
  have hm1 : w0.heap[w.heap.size + 1]? = some (.cells #[.int .i64 0, .slice none 0 0, .slice none 0 0] 59) := by
    rw [hw0]
    rw [Below.heap_alloc _ _ _ (by simp; try omega), Below.heap_alloc _ _ _ (by simp; try omega), Below.heap_alloc _ _ _ (by simp; try omega), Below.heap_alloc _ _ _ (by simp; try omega), Below.heap_alloc _ _ _ (by simp; try omega), Below.heap_alloc _ _ _ (by simp; try omega)]
    have := heap_alloc_new (w.alloc (.cells #[.int .i64 0, .int .i64 0, .int .i64 0, .int .i64 0, .slice none 0 0, .slice none 0 0] 26)) (.cells #[.int .i64 0, .slice none 0 0, .slice none 0 0] 59)
    simpa using this
  have hm2 : w0.heap[w.heap.size + 1 + 1]? = some (.cells #[.int .i64 2, .int .i64 1, .int .i64 1, .int .i64 0, .slice none 0 0, .slice (some ⟨w.heap.size + 1, 0, none⟩) 1 1] 26) := by
    rw [hw0]
    rw [Below.heap_alloc _ _ _ (by simp; try omega), Below.heap_alloc _ _ _ (by simp; try omega), Below.heap_alloc _ _ _ (by simp; try omega), Below.heap_alloc _ _ _ (by simp; try omega), Below.heap_alloc _ _ _ (by simp; try omega)]
    have := heap_alloc_new ((w.alloc (.cells #[.int .i64 0, .int .i64 0, .int .i64 0, .int .i64 0, .slice none 0 0, .slice none 0 0] 26)).alloc (.cells #[.int .i64 0, .slice none 0 0, .slice none 0 0] 59)) (.cells #[.int .i64 2, .int .i64 1, .int .i64 1, .int .i64 0, .slice none 0 0, .slice (some ⟨w.heap.size + 1, 0, none⟩) 1 1] 26)
    simpa using this
  have hm3 : w0.heap[w.heap.size + 1 + 1 + 1]? = some (.cells #[.int .i64 0, .int .i64 127] 64) := by
    rw [hw0]
    rw [Below.heap_alloc _ _ _ (by simp; try omega), Below.heap_alloc _ _ _ (by simp; try omega), Below.heap_alloc _ _ _ (by simp; try omega), Below.heap_alloc _ _ _ (by simp; try omega)]
    have := heap_alloc_new (((w.alloc (.cells #[.int .i64 0, .int .i64 0, .int .i64 0, .int .i64 0, .slice none 0 0, .slice none 0 0] 26)).alloc (.cells #[.int .i64 0, .slice none 0 0, .slice none 0 0] 59)).alloc (.cells #[.int .i64 2, .int .i64 1, .int .i64 1, .int .i64 0, .slice none 0 0, .slice (some ⟨w.heap.size + 1, 0, none⟩) 1 1] 26)) (.cells #[.int .i64 0, .int .i64 127] 64)
    simpa using this
  have hm4 : w0.heap[w.heap.size + 1 + 1 + 1 + 1]? = some (.cells #[.int .i64 128, .int .i64 2047] 64) := by
    rw [hw0]
    rw [Below.heap_alloc _ _ _ (by simp; try omega), Below.heap_alloc _ _ _ (by simp; try omega), Below.heap_alloc _ _ _ (by simp; try omega)]
    have := heap_alloc_new ((((w.alloc (.cells #[.int .i64 0, .int .i64 0, .int .i64 0, .int .i64 0, .slice none 0 0, .slice none 0 0] 26)).alloc (.cells #[.int .i64 0, .slice none 0 0, .slice none 0 0] 59)).alloc (.cells #[.int .i64 2, .int .i64 1, .int .i64 1, .int .i64 0, .slice none 0 0, .slice (some ⟨w.heap.size + 1, 0, none⟩) 1 1] 26)).alloc (.cells #[.int .i64 0, .int .i64 127] 64)) (.cells #[.int .i64 128, .int .i64 2047] 64)
    simpa using this
  have hm5 : w0.heap[w.heap.size + 1 + 1 + 1 + 1 + 1]? = some (.cells #[.int .i64 2048, .int .i64 55295, .int .i64 57344, .int .i64 65535] 64) := by
    rw [hw0]
    rw [Below.heap_alloc _ _ _ (by simp; try omega), Below.heap_alloc _ _ _ (by simp; try omega)]
    have := heap_alloc_new (((((w.alloc (.cells #[.int .i64 0, .int .i64 0, .int .i64 0, .int .i64 0, .slice none 0 0, .slice none 0 0] 26)).alloc (.cells #[.int .i64 0, .slice none 0 0, .slice none 0 0] 59)).alloc (.cells #[.int .i64 2, .int .i64 1, .int .i64 1, .int .i64 0, .slice none 0 0, .slice (some ⟨w.heap.size + 1, 0, none⟩) 1 1] 26)).alloc (.cells #[.int .i64 0, .int .i64 127] 64)).alloc (.cells #[.int .i64 128, .int .i64 2047] 64)) (.cells #[.int .i64 2048, .int .i64 55295, .int .i64 57344, .int .i64 65535] 64)
    simpa using this
  have hm6 : w0.heap[w.heap.size + 1 + 1 + 1 + 1 + 1 + 1]? = some (.cells #[.int .i64 65536, .int .i64 1114111] 64) := by
    rw [hw0]
    rw [Below.heap_alloc _ _ _ (by simp; try omega)]
    have := heap_alloc_new ((((((w.alloc (.cells #[.int .i64 0, .int .i64 0, .int .i64 0, .int .i64 0, .slice none 0 0, .slice none 0 0] 26)).alloc (.cells #[.int .i64 0, .slice none 0 0, .slice none 0 0] 59)).alloc (.cells #[.int .i64 2, .int .i64 1, .int .i64 1, .int .i64 0, .slice none 0 0, .slice (some ⟨w.heap.size + 1, 0, none⟩) 1 1] 26)).alloc (.cells #[.int .i64 0, .int .i64 127] 64)).alloc (.cells #[.int .i64 128, .int .i64 2047] 64)).alloc (.cells #[.int .i64 2048, .int .i64 55295, .int .i64 57344, .int .i64 65535] 64)) (.cells #[.int .i64 65536, .int .i64 1114111] 64)
    simpa using this
  have hm7 : w0.heap[w.heap.size + 1 + 1 + 1 + 1 + 1 + 1 + 1]? = some (.cells #[.slice (some ⟨w.heap.size + 1 + 1 + 1, 0, none⟩) 1 1, .slice (some ⟨w.heap.size + 1 + 1 + 1 + 1, 0, none⟩) 1 1, .slice (some ⟨w.heap.size + 1 + 1 + 1 + 1 + 1, 0, none⟩) 2 2, .slice (some ⟨w.heap.size + 1 + 1 + 1 + 1 + 1 + 1, 0, none⟩) 1 1] 65) := by
    rw [hw0]
    have := heap_alloc_new (((((((w.alloc (.cells #[.int .i64 0, .int .i64 0, .int .i64 0, .int .i64 0, .slice none 0 0, .slice none 0 0] 26)).alloc (.cells #[.int .i64 0, .slice none 0 0, .slice none 0 0] 59)).alloc (.cells #[.int .i64 2, .int .i64 1, .int .i64 1, .int .i64 0, .slice none 0 0, .slice (some ⟨w.heap.size + 1, 0, none⟩) 1 1] 26)).alloc (.cells #[.int .i64 0, .int .i64 127] 64)).alloc (.cells #[.int .i64 128, .int .i64 2047] 64)).alloc (.cells #[.int .i64 2048, .int .i64 55295, .int .i64 57344, .int .i64 65535] 64)).alloc (.cells #[.int .i64 65536, .int .i64 1114111] 64)) (.cells #[.slice (some ⟨w.heap.size + 1 + 1 + 1, 0, none⟩) 1 1, .slice (some ⟨w.heap.size + 1 + 1 + 1 + 1, 0, none⟩) 1 1, .slice (some ⟨w.heap.size + 1 + 1 + 1 + 1 + 1, 0, none⟩) 2 2, .slice (some ⟨w.heap.size + 1 + 1 + 1 + 1 + 1 + 1, 0, none⟩) 1 1] 65)
    simpa using this

  have hB0 : Below w.heap.size w w0 := by
    rw [hw0]
    exact (((((((((Below.refl _ w).alloc (Nat.le_refl _) _).alloc (by simp) _).alloc (by simp; omega) _).alloc (by simp; omega) _).alloc (by simp; omega) _).alloc (by simp; omega) _).alloc (by simp; omega) _).alloc (by simp; omega) _)
  have hs0 : w0.heap.size = w.heap.size + 1 + 1 + 1 + 1 + 1 + 1 + 1 + 1 := by rw [hw0]; simp
  go_enter Tryz.func32, Tryz.ntmps32
  go_wp2_with fail
  rw [← hw0]
  clear hw0
  have HM0 := hid hm0
  have HM1 := hid hm1
  have HM3 := hid hm3
  have HM4 := hid hm4
  have HM5 := hid hm5
  have HM6 := hid hm6
  have HM7 := hid hm7
  clear hm0 hm1 hm3 hm4 hm5 hm6 hm7
  go_loopw [23] (fun vi wr => ∃ (k : Nat) (z : Int), k ≤ 4 ∧ z = k ∧ vi = .int .i64 z ∧ EncI w w0 wr k) (fun vi _ => 4 - (intOf vi).toNat)
  case atStart => exact ⟨0, 0, Nat.zero_le _, rfl, rfl, _, hm2, OwnR.nil, fun _ _ _ => rfl, Nat.le_of_eq hs0.symm, hB0⟩
  case round =>
    clear hm2 hB0
    obtain ⟨k, z, hk, hzk, rfl, vr, hD, hF, hkeep, hsz, hB⟩ := hrel
    obtain ⟨wo, hwo⟩ : ∃ wo, wo = wr := ⟨_, rfl⟩
    subst hwo
    have HD := hid hD
    have HF := hid hF
    have HK := hid hkeep
    have HB := hid hB
    have hDl := heapLtM hD
    rcases k with _ | _ | _ | _ | k
    · obtain rfl : z = 0 := by simpa using hzk
      clear hzk
      obtain ⟨L, hL⟩ : ∃ L, L = encRs.take 0 := ⟨_, rfl⟩
      rw [← hL] at HF hF
      obtain ⟨Ar, cr, rfl⟩ := hF.len
      have hrl : L.length ≤ 9 := by rw [hL]; simp [encRs]; try omega
      have hSN : Hid (encRs.take 1 = L ++ [encR 0]) := hid (by rw [hL]; rfl)
      have HL := hid hL
      obtain ⟨x0, x1, x2, x3, x4, x5⟩ := six9 hD
      have hO7 := (hkeep (w.heap.size + 1 + 1 + 1 + 1 + 1 + 1 + 1) (by omega) (by omega)).trans HM7.out
      have o0 : wo.cell? ⟨w.heap.size + 1 + 1 + 1 + 1 + 1 + 1 + 1, 0, none⟩ = some (.slice (some ⟨w.heap.size + 1 + 1 + 1, 0, none⟩) 1 1) := cell_of_row _ _ 0 _ _ _ hO7
      have hcA := cellA
      have hfA := froA
      clear hD hF hkeep hB hL hO7
      go_wp2_with fail
      obtain ⟨wc, hwc⟩ : ∃ wc, wc = (wo.alloc (.cells #[.slice (some ⟨w.heap.size + 1 + 1 + 1, 0, none⟩) 1 1] 65)).alloc (.cells #[.int .i64 0, .int .i64 0, .slice (some ⟨wo.heap.size, 0, none⟩) 1 1, .int .i64 1, .slice none 0 0] 56) := ⟨_, rfl⟩
      have hBc : Below wo.heap.size wo wc := by rw [hwc]; exact ((Below.refl _ wo).alloc (Nat.le_refl _) _).alloc (by simp) _
      have hsc : wc.heap.size = wo.heap.size + 1 + 1 := by rw [hwc]; simp
      have hcD : wc.heap[w.heap.size + 1 + 1]? = wo.heap[w.heap.size + 1 + 1]? := hBc.block _ (by omega)
      have hcG : wc.heap[wo.heap.size]? = some (.cells #[.slice (some ⟨w.heap.size + 1 + 1 + 1, 0, none⟩) 1 1] 65) := by rw [hwc, Below.heap_alloc _ _ _ (by simp)]; exact heap_alloc_new wo _
      have hcR : wc.heap[wo.heap.size + 1]? = some (.cells #[.int .i64 0, .int .i64 0, .slice (some ⟨wo.heap.size, 0, none⟩) 1 1, .int .i64 1, .slice none 0 0] 56) := by
        rw [hwc]
        have := heap_alloc_new (wo.alloc (.cells #[.slice (some ⟨w.heap.size + 1 + 1 + 1, 0, none⟩) 1 1] 65)) (.cells #[.int .i64 0, .int .i64 0, .slice (some ⟨wo.heap.size, 0, none⟩) 1 1, .int .i64 1, .slice none 0 0] 56)
        simpa using this
      rw [← hwc]
      clear hwc x0 x1 x2 x3 x4 x5 o0
      refine (HC.out wc).mono ?_
      rintro e w1 ⟨vp, rfl, hp, hB1⟩
      have hR1 := (hB1.block (wo.heap.size + 1) (by omega)).trans hcR
      obtain ⟨r0, r1, r2, r3, r4⟩ := five9 hR1
      have f4 := frozen_of_row _ _ 4 _ _ hR1
      have hR1l := heapLtM hR1
      obtain ⟨A6, c6, rfl, _, _⟩ := list_form hp
      unfold tval copyT
      dsimp only
      go_wp2_with fail
      obtain ⟨w2, hw2⟩ : ∃ w2, w2 = w1.setCell ⟨wo.heap.size + 1, 4, none⟩ (.slice (some ⟨w1.heap.size, 0, none⟩) 1 1) := ⟨_, rfl⟩
      have hB2 : Below (wo.heap.size + 1) wc w2 := by rw [hw2]; exact (hB1.mono (by omega)).setCell (p := ⟨wo.heap.size + 1, 4, none⟩) (by simp) _
      have hs2 : w2.heap.size = w1.heap.size := by rw [hw2]; simp
      have hR2 : w2.heap[wo.heap.size + 1]? = some (.cells #[.int .i64 0, .int .i64 0, .slice (some ⟨wo.heap.size, 0, none⟩) 1 1, .int .i64 1, .slice (some ⟨w1.heap.size, 0, none⟩) 1 1] 56) := by rw [hw2]; exact (heap_setCell_same _ (wo.heap.size + 1) 4 _ _ _ hR1).trans rfl
      have hp2 := (listR partR).mono (w' := w2) (S' := Fresh wc.heap.size w2) (fun p hq => by rw [hw2]; exact World.cell?_of_block (heap_setCell_other _ _ _ _ (by have := hq.1; simp only; omega))) (fun b hb => ⟨hb.1, by have := hb.2; omega⟩) hp
      have hFo := FL.one (e := 90) (r := termR) (x := copyT 0 0) (w := w2) (b0 := wc.heap.size) (base := wc.heap.size) (cells := #[.int .i64 0, .int .i64 0, .int .i64 21, .int .i64 0, .int .i64 0, .slice A6 1 c6]) ⟨_, rfl, ⟨(okI (by omega) : I64 0), (okI (by omega) : I64 0), (okI (by omega) : I64 21), (okI (by omega) : I64 0), (okI (by omega) : I64 0)⟩, hp2⟩ rfl (by have := hB1.size; omega)
      rw [← hw2]
      obtain ⟨w3, hw3⟩ : ∃ w3, w3 = w2.alloc (.cells #[.int .i64 0, .int .i64 0, .int .i64 21, .int .i64 0, .int .i64 0, .slice A6 1 c6] 90) := ⟨_, rfl⟩
      have hB3 : Below (wo.heap.size + 1) wc w3 := by rw [hw3]; exact hB2.alloc (by have := hB2.size; omega) _
      have hR3 : w3.heap[wo.heap.size + 1]? = some (.cells #[.int .i64 0, .int .i64 0, .slice (some ⟨wo.heap.size, 0, none⟩) 1 1, .int .i64 1, .slice (some ⟨w1.heap.size, 0, none⟩) 1 1] 56) := by rw [hw3]; exact (Below.heap_alloc w2 (.cells #[.int .i64 0, .int .i64 0, .int .i64 21, .int .i64 0, .int .i64 0, .slice A6 1 c6] 90) (wo.heap.size + 1) (by omega)).trans hR2
      have hO3 := hFo.rel (Nat.le_refl _)
      rw [← hw3, hs2] at hO3
      rw [hsc] at hO3
      rw [← hw3]
      clear hw2 hw3 hFo hR2 hR1 hp hp2 r0 r1 r2 r3 r4 f4 hR1l
      -- the rule stands in its box: append it
      have hD3 := (hB3.block (w.heap.size + 1 + 1) (by omega)).trans (hcD.trans HD.out)
      obtain ⟨d0, d1, d2, d3, d4, d5⟩ := six9 hD3
      obtain ⟨g0, g1, g2, g3, g4, g5⟩ := fro6 hD3
      obtain ⟨r0, r1, r2, r3, r4⟩ := five9 hR3
      have hR3l := heapLtM hR3
      refine wp_loop_rounds 1 ?_
      rw [rounds_succ]
      go_wp2_with (at_builtin; refine Hid.out ?_)
      refine hid ?_
      have hBow : Below wo.heap.size wo w3 := hBc.trans (hB3.mono (by omega))
      have hBA : Below wo.heap.size wo (w3.alloc (.cells #[.int .i64 0, .int .i64 0, .slice (some ⟨wo.heap.size, 0, none⟩) 1 1, .int .i64 1, .slice (some ⟨w1.heap.size, 0, none⟩) 1 1] 56)) := hBow.alloc hBow.size _
      have hge : ∀ q, (Value.slice Ar L.length cr).ownBlock = some q → w.heap.size + 1 + 1 + 1 + 1 + 1 + 1 + 1 + 1 ≤ q := HF.out.own_ge
      have hown : ∀ q, (Value.slice Ar L.length cr).ownBlock = some q → q < wo.heap.size := HF.out.own_lt
      have hgs : (listR spansR).rel (w3.alloc (.cells #[.int .i64 0, .int .i64 0, .slice (some ⟨wo.heap.size, 0, none⟩) 1 1, .int .i64 1, .slice (some ⟨w1.heap.size, 0, none⟩) 1 1] 56)) (Els (w3.alloc (.cells #[.int .i64 0, .int .i64 0, .slice (some ⟨wo.heap.size, 0, none⟩) 1 1, .int .i64 1, .slice (some ⟨w1.heap.size, 0, none⟩) 1 1] 56)) (w.heap.size + 1 + 1 + 1) (.slice Ar L.length cr)) [.slice (some ⟨wo.heap.size, 0, none⟩) 1 1] [[⟨0, 127⟩]] := by
        refine ⟨_, 1, 1, rfl, rfl, Nat.le_refl _, by unfold maxLen; omega, .inr ⟨wo.heap.size, 0, rfl, ⟨by omega, by simp; omega, fun he => by have := hown _ he; omega⟩, fun i x hx => ?_⟩⟩
        cases i with
        | succ i => simp at hx
        | zero =>
          simp at hx
          subst hx
          have hgb := (Below.heap_alloc w3 (.cells #[.int .i64 0, .int .i64 0, .slice (some ⟨wo.heap.size, 0, none⟩) 1 1, .int .i64 1, .slice (some ⟨w1.heap.size, 0, none⟩) 1 1] 56) wo.heap.size (by omega)).trans ((hB3.block wo.heap.size (by omega)).trans hcG)
          have hsb := (Below.heap_alloc w3 (.cells #[.int .i64 0, .int .i64 0, .slice (some ⟨wo.heap.size, 0, none⟩) 1 1, .int .i64 1, .slice (some ⟨w1.heap.size, 0, none⟩) 1 1] 56) (w.heap.size + 1 + 1 + 1) (by omega)).trans ((hBow.block (w.heap.size + 1 + 1 + 1) (by omega)).trans ((HK.out (w.heap.size + 1 + 1 + 1) (by omega) (by omega)).trans HM3.out))
          refine ⟨[.slice (some ⟨w.heap.size + 1 + 1 + 1, 0, none⟩) 1 1], ⟨_, 1, 1, rfl, rfl, Nat.le_refl _, by unfold maxLen; omega, .inr ⟨w.heap.size + 1 + 1 + 1, 0, rfl, ⟨by omega, by simp; omega, fun he => by have := hge _ he; omega⟩, fun i x hx => ?_⟩⟩, fun j u hu => ?_⟩
          · rcases i with _ | _ | i
            · simp at hx
              subst hx
              exact ⟨_, ⟨rfl, (okI (by omega) : I64 0), (okI (by omega) : I64 127)⟩, fun j u hu => (cell_of_row _ _ _ _ _ _ hsb).trans (by rcases j with _ | _ | j <;> simp [Span.cells, show spanR.width = 2 from rfl] at hu ⊢ <;> exact hu)⟩
            · simp at hx
            · simp at hx
          · rw [cell_of_row _ _ _ _ _ _ hgb]
            simpa using hu
      have hot := rel_els (q := listR termR) (rel_fresh hO3 ((Below.refl _ w3).alloc (Nat.le_refl _) (.cells #[.int .i64 0, .int .i64 0, .slice (some ⟨wo.heap.size, 0, none⟩) 1 1, .int .i64 1, .slice (some ⟨w1.heap.size, 0, none⟩) 1 1] 56))) (v := .slice Ar L.length cr) (base := w.heap.size + 1 + 1 + 1) (fun g hg => by have := hown g hg; omega) (by omega)
      show wpList _ _ _ _ _ _
      refine wpList_append_fl (r := ruleR) (v := .slice Ar L.length cr) (xs := L) (by rfl) _ _ 23 (by rfl) inf _ 72 Tryz.underlying23 hi0 hz0 hz1 hz2 rfl (by decide) (by rfl) HF.out hBA (by simp; omega) ⟨w3.heap.size, 0, none⟩ 1 (encR 0) [.int .i64 0, .int .i64 0, .slice (some ⟨wo.heap.size, 0, none⟩) 1 1, .int .i64 1, .slice (some ⟨w1.heap.size, 0, none⟩) 1 1] (by rfl) ⟨_, _, rfl, ⟨(okI (by omega) : I64 0), (okI (by omega) : I64 0), (okI (by omega) : I64 1)⟩, hgs, hot⟩
        (news_at (w := w3) (cs := #[_, _, _, _, _]) (by simp)) (by simp [Value.oneCell']) (by unfold maxLen; omega) (by omega) ?_
      intro v' w6 hF6 hB6
      have hbx : ∀ q, q < wo.heap.size → w.heap.size + 1 + 1 + 1 + 1 + 1 + 1 + 1 + 1 > q → w6.heap[q]? = wo.heap[q]? := fun q hq h8 => (hB6.block q h8).trans (hBA.block q hq)
      have hD6 := (hbx (w.heap.size + 1 + 1) (by omega) (by omega)).trans HD.out
      obtain ⟨q0, q1, q2, q3, q4, q5⟩ := six9 hD6
      obtain ⟨p0, p1, p2, p3, p4, p5⟩ := fro6 hD6
      obtain ⟨Aw, cw, rfl⟩ := hF6.len
      have hTs : (w6.setCell ⟨w.heap.size + 1 + 1, 4, none⟩ (.slice Aw (L ++ [encR 0]).length cw)).heap[w.heap.size + 1 + 1]? = some (.cells #[.int .i64 2, .int .i64 1, .int .i64 1, .int .i64 0, .slice Aw (L ++ [encR 0]).length cw, .slice (some ⟨w.heap.size + 1, 0, none⟩) 1 1] 26) := (heap_setCell_same w6 (w.heap.size + 1 + 1) 4 _ _ (.slice Aw (L ++ [encR 0]).length cw) hD6).trans rfl
      have hFs := hF6.keep (w' := w6.setCell ⟨w.heap.size + 1 + 1, 4, none⟩ (.slice Aw (L ++ [encR 0]).length cw)) (by omega) (by simp) (fun q hq _ => heap_setCell_other _ _ _ _ (by simp only; omega))
      have hKs : ∀ q, q < w.heap.size + 1 + 1 + 1 + 1 + 1 + 1 + 1 + 1 → q ≠ w.heap.size + 1 + 1 → (w6.setCell ⟨w.heap.size + 1 + 1, 4, none⟩ (.slice Aw (L ++ [encR 0]).length cw)).heap[q]? = w0.heap[q]? := fun q h1 h2 => by
        rw [heap_setCell_other _ _ _ _ (by simpa using h2), hbx q (by omega) h1]; exact HK.out q h1 h2
      have hBs : Below w.heap.size w (w6.setCell ⟨w.heap.size + 1 + 1, 4, none⟩ (.slice Aw (L ++ [encR 0]).length cw)) := ((HB.out.trans (hBA.mono (by omega))).trans (hB6.mono (by omega))).setCell (p := ⟨w.heap.size + 1 + 1, 4, none⟩) (by simp only; omega) _
      have hzs : w.heap.size + 1 + 1 + 1 + 1 + 1 + 1 + 1 + 1 ≤ (w6.setCell ⟨w.heap.size + 1 + 1, 4, none⟩ (.slice Aw (L ++ [encR 0]).length cw)).heap.size := by simp; have h9 := hB6.size; have h8 := hBA.size; simp at h9 h8; omega
      have HE : Hid (∃ (k' : Nat) (z' : Int), k' ≤ 4 ∧ z' = k' ∧ Value.int .i64 1 = .int .i64 z' ∧ EncI w w0 (w6.setCell ⟨w.heap.size + 1 + 1, 4, none⟩ (.slice Aw (L ++ [encR 0]).length cw)) k') := hid ⟨1, 1, by omega, rfl, rfl, _, hTs, by rw [hSN.out]; exact hFs, hKs, hzs, hBs⟩
      clear hTs hFs hKs hBs hzs hgs hot
      go_wp2_with fail
      first
        | (refine ⟨HE.out, ?_⟩; simp [intOf]; omega)
        | (go_simp; refine ⟨by simpa using HE.out, ?_⟩; simp [intOf]; omega)
        | (go_simp; refine ⟨by simpa using HE.out, ?_⟩; simp [intOf])
    · obtain rfl : z = 1 := by simpa using hzk
      clear hzk
      obtain ⟨L, hL⟩ : ∃ L, L = encRs.take 1 := ⟨_, rfl⟩
      rw [← hL] at HF hF
      obtain ⟨Ar, cr, rfl⟩ := hF.len
      have hrl : L.length ≤ 9 := by rw [hL]; simp [encRs]; try omega
      have hSN : Hid (encRs.take 2 = L ++ [encR 1]) := hid (by rw [hL]; rfl)
      have HL := hid hL
      obtain ⟨x0, x1, x2, x3, x4, x5⟩ := six9 hD
      have hO7 := (hkeep (w.heap.size + 1 + 1 + 1 + 1 + 1 + 1 + 1) (by omega) (by omega)).trans HM7.out
      have o1 : wo.cell? ⟨w.heap.size + 1 + 1 + 1 + 1 + 1 + 1 + 1, 1, none⟩ = some (.slice (some ⟨w.heap.size + 1 + 1 + 1 + 1, 0, none⟩) 1 1) := cell_of_row _ _ 1 _ _ _ hO7
      have hcA := cellA
      have hfA := froA
      clear hD hF hkeep hB hL hO7
      go_wp2_with fail
      obtain ⟨wc, hwc⟩ : ∃ wc, wc = (wo.alloc (.cells #[.slice (some ⟨w.heap.size + 1 + 1 + 1 + 1, 0, none⟩) 1 1] 65)).alloc (.cells #[.int .i64 0, .int .i64 0, .slice (some ⟨wo.heap.size, 0, none⟩) 1 1, .int .i64 1, .slice none 0 0] 56) := ⟨_, rfl⟩
      have hBc : Below wo.heap.size wo wc := by rw [hwc]; exact ((Below.refl _ wo).alloc (Nat.le_refl _) _).alloc (by simp) _
      have hsc : wc.heap.size = wo.heap.size + 1 + 1 := by rw [hwc]; simp
      have hcD : wc.heap[w.heap.size + 1 + 1]? = wo.heap[w.heap.size + 1 + 1]? := hBc.block _ (by omega)
      have hcG : wc.heap[wo.heap.size]? = some (.cells #[.slice (some ⟨w.heap.size + 1 + 1 + 1 + 1, 0, none⟩) 1 1] 65) := by rw [hwc, Below.heap_alloc _ _ _ (by simp)]; exact heap_alloc_new wo _
      have hcR : wc.heap[wo.heap.size + 1]? = some (.cells #[.int .i64 0, .int .i64 0, .slice (some ⟨wo.heap.size, 0, none⟩) 1 1, .int .i64 1, .slice none 0 0] 56) := by
        rw [hwc]
        have := heap_alloc_new (wo.alloc (.cells #[.slice (some ⟨w.heap.size + 1 + 1 + 1 + 1, 0, none⟩) 1 1] 65)) (.cells #[.int .i64 0, .int .i64 0, .slice (some ⟨wo.heap.size, 0, none⟩) 1 1, .int .i64 1, .slice none 0 0] 56)
        simpa using this
      rw [← hwc]
      clear hwc x0 x1 x2 x3 x4 x5 o1
      go_loopw [6] (fun vi wi => ∃ (j : Nat) (x : Int), j ≤ 2 ∧ x = 1 - j ∧ vi = .int .i64 x ∧ InnI wo.heap.size (.slice (some ⟨wo.heap.size, 0, none⟩) 1 1) wc wi ((encOut 1).take j)) (fun vi _ => (intOf vi + 1).toNat)
      case atStart => exact ⟨0, 1, Nat.zero_le _, rfl, rfl, _, hcR, OwnR.nil, Below.refl _ _⟩
      case round =>
        obtain ⟨j, x, hj, hxj, rfl, vo, hR, hFo, hBi⟩ := hrel
        obtain ⟨wt, hwt⟩ : ∃ wt, wt = wr := ⟨_, rfl⟩
        subst hwt
        have HFo := hid hFo
        have HBi := hid hBi
        have HR := hid hR
        obtain ⟨M, hM⟩ : ∃ M, M = (encOut 1).take j := ⟨_, rfl⟩
        rw [← hM] at HFo hFo
        have hMl : M.length ≤ 9 := by rw [hM, List.length_take]; omega
        obtain ⟨Ao, co, rfl⟩ := hFo.len
        have hRl := heapLtM hR
        obtain ⟨r0, r1, r2, r3, r4⟩ := five9 hR
        have f4 := frozen_of_row _ _ 4 _ _ hR
        rcases j with _ | _ | _ | j
        · obtain rfl : x = 1 := by omega
          clear hxj
          have hMN : Hid ((encOut 1).take 1 = M ++ [byteT 1 1]) := hid (by rw [hM]; rfl)
          clear hR hFo hBi hM r0 r1 r2 r3 r4 f4
          go_wp2_with fail
          refine (HW.out _).mono ?_
          rintro e w1 ⟨rfl, hB1⟩
          have hs1 := hB1.size
          have hR1 := (hB1.block (wo.heap.size + 1) hRl).trans HR.out
          have hR1l := heapLtM hR1
          have hR1m : wo.heap.size < w1.heap.size := by omega
          obtain ⟨r0, r1, r2, r3, r4⟩ := five9 hR1
          have f4 := frozen_of_row _ _ 4 _ _ hR1
          go_wp2_with (at_builtin; refine Hid.out ?_)
          refine hid ?_
          have hBA : Below w1.heap.size w1 (w1.alloc (.cells #[.int .i64 0, .int .i64 0, .int .i64 21, .int .i64 0] 102)) := (Below.refl _ w1).alloc (Nat.le_refl _) _
          have hPf := FL.one (e := 102) (r := partR) (x := ⟨0, 0, 21, 0⟩) (cs := [.int .i64 0, .int .i64 0, .int .i64 21, .int .i64 0]) (cells := #[.int .i64 0, .int .i64 0, .int .i64 21, .int .i64 0]) (w := w1) (b0 := w1.heap.size) (base := w1.heap.size) ⟨rfl, (okI (by omega) : I64 0), (okI (by omega) : I64 0), (okI (by omega) : I64 21), (okI (by omega) : I64 0)⟩ rfl (Nat.le_refl _)
          have hBC2 : Below (w1.alloc (.cells #[.int .i64 0, .int .i64 0, .int .i64 21, .int .i64 0] 102)).heap.size (w1.alloc (.cells #[.int .i64 0, .int .i64 0, .int .i64 21, .int .i64 0] 102)) (((w1.alloc (.cells #[.int .i64 0, .int .i64 0, .int .i64 21, .int .i64 0] 102)).alloc (.cells #[.int .i64 (bits BinOp.andNot .i64 255 63), .int .i64 6, .int .i64 5, .int .i64 0, .int .i64 0, .slice (some ⟨w1.heap.size, 0, none⟩) 1 1] 90)).alloc (.cells #[.int .i64 (bits BinOp.andNot .i64 255 63), .int .i64 6, .int .i64 5, .int .i64 0, .int .i64 0, .slice (some ⟨w1.heap.size, 0, none⟩) 1 1] 90)) := ((Below.refl _ _).alloc (Nat.le_refl _) _).alloc (by simp) _
          have hBC : Below wt.heap.size wt (((w1.alloc (.cells #[.int .i64 0, .int .i64 0, .int .i64 21, .int .i64 0] 102)).alloc (.cells #[.int .i64 (bits BinOp.andNot .i64 255 63), .int .i64 6, .int .i64 5, .int .i64 0, .int .i64 0, .slice (some ⟨w1.heap.size, 0, none⟩) 1 1] 90)).alloc (.cells #[.int .i64 (bits BinOp.andNot .i64 255 63), .int .i64 6, .int .i64 5, .int .i64 0, .int .i64 0, .slice (some ⟨w1.heap.size, 0, none⟩) 1 1] 90)) := (hB1.trans (hBA.mono hs1)).trans (hBC2.mono (by simp; omega))
          have hbs : bits BinOp.andNot IntKind.i64 255 63 = 192 := by decide +kernel
          have hpp := rel_els (q := listR partR) (rel_fresh (hPf.rel (Nat.le_refl _)) hBC2) (v := .slice Ao M.length co) (base := wo.heap.size + 1 + 1) (fun g hg => by have := HFo.out.own_lt g hg; omega) (by omega)
          have hge : wo.heap.size + 1 + 1 ≤ wt.heap.size := by have := HBi.out.size; omega
          show wpList _ _ _ _ _ _
          refine wpList_append_fl (r := termR) (v := .slice Ao M.length co) (xs := M) (by rfl) _ _ 54 (by rfl) inft _ 64 Tryz.underlying54 ht0 hy0 hy1 hy2 rfl (by decide) (by rfl) HFo.out hBC (by simp; omega) ⟨w1.heap.size + 1 + 1, 0, none⟩ 1 (byteT 1 1) [.int .i64 (bits BinOp.andNot .i64 255 63), .int .i64 6, .int .i64 5, .int .i64 0, .int .i64 0, .slice (some ⟨w1.heap.size, 0, none⟩) 1 1] (by rfl) ⟨_, by rw [hbs]; rfl, ⟨(okI (by omega) : I64 192), (okI (by omega) : I64 6), (okI (by omega) : I64 5), (okI (by omega) : I64 0), (okI (by omega) : I64 0)⟩, hpp⟩
            (news_at (w := ((w1.alloc (.cells #[.int .i64 0, .int .i64 0, .int .i64 21, .int .i64 0] 102)).alloc (.cells #[.int .i64 (bits BinOp.andNot .i64 255 63), .int .i64 6, .int .i64 5, .int .i64 0, .int .i64 0, .slice (some ⟨w1.heap.size, 0, none⟩) 1 1] 90))) (cs := #[_, _, _, _, _, _]) (by simp)) (by simp [Value.oneCell']) (by unfold maxLen; omega) (by omega) ?_
          intro v' w3 hF3 hB3
          obtain ⟨Av, cv, rfl⟩ := hF3.len
          have hbx : ∀ q, q < wt.heap.size → q < wo.heap.size + 1 + 1 → w3.heap[q]? = wt.heap[q]? := fun q hq h8 => (hB3.block q h8).trans (hBC.block q hq)
          have hR3 := (hbx (wo.heap.size + 1) hRl (by omega)).trans HR.out
          have s4 := (five9 hR3).2.2.2.2
          have g4 := frozen_of_row _ _ 4 _ _ hR3
          have hTs : (w3.setCell ⟨wo.heap.size + 1, 4, none⟩ (.slice Av (M ++ [byteT 1 1]).length cv)).heap[wo.heap.size + 1]? = some (.cells #[.int .i64 0, .int .i64 0, .slice (some ⟨wo.heap.size, 0, none⟩) 1 1, .int .i64 1, .slice Av (M ++ [byteT 1 1]).length cv] 56) := (heap_setCell_same w3 (wo.heap.size + 1) 4 _ _ (.slice Av (M ++ [byteT 1 1]).length cv) hR3).trans rfl
          have hFs := hF3.keep (w' := (w3.setCell ⟨wo.heap.size + 1, 4, none⟩ (.slice Av (M ++ [byteT 1 1]).length cv))) (Nat.le_refl _) (by simp) (fun q hq _ => heap_setCell_other _ _ _ _ (by simp only; omega))
          have hBs : Below (wo.heap.size + 1) wc (w3.setCell ⟨wo.heap.size + 1, 4, none⟩ (.slice Av (M ++ [byteT 1 1]).length cv)) := ((HBi.out.trans (hBC.mono (by omega))).trans (hB3.mono (by omega))).setCell (p := ⟨wo.heap.size + 1, 4, none⟩) (Nat.le_refl _) _
          have HE : Hid (∃ (j' : Nat) (x' : Int), j' ≤ 2 ∧ x' = 1 - j' ∧ Value.int .i64 (0) = .int .i64 x' ∧ InnI wo.heap.size (.slice (some ⟨wo.heap.size, 0, none⟩) 1 1) wc (w3.setCell ⟨wo.heap.size + 1, 4, none⟩ (.slice Av (M ++ [byteT 1 1]).length cv)) ((encOut 1).take j')) := hid ⟨1, 0, by omega, rfl, rfl, _, hTs, by rw [hMN.out]; exact hFs, hBs⟩
          clear hTs hFs hBs hF3 hpp hPf hBA hBC hBC2 hbs
          go_wp2_with fail
          first
            | (refine ⟨HE.out, ?_⟩; simp [intOf]; omega)
            | (go_simp; refine ⟨by simpa using HE.out, ?_⟩; simp [intOf]; omega)
            | (go_simp; refine ⟨by simpa using HE.out, ?_⟩; simp [intOf])
        · obtain rfl : x = 0 := by omega
          clear hxj
          have hMN : Hid ((encOut 1).take 2 = M ++ [byteT 1 0]) := hid (by rw [hM]; rfl)
          clear hR hFo hBi hM r0 r1 r2 r3 r4 f4
          go_wp2_with fail
          refine (HW.out _).mono ?_
          rintro e w1 ⟨rfl, hB1⟩
          have hs1 := hB1.size
          have hR1 := (hB1.block (wo.heap.size + 1) hRl).trans HR.out
          have hR1l := heapLtM hR1
          have hR1m : wo.heap.size < w1.heap.size := by omega
          obtain ⟨r0, r1, r2, r3, r4⟩ := five9 hR1
          have f4 := frozen_of_row _ _ 4 _ _ hR1
          go_wp2_with (at_builtin; refine Hid.out ?_)
          refine hid ?_
          have hBA : Below w1.heap.size w1 (w1.alloc (.cells #[.int .i64 0, .int .i64 0, .int .i64 21, .int .i64 0] 102)) := (Below.refl _ w1).alloc (Nat.le_refl _) _
          have hPf := FL.one (e := 102) (r := partR) (x := ⟨0, 0, 21, 0⟩) (cs := [.int .i64 0, .int .i64 0, .int .i64 21, .int .i64 0]) (cells := #[.int .i64 0, .int .i64 0, .int .i64 21, .int .i64 0]) (w := w1) (b0 := w1.heap.size) (base := w1.heap.size) ⟨rfl, (okI (by omega) : I64 0), (okI (by omega) : I64 0), (okI (by omega) : I64 21), (okI (by omega) : I64 0)⟩ rfl (Nat.le_refl _)
          have hBC2 : Below (w1.alloc (.cells #[.int .i64 0, .int .i64 0, .int .i64 21, .int .i64 0] 102)).heap.size (w1.alloc (.cells #[.int .i64 0, .int .i64 0, .int .i64 21, .int .i64 0] 102)) (((w1.alloc (.cells #[.int .i64 0, .int .i64 0, .int .i64 21, .int .i64 0] 102)).alloc (.cells #[.int .i64 128, .int .i64 0, .int .i64 6, .int .i64 0, .int .i64 0, .slice (some ⟨w1.heap.size, 0, none⟩) 1 1] 90)).alloc (.cells #[.int .i64 128, .int .i64 0, .int .i64 6, .int .i64 0, .int .i64 0, .slice (some ⟨w1.heap.size, 0, none⟩) 1 1] 90)) := ((Below.refl _ _).alloc (Nat.le_refl _) _).alloc (by simp) _
          have hBC : Below wt.heap.size wt (((w1.alloc (.cells #[.int .i64 0, .int .i64 0, .int .i64 21, .int .i64 0] 102)).alloc (.cells #[.int .i64 128, .int .i64 0, .int .i64 6, .int .i64 0, .int .i64 0, .slice (some ⟨w1.heap.size, 0, none⟩) 1 1] 90)).alloc (.cells #[.int .i64 128, .int .i64 0, .int .i64 6, .int .i64 0, .int .i64 0, .slice (some ⟨w1.heap.size, 0, none⟩) 1 1] 90)) := (hB1.trans (hBA.mono hs1)).trans (hBC2.mono (by simp; omega))
          have hbs : bits BinOp.andNot IntKind.i64 255 63 = 192 := by decide +kernel
          have hpp := rel_els (q := listR partR) (rel_fresh (hPf.rel (Nat.le_refl _)) hBC2) (v := .slice Ao M.length co) (base := wo.heap.size + 1 + 1) (fun g hg => by have := HFo.out.own_lt g hg; omega) (by omega)
          have hge : wo.heap.size + 1 + 1 ≤ wt.heap.size := by have := HBi.out.size; omega
          show wpList _ _ _ _ _ _
          refine wpList_append_fl (r := termR) (v := .slice Ao M.length co) (xs := M) (by rfl) _ _ 54 (by rfl) inft _ 64 Tryz.underlying54 ht0 hy0 hy1 hy2 rfl (by decide) (by rfl) HFo.out hBC (by simp; omega) ⟨w1.heap.size + 1 + 1, 0, none⟩ 1 (byteT 1 0) [.int .i64 128, .int .i64 0, .int .i64 6, .int .i64 0, .int .i64 0, .slice (some ⟨w1.heap.size, 0, none⟩) 1 1] (by rfl) ⟨_, by rfl, ⟨(okI (by omega) : I64 128), (okI (by omega) : I64 0), (okI (by omega) : I64 6), (okI (by omega) : I64 0), (okI (by omega) : I64 0)⟩, hpp⟩
            (news_at (w := ((w1.alloc (.cells #[.int .i64 0, .int .i64 0, .int .i64 21, .int .i64 0] 102)).alloc (.cells #[.int .i64 128, .int .i64 0, .int .i64 6, .int .i64 0, .int .i64 0, .slice (some ⟨w1.heap.size, 0, none⟩) 1 1] 90))) (cs := #[_, _, _, _, _, _]) (by simp)) (by simp [Value.oneCell']) (by unfold maxLen; omega) (by omega) ?_
          intro v' w3 hF3 hB3
          obtain ⟨Av, cv, rfl⟩ := hF3.len
          have hbx : ∀ q, q < wt.heap.size → q < wo.heap.size + 1 + 1 → w3.heap[q]? = wt.heap[q]? := fun q hq h8 => (hB3.block q h8).trans (hBC.block q hq)
          have hR3 := (hbx (wo.heap.size + 1) hRl (by omega)).trans HR.out
          have s4 := (five9 hR3).2.2.2.2
          have g4 := frozen_of_row _ _ 4 _ _ hR3
          have hTs : (w3.setCell ⟨wo.heap.size + 1, 4, none⟩ (.slice Av (M ++ [byteT 1 0]).length cv)).heap[wo.heap.size + 1]? = some (.cells #[.int .i64 0, .int .i64 0, .slice (some ⟨wo.heap.size, 0, none⟩) 1 1, .int .i64 1, .slice Av (M ++ [byteT 1 0]).length cv] 56) := (heap_setCell_same w3 (wo.heap.size + 1) 4 _ _ (.slice Av (M ++ [byteT 1 0]).length cv) hR3).trans rfl
          have hFs := hF3.keep (w' := (w3.setCell ⟨wo.heap.size + 1, 4, none⟩ (.slice Av (M ++ [byteT 1 0]).length cv))) (Nat.le_refl _) (by simp) (fun q hq _ => heap_setCell_other _ _ _ _ (by simp only; omega))
          have hBs : Below (wo.heap.size + 1) wc (w3.setCell ⟨wo.heap.size + 1, 4, none⟩ (.slice Av (M ++ [byteT 1 0]).length cv)) := ((HBi.out.trans (hBC.mono (by omega))).trans (hB3.mono (by omega))).setCell (p := ⟨wo.heap.size + 1, 4, none⟩) (Nat.le_refl _) _
          have HE : Hid (∃ (j' : Nat) (x' : Int), j' ≤ 2 ∧ x' = 1 - j' ∧ Value.int .i64 (-1) = .int .i64 x' ∧ InnI wo.heap.size (.slice (some ⟨wo.heap.size, 0, none⟩) 1 1) wc (w3.setCell ⟨wo.heap.size + 1, 4, none⟩ (.slice Av (M ++ [byteT 1 0]).length cv)) ((encOut 1).take j')) := hid ⟨2, -1, by omega, rfl, rfl, _, hTs, by rw [hMN.out]; exact hFs, hBs⟩
          clear hTs hFs hBs hF3 hpp hPf hBA hBC hBC2 hbs
          go_wp2_with fail
          first
            | (refine ⟨HE.out, ?_⟩; simp [intOf]; omega)
            | (go_simp; refine ⟨by simpa using HE.out, ?_⟩; simp [intOf]; omega)
            | (go_simp; refine ⟨by simpa using HE.out, ?_⟩; simp [intOf])
        · obtain rfl : x = -1 := by omega
          clear hxj
          obtain ⟨w3, hw3⟩ : ∃ w3, w3 = wt := ⟨_, rfl⟩
          subst hw3
          have hB3 := HBi.out
          have hR3 := HR.out
          have hML : M = encOut 1 := by rw [hM]; rfl
          have hO3 := HFo.out.rel (Nat.le_refl _)
          rw [hML] at hO3
          have hnl : M.length = 2 := by rw [hML]; rfl
          rw [hnl] at hR3
          clear hR hFo hBi hM r0 r1 r2 r3 r4 f4 HFo
          -- the rule stands in its box: append it
          have hD3 := (hB3.block (w.heap.size + 1 + 1) (by omega)).trans (hcD.trans HD.out)
          obtain ⟨d0, d1, d2, d3, d4, d5⟩ := six9 hD3
          obtain ⟨g0, g1, g2, g3, g4, g5⟩ := fro6 hD3
          obtain ⟨r0, r1, r2, r3, r4⟩ := five9 hR3
          have hR3l := heapLtM hR3


          go_wp2_with (at_builtin; refine Hid.out ?_)
          refine hid ?_
          have hBow : Below wo.heap.size wo w3 := hBc.trans (hB3.mono (by omega))
          have hBA : Below wo.heap.size wo (w3.alloc (.cells #[.int .i64 0, .int .i64 0, .slice (some ⟨wo.heap.size, 0, none⟩) 1 1, .int .i64 1, .slice Ao 2 co] 56)) := hBow.alloc hBow.size _
          have hge : ∀ q, (Value.slice Ar L.length cr).ownBlock = some q → w.heap.size + 1 + 1 + 1 + 1 + 1 + 1 + 1 + 1 ≤ q := HF.out.own_ge
          have hown : ∀ q, (Value.slice Ar L.length cr).ownBlock = some q → q < wo.heap.size := HF.out.own_lt
          have hgs : (listR spansR).rel (w3.alloc (.cells #[.int .i64 0, .int .i64 0, .slice (some ⟨wo.heap.size, 0, none⟩) 1 1, .int .i64 1, .slice Ao 2 co] 56)) (Els (w3.alloc (.cells #[.int .i64 0, .int .i64 0, .slice (some ⟨wo.heap.size, 0, none⟩) 1 1, .int .i64 1, .slice Ao 2 co] 56)) (w.heap.size + 1 + 1 + 1) (.slice Ar L.length cr)) [.slice (some ⟨wo.heap.size, 0, none⟩) 1 1] [[⟨128, 2047⟩]] := by
            refine ⟨_, 1, 1, rfl, rfl, Nat.le_refl _, by unfold maxLen; omega, .inr ⟨wo.heap.size, 0, rfl, ⟨by omega, by simp; omega, fun he => by have := hown _ he; omega⟩, fun i x hx => ?_⟩⟩
            cases i with
            | succ i => simp at hx
            | zero =>
              simp at hx
              subst hx
              have hgb := (Below.heap_alloc w3 (.cells #[.int .i64 0, .int .i64 0, .slice (some ⟨wo.heap.size, 0, none⟩) 1 1, .int .i64 1, .slice Ao 2 co] 56) wo.heap.size (by omega)).trans ((hB3.block wo.heap.size (by omega)).trans hcG)
              have hsb := (Below.heap_alloc w3 (.cells #[.int .i64 0, .int .i64 0, .slice (some ⟨wo.heap.size, 0, none⟩) 1 1, .int .i64 1, .slice Ao 2 co] 56) (w.heap.size + 1 + 1 + 1 + 1) (by omega)).trans ((hBow.block (w.heap.size + 1 + 1 + 1 + 1) (by omega)).trans ((HK.out (w.heap.size + 1 + 1 + 1 + 1) (by omega) (by omega)).trans HM4.out))
              refine ⟨[.slice (some ⟨w.heap.size + 1 + 1 + 1 + 1, 0, none⟩) 1 1], ⟨_, 1, 1, rfl, rfl, Nat.le_refl _, by unfold maxLen; omega, .inr ⟨w.heap.size + 1 + 1 + 1 + 1, 0, rfl, ⟨by omega, by simp; omega, fun he => by have := hge _ he; omega⟩, fun i x hx => ?_⟩⟩, fun j u hu => ?_⟩
              · rcases i with _ | _ | i
                · simp at hx
                  subst hx
                  exact ⟨_, ⟨rfl, (okI (by omega) : I64 128), (okI (by omega) : I64 2047)⟩, fun j u hu => (cell_of_row _ _ _ _ _ _ hsb).trans (by rcases j with _ | _ | j <;> simp [Span.cells, show spanR.width = 2 from rfl] at hu ⊢ <;> exact hu)⟩
                · simp at hx
                · simp at hx
              · rw [cell_of_row _ _ _ _ _ _ hgb]
                simpa using hu
          have hot := rel_els (q := listR termR) (rel_fresh hO3 ((Below.refl _ w3).alloc (Nat.le_refl _) (.cells #[.int .i64 0, .int .i64 0, .slice (some ⟨wo.heap.size, 0, none⟩) 1 1, .int .i64 1, .slice Ao 2 co] 56))) (v := .slice Ar L.length cr) (base := w.heap.size + 1 + 1 + 1) (fun g hg => by have := hown g hg; omega) (by omega)
          show wpList _ _ _ _ _ _
          refine wpList_append_fl (r := ruleR) (v := .slice Ar L.length cr) (xs := L) (by rfl) _ _ 23 (by rfl) inf _ 72 Tryz.underlying23 hi0 hz0 hz1 hz2 rfl (by decide) (by rfl) HF.out hBA (by simp; omega) ⟨w3.heap.size, 0, none⟩ 1 (encR 1) [.int .i64 0, .int .i64 0, .slice (some ⟨wo.heap.size, 0, none⟩) 1 1, .int .i64 1, .slice Ao 2 co] (by rfl) ⟨_, _, rfl, ⟨(okI (by omega) : I64 0), (okI (by omega) : I64 0), (okI (by omega) : I64 1)⟩, hgs, hot⟩
            (news_at (w := w3) (cs := #[_, _, _, _, _]) (by simp)) (by simp [Value.oneCell']) (by unfold maxLen; omega) (by omega) ?_
          intro v' w6 hF6 hB6
          have hbx : ∀ q, q < wo.heap.size → w.heap.size + 1 + 1 + 1 + 1 + 1 + 1 + 1 + 1 > q → w6.heap[q]? = wo.heap[q]? := fun q hq h8 => (hB6.block q h8).trans (hBA.block q hq)
          have hD6 := (hbx (w.heap.size + 1 + 1) (by omega) (by omega)).trans HD.out
          obtain ⟨q0, q1, q2, q3, q4, q5⟩ := six9 hD6
          obtain ⟨p0, p1, p2, p3, p4, p5⟩ := fro6 hD6
          obtain ⟨Aw, cw, rfl⟩ := hF6.len
          have hTs : (w6.setCell ⟨w.heap.size + 1 + 1, 4, none⟩ (.slice Aw (L ++ [encR 1]).length cw)).heap[w.heap.size + 1 + 1]? = some (.cells #[.int .i64 2, .int .i64 1, .int .i64 1, .int .i64 0, .slice Aw (L ++ [encR 1]).length cw, .slice (some ⟨w.heap.size + 1, 0, none⟩) 1 1] 26) := (heap_setCell_same w6 (w.heap.size + 1 + 1) 4 _ _ (.slice Aw (L ++ [encR 1]).length cw) hD6).trans rfl
          have hFs := hF6.keep (w' := w6.setCell ⟨w.heap.size + 1 + 1, 4, none⟩ (.slice Aw (L ++ [encR 1]).length cw)) (by omega) (by simp) (fun q hq _ => heap_setCell_other _ _ _ _ (by simp only; omega))
          have hKs : ∀ q, q < w.heap.size + 1 + 1 + 1 + 1 + 1 + 1 + 1 + 1 → q ≠ w.heap.size + 1 + 1 → (w6.setCell ⟨w.heap.size + 1 + 1, 4, none⟩ (.slice Aw (L ++ [encR 1]).length cw)).heap[q]? = w0.heap[q]? := fun q h1 h2 => by
            rw [heap_setCell_other _ _ _ _ (by simpa using h2), hbx q (by omega) h1]; exact HK.out q h1 h2
          have hBs : Below w.heap.size w (w6.setCell ⟨w.heap.size + 1 + 1, 4, none⟩ (.slice Aw (L ++ [encR 1]).length cw)) := ((HB.out.trans (hBA.mono (by omega))).trans (hB6.mono (by omega))).setCell (p := ⟨w.heap.size + 1 + 1, 4, none⟩) (by simp only; omega) _
          have hzs : w.heap.size + 1 + 1 + 1 + 1 + 1 + 1 + 1 + 1 ≤ (w6.setCell ⟨w.heap.size + 1 + 1, 4, none⟩ (.slice Aw (L ++ [encR 1]).length cw)).heap.size := by simp; have h9 := hB6.size; have h8 := hBA.size; simp at h9 h8; omega
          have HE : Hid (∃ (k' : Nat) (z' : Int), k' ≤ 4 ∧ z' = k' ∧ Value.int .i64 2 = .int .i64 z' ∧ EncI w w0 (w6.setCell ⟨w.heap.size + 1 + 1, 4, none⟩ (.slice Aw (L ++ [encR 1]).length cw)) k') := hid ⟨2, 2, by omega, rfl, rfl, _, hTs, by rw [hSN.out]; exact hFs, hKs, hzs, hBs⟩
          clear hTs hFs hKs hBs hzs hgs hot
          go_wp2_with fail
          first
            | (refine ⟨HE.out, ?_⟩; simp [intOf]; omega)
            | (go_simp; refine ⟨by simpa using HE.out, ?_⟩; simp [intOf]; omega)
            | (go_simp; refine ⟨by simpa using HE.out, ?_⟩; simp [intOf])
        · omega
    · obtain rfl : z = 2 := by simpa using hzk
      clear hzk
      obtain ⟨L, hL⟩ : ∃ L, L = encRs.take 2 := ⟨_, rfl⟩
      rw [← hL] at HF hF
      obtain ⟨Ar, cr, rfl⟩ := hF.len
      have hrl : L.length ≤ 9 := by rw [hL]; simp [encRs]; try omega
      have hSN : Hid (encRs.take 3 = L ++ [encR 2]) := hid (by rw [hL]; rfl)
      have HL := hid hL
      obtain ⟨x0, x1, x2, x3, x4, x5⟩ := six9 hD
      have hO7 := (hkeep (w.heap.size + 1 + 1 + 1 + 1 + 1 + 1 + 1) (by omega) (by omega)).trans HM7.out
      have o2 : wo.cell? ⟨w.heap.size + 1 + 1 + 1 + 1 + 1 + 1 + 1, 2, none⟩ = some (.slice (some ⟨w.heap.size + 1 + 1 + 1 + 1 + 1, 0, none⟩) 2 2) := cell_of_row _ _ 2 _ _ _ hO7
      have hcA := cellA
      have hfA := froA
      clear hD hF hkeep hB hL hO7
      go_wp2_with fail
      obtain ⟨wc, hwc⟩ : ∃ wc, wc = (wo.alloc (.cells #[.slice (some ⟨w.heap.size + 1 + 1 + 1 + 1 + 1, 0, none⟩) 2 2] 65)).alloc (.cells #[.int .i64 0, .int .i64 0, .slice (some ⟨wo.heap.size, 0, none⟩) 1 1, .int .i64 1, .slice none 0 0] 56) := ⟨_, rfl⟩
      have hBc : Below wo.heap.size wo wc := by rw [hwc]; exact ((Below.refl _ wo).alloc (Nat.le_refl _) _).alloc (by simp) _
      have hsc : wc.heap.size = wo.heap.size + 1 + 1 := by rw [hwc]; simp
      have hcD : wc.heap[w.heap.size + 1 + 1]? = wo.heap[w.heap.size + 1 + 1]? := hBc.block _ (by omega)
      have hcG : wc.heap[wo.heap.size]? = some (.cells #[.slice (some ⟨w.heap.size + 1 + 1 + 1 + 1 + 1, 0, none⟩) 2 2] 65) := by rw [hwc, Below.heap_alloc _ _ _ (by simp)]; exact heap_alloc_new wo _
      have hcR : wc.heap[wo.heap.size + 1]? = some (.cells #[.int .i64 0, .int .i64 0, .slice (some ⟨wo.heap.size, 0, none⟩) 1 1, .int .i64 1, .slice none 0 0] 56) := by
        rw [hwc]
        have := heap_alloc_new (wo.alloc (.cells #[.slice (some ⟨w.heap.size + 1 + 1 + 1 + 1 + 1, 0, none⟩) 2 2] 65)) (.cells #[.int .i64 0, .int .i64 0, .slice (some ⟨wo.heap.size, 0, none⟩) 1 1, .int .i64 1, .slice none 0 0] 56)
        simpa using this
      rw [← hwc]
      clear hwc x0 x1 x2 x3 x4 x5 o2
      go_loopw [6] (fun vi wi => ∃ (j : Nat) (x : Int), j ≤ 3 ∧ x = 2 - j ∧ vi = .int .i64 x ∧ InnI wo.heap.size (.slice (some ⟨wo.heap.size, 0, none⟩) 1 1) wc wi ((encOut 2).take j)) (fun vi _ => (intOf vi + 1).toNat)
      case atStart => exact ⟨0, 2, Nat.zero_le _, rfl, rfl, _, hcR, OwnR.nil, Below.refl _ _⟩
      case round =>
        obtain ⟨j, x, hj, hxj, rfl, vo, hR, hFo, hBi⟩ := hrel
        obtain ⟨wt, hwt⟩ : ∃ wt, wt = wr := ⟨_, rfl⟩
        subst hwt
        have HFo := hid hFo
        have HBi := hid hBi
        have HR := hid hR
        obtain ⟨M, hM⟩ : ∃ M, M = (encOut 2).take j := ⟨_, rfl⟩
        rw [← hM] at HFo hFo
        have hMl : M.length ≤ 9 := by rw [hM, List.length_take]; omega
        obtain ⟨Ao, co, rfl⟩ := hFo.len
        have hRl := heapLtM hR
        obtain ⟨r0, r1, r2, r3, r4⟩ := five9 hR
        have f4 := frozen_of_row _ _ 4 _ _ hR
        rcases j with _ | _ | _ | _ | j
        · obtain rfl : x = 2 := by omega
          clear hxj
          have hMN : Hid ((encOut 2).take 1 = M ++ [byteT 2 2]) := hid (by rw [hM]; rfl)
          clear hR hFo hBi hM r0 r1 r2 r3 r4 f4
          go_wp2_with fail
          refine (HW.out _).mono ?_
          rintro e w1 ⟨rfl, hB1⟩
          have hs1 := hB1.size
          have hR1 := (hB1.block (wo.heap.size + 1) hRl).trans HR.out
          have hR1l := heapLtM hR1
          have hR1m : wo.heap.size < w1.heap.size := by omega
          obtain ⟨r0, r1, r2, r3, r4⟩ := five9 hR1
          have f4 := frozen_of_row _ _ 4 _ _ hR1
          go_wp2_with (at_builtin; refine Hid.out ?_)
          refine hid ?_
          have hBA : Below w1.heap.size w1 (w1.alloc (.cells #[.int .i64 0, .int .i64 0, .int .i64 21, .int .i64 0] 102)) := (Below.refl _ w1).alloc (Nat.le_refl _) _
          have hPf := FL.one (e := 102) (r := partR) (x := ⟨0, 0, 21, 0⟩) (cs := [.int .i64 0, .int .i64 0, .int .i64 21, .int .i64 0]) (cells := #[.int .i64 0, .int .i64 0, .int .i64 21, .int .i64 0]) (w := w1) (b0 := w1.heap.size) (base := w1.heap.size) ⟨rfl, (okI (by omega) : I64 0), (okI (by omega) : I64 0), (okI (by omega) : I64 21), (okI (by omega) : I64 0)⟩ rfl (Nat.le_refl _)
          have hBC2 : Below (w1.alloc (.cells #[.int .i64 0, .int .i64 0, .int .i64 21, .int .i64 0] 102)).heap.size (w1.alloc (.cells #[.int .i64 0, .int .i64 0, .int .i64 21, .int .i64 0] 102)) (((w1.alloc (.cells #[.int .i64 0, .int .i64 0, .int .i64 21, .int .i64 0] 102)).alloc (.cells #[.int .i64 (bits BinOp.andNot .i64 255 31), .int .i64 12, .int .i64 4, .int .i64 0, .int .i64 0, .slice (some ⟨w1.heap.size, 0, none⟩) 1 1] 90)).alloc (.cells #[.int .i64 (bits BinOp.andNot .i64 255 31), .int .i64 12, .int .i64 4, .int .i64 0, .int .i64 0, .slice (some ⟨w1.heap.size, 0, none⟩) 1 1] 90)) := ((Below.refl _ _).alloc (Nat.le_refl _) _).alloc (by simp) _
          have hBC : Below wt.heap.size wt (((w1.alloc (.cells #[.int .i64 0, .int .i64 0, .int .i64 21, .int .i64 0] 102)).alloc (.cells #[.int .i64 (bits BinOp.andNot .i64 255 31), .int .i64 12, .int .i64 4, .int .i64 0, .int .i64 0, .slice (some ⟨w1.heap.size, 0, none⟩) 1 1] 90)).alloc (.cells #[.int .i64 (bits BinOp.andNot .i64 255 31), .int .i64 12, .int .i64 4, .int .i64 0, .int .i64 0, .slice (some ⟨w1.heap.size, 0, none⟩) 1 1] 90)) := (hB1.trans (hBA.mono hs1)).trans (hBC2.mono (by simp; omega))
          have hbs : bits BinOp.andNot IntKind.i64 255 31 = 224 := by decide +kernel
          have hpp := rel_els (q := listR partR) (rel_fresh (hPf.rel (Nat.le_refl _)) hBC2) (v := .slice Ao M.length co) (base := wo.heap.size + 1 + 1) (fun g hg => by have := HFo.out.own_lt g hg; omega) (by omega)
          have hge : wo.heap.size + 1 + 1 ≤ wt.heap.size := by have := HBi.out.size; omega
          show wpList _ _ _ _ _ _
          refine wpList_append_fl (r := termR) (v := .slice Ao M.length co) (xs := M) (by rfl) _ _ 54 (by rfl) inft _ 64 Tryz.underlying54 ht0 hy0 hy1 hy2 rfl (by decide) (by rfl) HFo.out hBC (by simp; omega) ⟨w1.heap.size + 1 + 1, 0, none⟩ 1 (byteT 2 2) [.int .i64 (bits BinOp.andNot .i64 255 31), .int .i64 12, .int .i64 4, .int .i64 0, .int .i64 0, .slice (some ⟨w1.heap.size, 0, none⟩) 1 1] (by rfl) ⟨_, by rw [hbs]; rfl, ⟨(okI (by omega) : I64 224), (okI (by omega) : I64 12), (okI (by omega) : I64 4), (okI (by omega) : I64 0), (okI (by omega) : I64 0)⟩, hpp⟩
            (news_at (w := ((w1.alloc (.cells #[.int .i64 0, .int .i64 0, .int .i64 21, .int .i64 0] 102)).alloc (.cells #[.int .i64 (bits BinOp.andNot .i64 255 31), .int .i64 12, .int .i64 4, .int .i64 0, .int .i64 0, .slice (some ⟨w1.heap.size, 0, none⟩) 1 1] 90))) (cs := #[_, _, _, _, _, _]) (by simp)) (by simp [Value.oneCell']) (by unfold maxLen; omega) (by omega) ?_
          intro v' w3 hF3 hB3
          obtain ⟨Av, cv, rfl⟩ := hF3.len
          have hbx : ∀ q, q < wt.heap.size → q < wo.heap.size + 1 + 1 → w3.heap[q]? = wt.heap[q]? := fun q hq h8 => (hB3.block q h8).trans (hBC.block q hq)
          have hR3 := (hbx (wo.heap.size + 1) hRl (by omega)).trans HR.out
          have s4 := (five9 hR3).2.2.2.2
          have g4 := frozen_of_row _ _ 4 _ _ hR3
          have hTs : (w3.setCell ⟨wo.heap.size + 1, 4, none⟩ (.slice Av (M ++ [byteT 2 2]).length cv)).heap[wo.heap.size + 1]? = some (.cells #[.int .i64 0, .int .i64 0, .slice (some ⟨wo.heap.size, 0, none⟩) 1 1, .int .i64 1, .slice Av (M ++ [byteT 2 2]).length cv] 56) := (heap_setCell_same w3 (wo.heap.size + 1) 4 _ _ (.slice Av (M ++ [byteT 2 2]).length cv) hR3).trans rfl
          have hFs := hF3.keep (w' := (w3.setCell ⟨wo.heap.size + 1, 4, none⟩ (.slice Av (M ++ [byteT 2 2]).length cv))) (Nat.le_refl _) (by simp) (fun q hq _ => heap_setCell_other _ _ _ _ (by simp only; omega))
          have hBs : Below (wo.heap.size + 1) wc (w3.setCell ⟨wo.heap.size + 1, 4, none⟩ (.slice Av (M ++ [byteT 2 2]).length cv)) := ((HBi.out.trans (hBC.mono (by omega))).trans (hB3.mono (by omega))).setCell (p := ⟨wo.heap.size + 1, 4, none⟩) (Nat.le_refl _) _
          have HE : Hid (∃ (j' : Nat) (x' : Int), j' ≤ 3 ∧ x' = 2 - j' ∧ Value.int .i64 (1) = .int .i64 x' ∧ InnI wo.heap.size (.slice (some ⟨wo.heap.size, 0, none⟩) 1 1) wc (w3.setCell ⟨wo.heap.size + 1, 4, none⟩ (.slice Av (M ++ [byteT 2 2]).length cv)) ((encOut 2).take j')) := hid ⟨1, 1, by omega, rfl, rfl, _, hTs, by rw [hMN.out]; exact hFs, hBs⟩
          clear hTs hFs hBs hF3 hpp hPf hBA hBC hBC2 hbs
          go_wp2_with fail
          first
            | (refine ⟨HE.out, ?_⟩; simp [intOf]; omega)
            | (go_simp; refine ⟨by simpa using HE.out, ?_⟩; simp [intOf]; omega)
            | (go_simp; refine ⟨by simpa using HE.out, ?_⟩; simp [intOf])
        · obtain rfl : x = 1 := by omega
          clear hxj
          have hMN : Hid ((encOut 2).take 2 = M ++ [byteT 2 1]) := hid (by rw [hM]; rfl)
          clear hR hFo hBi hM r0 r1 r2 r3 r4 f4
          go_wp2_with fail
          refine (HW.out _).mono ?_
          rintro e w1 ⟨rfl, hB1⟩
          have hs1 := hB1.size
          have hR1 := (hB1.block (wo.heap.size + 1) hRl).trans HR.out
          have hR1l := heapLtM hR1
          have hR1m : wo.heap.size < w1.heap.size := by omega
          obtain ⟨r0, r1, r2, r3, r4⟩ := five9 hR1
          have f4 := frozen_of_row _ _ 4 _ _ hR1
          go_wp2_with (at_builtin; refine Hid.out ?_)
          refine hid ?_
          have hBA : Below w1.heap.size w1 (w1.alloc (.cells #[.int .i64 0, .int .i64 0, .int .i64 21, .int .i64 0] 102)) := (Below.refl _ w1).alloc (Nat.le_refl _) _
          have hPf := FL.one (e := 102) (r := partR) (x := ⟨0, 0, 21, 0⟩) (cs := [.int .i64 0, .int .i64 0, .int .i64 21, .int .i64 0]) (cells := #[.int .i64 0, .int .i64 0, .int .i64 21, .int .i64 0]) (w := w1) (b0 := w1.heap.size) (base := w1.heap.size) ⟨rfl, (okI (by omega) : I64 0), (okI (by omega) : I64 0), (okI (by omega) : I64 21), (okI (by omega) : I64 0)⟩ rfl (Nat.le_refl _)
          have hBC2 : Below (w1.alloc (.cells #[.int .i64 0, .int .i64 0, .int .i64 21, .int .i64 0] 102)).heap.size (w1.alloc (.cells #[.int .i64 0, .int .i64 0, .int .i64 21, .int .i64 0] 102)) (((w1.alloc (.cells #[.int .i64 0, .int .i64 0, .int .i64 21, .int .i64 0] 102)).alloc (.cells #[.int .i64 128, .int .i64 6, .int .i64 6, .int .i64 0, .int .i64 0, .slice (some ⟨w1.heap.size, 0, none⟩) 1 1] 90)).alloc (.cells #[.int .i64 128, .int .i64 6, .int .i64 6, .int .i64 0, .int .i64 0, .slice (some ⟨w1.heap.size, 0, none⟩) 1 1] 90)) := ((Below.refl _ _).alloc (Nat.le_refl _) _).alloc (by simp) _
          have hBC : Below wt.heap.size wt (((w1.alloc (.cells #[.int .i64 0, .int .i64 0, .int .i64 21, .int .i64 0] 102)).alloc (.cells #[.int .i64 128, .int .i64 6, .int .i64 6, .int .i64 0, .int .i64 0, .slice (some ⟨w1.heap.size, 0, none⟩) 1 1] 90)).alloc (.cells #[.int .i64 128, .int .i64 6, .int .i64 6, .int .i64 0, .int .i64 0, .slice (some ⟨w1.heap.size, 0, none⟩) 1 1] 90)) := (hB1.trans (hBA.mono hs1)).trans (hBC2.mono (by simp; omega))
          have hbs : bits BinOp.andNot IntKind.i64 255 31 = 224 := by decide +kernel
          have hpp := rel_els (q := listR partR) (rel_fresh (hPf.rel (Nat.le_refl _)) hBC2) (v := .slice Ao M.length co) (base := wo.heap.size + 1 + 1) (fun g hg => by have := HFo.out.own_lt g hg; omega) (by omega)
          have hge : wo.heap.size + 1 + 1 ≤ wt.heap.size := by have := HBi.out.size; omega
          show wpList _ _ _ _ _ _
          refine wpList_append_fl (r := termR) (v := .slice Ao M.length co) (xs := M) (by rfl) _ _ 54 (by rfl) inft _ 64 Tryz.underlying54 ht0 hy0 hy1 hy2 rfl (by decide) (by rfl) HFo.out hBC (by simp; omega) ⟨w1.heap.size + 1 + 1, 0, none⟩ 1 (byteT 2 1) [.int .i64 128, .int .i64 6, .int .i64 6, .int .i64 0, .int .i64 0, .slice (some ⟨w1.heap.size, 0, none⟩) 1 1] (by rfl) ⟨_, by rfl, ⟨(okI (by omega) : I64 128), (okI (by omega) : I64 6), (okI (by omega) : I64 6), (okI (by omega) : I64 0), (okI (by omega) : I64 0)⟩, hpp⟩
            (news_at (w := ((w1.alloc (.cells #[.int .i64 0, .int .i64 0, .int .i64 21, .int .i64 0] 102)).alloc (.cells #[.int .i64 128, .int .i64 6, .int .i64 6, .int .i64 0, .int .i64 0, .slice (some ⟨w1.heap.size, 0, none⟩) 1 1] 90))) (cs := #[_, _, _, _, _, _]) (by simp)) (by simp [Value.oneCell']) (by unfold maxLen; omega) (by omega) ?_
          intro v' w3 hF3 hB3
          obtain ⟨Av, cv, rfl⟩ := hF3.len
          have hbx : ∀ q, q < wt.heap.size → q < wo.heap.size + 1 + 1 → w3.heap[q]? = wt.heap[q]? := fun q hq h8 => (hB3.block q h8).trans (hBC.block q hq)
          have hR3 := (hbx (wo.heap.size + 1) hRl (by omega)).trans HR.out
          have s4 := (five9 hR3).2.2.2.2
          have g4 := frozen_of_row _ _ 4 _ _ hR3
          have hTs : (w3.setCell ⟨wo.heap.size + 1, 4, none⟩ (.slice Av (M ++ [byteT 2 1]).length cv)).heap[wo.heap.size + 1]? = some (.cells #[.int .i64 0, .int .i64 0, .slice (some ⟨wo.heap.size, 0, none⟩) 1 1, .int .i64 1, .slice Av (M ++ [byteT 2 1]).length cv] 56) := (heap_setCell_same w3 (wo.heap.size + 1) 4 _ _ (.slice Av (M ++ [byteT 2 1]).length cv) hR3).trans rfl
          have hFs := hF3.keep (w' := (w3.setCell ⟨wo.heap.size + 1, 4, none⟩ (.slice Av (M ++ [byteT 2 1]).length cv))) (Nat.le_refl _) (by simp) (fun q hq _ => heap_setCell_other _ _ _ _ (by simp only; omega))
          have hBs : Below (wo.heap.size + 1) wc (w3.setCell ⟨wo.heap.size + 1, 4, none⟩ (.slice Av (M ++ [byteT 2 1]).length cv)) := ((HBi.out.trans (hBC.mono (by omega))).trans (hB3.mono (by omega))).setCell (p := ⟨wo.heap.size + 1, 4, none⟩) (Nat.le_refl _) _
          have HE : Hid (∃ (j' : Nat) (x' : Int), j' ≤ 3 ∧ x' = 2 - j' ∧ Value.int .i64 (0) = .int .i64 x' ∧ InnI wo.heap.size (.slice (some ⟨wo.heap.size, 0, none⟩) 1 1) wc (w3.setCell ⟨wo.heap.size + 1, 4, none⟩ (.slice Av (M ++ [byteT 2 1]).length cv)) ((encOut 2).take j')) := hid ⟨2, 0, by omega, rfl, rfl, _, hTs, by rw [hMN.out]; exact hFs, hBs⟩
          clear hTs hFs hBs hF3 hpp hPf hBA hBC hBC2 hbs
          go_wp2_with fail
          first
            | (refine ⟨HE.out, ?_⟩; simp [intOf]; omega)
            | (go_simp; refine ⟨by simpa using HE.out, ?_⟩; simp [intOf]; omega)
            | (go_simp; refine ⟨by simpa using HE.out, ?_⟩; simp [intOf])
        · obtain rfl : x = 0 := by omega
          clear hxj
          have hMN : Hid ((encOut 2).take 3 = M ++ [byteT 2 0]) := hid (by rw [hM]; rfl)
          clear hR hFo hBi hM r0 r1 r2 r3 r4 f4
          go_wp2_with fail
          refine (HW.out _).mono ?_
          rintro e w1 ⟨rfl, hB1⟩
          have hs1 := hB1.size
          have hR1 := (hB1.block (wo.heap.size + 1) hRl).trans HR.out
          have hR1l := heapLtM hR1
          have hR1m : wo.heap.size < w1.heap.size := by omega
          obtain ⟨r0, r1, r2, r3, r4⟩ := five9 hR1
          have f4 := frozen_of_row _ _ 4 _ _ hR1
          go_wp2_with (at_builtin; refine Hid.out ?_)
          refine hid ?_
          have hBA : Below w1.heap.size w1 (w1.alloc (.cells #[.int .i64 0, .int .i64 0, .int .i64 21, .int .i64 0] 102)) := (Below.refl _ w1).alloc (Nat.le_refl _) _
          have hPf := FL.one (e := 102) (r := partR) (x := ⟨0, 0, 21, 0⟩) (cs := [.int .i64 0, .int .i64 0, .int .i64 21, .int .i64 0]) (cells := #[.int .i64 0, .int .i64 0, .int .i64 21, .int .i64 0]) (w := w1) (b0 := w1.heap.size) (base := w1.heap.size) ⟨rfl, (okI (by omega) : I64 0), (okI (by omega) : I64 0), (okI (by omega) : I64 21), (okI (by omega) : I64 0)⟩ rfl (Nat.le_refl _)
          have hBC2 : Below (w1.alloc (.cells #[.int .i64 0, .int .i64 0, .int .i64 21, .int .i64 0] 102)).heap.size (w1.alloc (.cells #[.int .i64 0, .int .i64 0, .int .i64 21, .int .i64 0] 102)) (((w1.alloc (.cells #[.int .i64 0, .int .i64 0, .int .i64 21, .int .i64 0] 102)).alloc (.cells #[.int .i64 128, .int .i64 0, .int .i64 6, .int .i64 0, .int .i64 0, .slice (some ⟨w1.heap.size, 0, none⟩) 1 1] 90)).alloc (.cells #[.int .i64 128, .int .i64 0, .int .i64 6, .int .i64 0, .int .i64 0, .slice (some ⟨w1.heap.size, 0, none⟩) 1 1] 90)) := ((Below.refl _ _).alloc (Nat.le_refl _) _).alloc (by simp) _
          have hBC : Below wt.heap.size wt (((w1.alloc (.cells #[.int .i64 0, .int .i64 0, .int .i64 21, .int .i64 0] 102)).alloc (.cells #[.int .i64 128, .int .i64 0, .int .i64 6, .int .i64 0, .int .i64 0, .slice (some ⟨w1.heap.size, 0, none⟩) 1 1] 90)).alloc (.cells #[.int .i64 128, .int .i64 0, .int .i64 6, .int .i64 0, .int .i64 0, .slice (some ⟨w1.heap.size, 0, none⟩) 1 1] 90)) := (hB1.trans (hBA.mono hs1)).trans (hBC2.mono (by simp; omega))
          have hbs : bits BinOp.andNot IntKind.i64 255 31 = 224 := by decide +kernel
          have hpp := rel_els (q := listR partR) (rel_fresh (hPf.rel (Nat.le_refl _)) hBC2) (v := .slice Ao M.length co) (base := wo.heap.size + 1 + 1) (fun g hg => by have := HFo.out.own_lt g hg; omega) (by omega)
          have hge : wo.heap.size + 1 + 1 ≤ wt.heap.size := by have := HBi.out.size; omega
          show wpList _ _ _ _ _ _
          refine wpList_append_fl (r := termR) (v := .slice Ao M.length co) (xs := M) (by rfl) _ _ 54 (by rfl) inft _ 64 Tryz.underlying54 ht0 hy0 hy1 hy2 rfl (by decide) (by rfl) HFo.out hBC (by simp; omega) ⟨w1.heap.size + 1 + 1, 0, none⟩ 1 (byteT 2 0) [.int .i64 128, .int .i64 0, .int .i64 6, .int .i64 0, .int .i64 0, .slice (some ⟨w1.heap.size, 0, none⟩) 1 1] (by rfl) ⟨_, by rfl, ⟨(okI (by omega) : I64 128), (okI (by omega) : I64 0), (okI (by omega) : I64 6), (okI (by omega) : I64 0), (okI (by omega) : I64 0)⟩, hpp⟩
            (news_at (w := ((w1.alloc (.cells #[.int .i64 0, .int .i64 0, .int .i64 21, .int .i64 0] 102)).alloc (.cells #[.int .i64 128, .int .i64 0, .int .i64 6, .int .i64 0, .int .i64 0, .slice (some ⟨w1.heap.size, 0, none⟩) 1 1] 90))) (cs := #[_, _, _, _, _, _]) (by simp)) (by simp [Value.oneCell']) (by unfold maxLen; omega) (by omega) ?_
          intro v' w3 hF3 hB3
          obtain ⟨Av, cv, rfl⟩ := hF3.len
          have hbx : ∀ q, q < wt.heap.size → q < wo.heap.size + 1 + 1 → w3.heap[q]? = wt.heap[q]? := fun q hq h8 => (hB3.block q h8).trans (hBC.block q hq)
          have hR3 := (hbx (wo.heap.size + 1) hRl (by omega)).trans HR.out
          have s4 := (five9 hR3).2.2.2.2
          have g4 := frozen_of_row _ _ 4 _ _ hR3
          have hTs : (w3.setCell ⟨wo.heap.size + 1, 4, none⟩ (.slice Av (M ++ [byteT 2 0]).length cv)).heap[wo.heap.size + 1]? = some (.cells #[.int .i64 0, .int .i64 0, .slice (some ⟨wo.heap.size, 0, none⟩) 1 1, .int .i64 1, .slice Av (M ++ [byteT 2 0]).length cv] 56) := (heap_setCell_same w3 (wo.heap.size + 1) 4 _ _ (.slice Av (M ++ [byteT 2 0]).length cv) hR3).trans rfl
          have hFs := hF3.keep (w' := (w3.setCell ⟨wo.heap.size + 1, 4, none⟩ (.slice Av (M ++ [byteT 2 0]).length cv))) (Nat.le_refl _) (by simp) (fun q hq _ => heap_setCell_other _ _ _ _ (by simp only; omega))
          have hBs : Below (wo.heap.size + 1) wc (w3.setCell ⟨wo.heap.size + 1, 4, none⟩ (.slice Av (M ++ [byteT 2 0]).length cv)) := ((HBi.out.trans (hBC.mono (by omega))).trans (hB3.mono (by omega))).setCell (p := ⟨wo.heap.size + 1, 4, none⟩) (Nat.le_refl _) _
          have HE : Hid (∃ (j' : Nat) (x' : Int), j' ≤ 3 ∧ x' = 2 - j' ∧ Value.int .i64 (-1) = .int .i64 x' ∧ InnI wo.heap.size (.slice (some ⟨wo.heap.size, 0, none⟩) 1 1) wc (w3.setCell ⟨wo.heap.size + 1, 4, none⟩ (.slice Av (M ++ [byteT 2 0]).length cv)) ((encOut 2).take j')) := hid ⟨3, -1, by omega, rfl, rfl, _, hTs, by rw [hMN.out]; exact hFs, hBs⟩
          clear hTs hFs hBs hF3 hpp hPf hBA hBC hBC2 hbs
          go_wp2_with fail
          first
            | (refine ⟨HE.out, ?_⟩; simp [intOf]; omega)
            | (go_simp; refine ⟨by simpa using HE.out, ?_⟩; simp [intOf]; omega)
            | (go_simp; refine ⟨by simpa using HE.out, ?_⟩; simp [intOf])
        · obtain rfl : x = -1 := by omega
          clear hxj
          obtain ⟨w3, hw3⟩ : ∃ w3, w3 = wt := ⟨_, rfl⟩
          subst hw3
          have hB3 := HBi.out
          have hR3 := HR.out
          have hML : M = encOut 2 := by rw [hM]; rfl
          have hO3 := HFo.out.rel (Nat.le_refl _)
          rw [hML] at hO3
          have hnl : M.length = 3 := by rw [hML]; rfl
          rw [hnl] at hR3
          clear hR hFo hBi hM r0 r1 r2 r3 r4 f4 HFo
          -- the rule stands in its box: append it
          have hD3 := (hB3.block (w.heap.size + 1 + 1) (by omega)).trans (hcD.trans HD.out)
          obtain ⟨d0, d1, d2, d3, d4, d5⟩ := six9 hD3
          obtain ⟨g0, g1, g2, g3, g4, g5⟩ := fro6 hD3
          obtain ⟨r0, r1, r2, r3, r4⟩ := five9 hR3
          have hR3l := heapLtM hR3


          go_wp2_with (at_builtin; refine Hid.out ?_)
          refine hid ?_
          have hBow : Below wo.heap.size wo w3 := hBc.trans (hB3.mono (by omega))
          have hBA : Below wo.heap.size wo (w3.alloc (.cells #[.int .i64 0, .int .i64 0, .slice (some ⟨wo.heap.size, 0, none⟩) 1 1, .int .i64 1, .slice Ao 3 co] 56)) := hBow.alloc hBow.size _
          have hge : ∀ q, (Value.slice Ar L.length cr).ownBlock = some q → w.heap.size + 1 + 1 + 1 + 1 + 1 + 1 + 1 + 1 ≤ q := HF.out.own_ge
          have hown : ∀ q, (Value.slice Ar L.length cr).ownBlock = some q → q < wo.heap.size := HF.out.own_lt
          have hgs : (listR spansR).rel (w3.alloc (.cells #[.int .i64 0, .int .i64 0, .slice (some ⟨wo.heap.size, 0, none⟩) 1 1, .int .i64 1, .slice Ao 3 co] 56)) (Els (w3.alloc (.cells #[.int .i64 0, .int .i64 0, .slice (some ⟨wo.heap.size, 0, none⟩) 1 1, .int .i64 1, .slice Ao 3 co] 56)) (w.heap.size + 1 + 1 + 1) (.slice Ar L.length cr)) [.slice (some ⟨wo.heap.size, 0, none⟩) 1 1] [[⟨2048, 55295⟩, ⟨57344, 65535⟩]] := by
            refine ⟨_, 1, 1, rfl, rfl, Nat.le_refl _, by unfold maxLen; omega, .inr ⟨wo.heap.size, 0, rfl, ⟨by omega, by simp; omega, fun he => by have := hown _ he; omega⟩, fun i x hx => ?_⟩⟩
            cases i with
            | succ i => simp at hx
            | zero =>
              simp at hx
              subst hx
              have hgb := (Below.heap_alloc w3 (.cells #[.int .i64 0, .int .i64 0, .slice (some ⟨wo.heap.size, 0, none⟩) 1 1, .int .i64 1, .slice Ao 3 co] 56) wo.heap.size (by omega)).trans ((hB3.block wo.heap.size (by omega)).trans hcG)
              have hsb := (Below.heap_alloc w3 (.cells #[.int .i64 0, .int .i64 0, .slice (some ⟨wo.heap.size, 0, none⟩) 1 1, .int .i64 1, .slice Ao 3 co] 56) (w.heap.size + 1 + 1 + 1 + 1 + 1) (by omega)).trans ((hBow.block (w.heap.size + 1 + 1 + 1 + 1 + 1) (by omega)).trans ((HK.out (w.heap.size + 1 + 1 + 1 + 1 + 1) (by omega) (by omega)).trans HM5.out))
              refine ⟨[.slice (some ⟨w.heap.size + 1 + 1 + 1 + 1 + 1, 0, none⟩) 2 2], ⟨_, 2, 2, rfl, rfl, Nat.le_refl _, by unfold maxLen; omega, .inr ⟨w.heap.size + 1 + 1 + 1 + 1 + 1, 0, rfl, ⟨by omega, by simp; omega, fun he => by have := hge _ he; omega⟩, fun i x hx => ?_⟩⟩, fun j u hu => ?_⟩
              · rcases i with _ | _ | i
                · simp at hx
                  subst hx
                  exact ⟨_, ⟨rfl, (okI (by omega) : I64 2048), (okI (by omega) : I64 55295)⟩, fun j u hu => (cell_of_row _ _ _ _ _ _ hsb).trans (by rcases j with _ | _ | j <;> simp [Span.cells, show spanR.width = 2 from rfl] at hu ⊢ <;> exact hu)⟩
                · simp at hx
                  subst hx
                  exact ⟨_, ⟨rfl, (okI (by omega) : I64 57344), (okI (by omega) : I64 65535)⟩, fun j u hu => (cell_of_row _ _ _ _ _ _ hsb).trans (by rcases j with _ | _ | j <;> simp [Span.cells, show spanR.width = 2 from rfl] at hu ⊢ <;> exact hu)⟩
                · simp at hx
              · rw [cell_of_row _ _ _ _ _ _ hgb]
                simpa using hu
          have hot := rel_els (q := listR termR) (rel_fresh hO3 ((Below.refl _ w3).alloc (Nat.le_refl _) (.cells #[.int .i64 0, .int .i64 0, .slice (some ⟨wo.heap.size, 0, none⟩) 1 1, .int .i64 1, .slice Ao 3 co] 56))) (v := .slice Ar L.length cr) (base := w.heap.size + 1 + 1 + 1) (fun g hg => by have := hown g hg; omega) (by omega)
          show wpList _ _ _ _ _ _
          refine wpList_append_fl (r := ruleR) (v := .slice Ar L.length cr) (xs := L) (by rfl) _ _ 23 (by rfl) inf _ 72 Tryz.underlying23 hi0 hz0 hz1 hz2 rfl (by decide) (by rfl) HF.out hBA (by simp; omega) ⟨w3.heap.size, 0, none⟩ 1 (encR 2) [.int .i64 0, .int .i64 0, .slice (some ⟨wo.heap.size, 0, none⟩) 1 1, .int .i64 1, .slice Ao 3 co] (by rfl) ⟨_, _, rfl, ⟨(okI (by omega) : I64 0), (okI (by omega) : I64 0), (okI (by omega) : I64 1)⟩, hgs, hot⟩
            (news_at (w := w3) (cs := #[_, _, _, _, _]) (by simp)) (by simp [Value.oneCell']) (by unfold maxLen; omega) (by omega) ?_
          intro v' w6 hF6 hB6
          have hbx : ∀ q, q < wo.heap.size → w.heap.size + 1 + 1 + 1 + 1 + 1 + 1 + 1 + 1 > q → w6.heap[q]? = wo.heap[q]? := fun q hq h8 => (hB6.block q h8).trans (hBA.block q hq)
          have hD6 := (hbx (w.heap.size + 1 + 1) (by omega) (by omega)).trans HD.out
          obtain ⟨q0, q1, q2, q3, q4, q5⟩ := six9 hD6
          obtain ⟨p0, p1, p2, p3, p4, p5⟩ := fro6 hD6
          obtain ⟨Aw, cw, rfl⟩ := hF6.len
          have hTs : (w6.setCell ⟨w.heap.size + 1 + 1, 4, none⟩ (.slice Aw (L ++ [encR 2]).length cw)).heap[w.heap.size + 1 + 1]? = some (.cells #[.int .i64 2, .int .i64 1, .int .i64 1, .int .i64 0, .slice Aw (L ++ [encR 2]).length cw, .slice (some ⟨w.heap.size + 1, 0, none⟩) 1 1] 26) := (heap_setCell_same w6 (w.heap.size + 1 + 1) 4 _ _ (.slice Aw (L ++ [encR 2]).length cw) hD6).trans rfl
          have hFs := hF6.keep (w' := w6.setCell ⟨w.heap.size + 1 + 1, 4, none⟩ (.slice Aw (L ++ [encR 2]).length cw)) (by omega) (by simp) (fun q hq _ => heap_setCell_other _ _ _ _ (by simp only; omega))
          have hKs : ∀ q, q < w.heap.size + 1 + 1 + 1 + 1 + 1 + 1 + 1 + 1 → q ≠ w.heap.size + 1 + 1 → (w6.setCell ⟨w.heap.size + 1 + 1, 4, none⟩ (.slice Aw (L ++ [encR 2]).length cw)).heap[q]? = w0.heap[q]? := fun q h1 h2 => by
            rw [heap_setCell_other _ _ _ _ (by simpa using h2), hbx q (by omega) h1]; exact HK.out q h1 h2
          have hBs : Below w.heap.size w (w6.setCell ⟨w.heap.size + 1 + 1, 4, none⟩ (.slice Aw (L ++ [encR 2]).length cw)) := ((HB.out.trans (hBA.mono (by omega))).trans (hB6.mono (by omega))).setCell (p := ⟨w.heap.size + 1 + 1, 4, none⟩) (by simp only; omega) _
          have hzs : w.heap.size + 1 + 1 + 1 + 1 + 1 + 1 + 1 + 1 ≤ (w6.setCell ⟨w.heap.size + 1 + 1, 4, none⟩ (.slice Aw (L ++ [encR 2]).length cw)).heap.size := by simp; have h9 := hB6.size; have h8 := hBA.size; simp at h9 h8; omega
          have HE : Hid (∃ (k' : Nat) (z' : Int), k' ≤ 4 ∧ z' = k' ∧ Value.int .i64 3 = .int .i64 z' ∧ EncI w w0 (w6.setCell ⟨w.heap.size + 1 + 1, 4, none⟩ (.slice Aw (L ++ [encR 2]).length cw)) k') := hid ⟨3, 3, by omega, rfl, rfl, _, hTs, by rw [hSN.out]; exact hFs, hKs, hzs, hBs⟩
          clear hTs hFs hKs hBs hzs hgs hot
          go_wp2_with fail
          first
            | (refine ⟨HE.out, ?_⟩; simp [intOf]; omega)
            | (go_simp; refine ⟨by simpa using HE.out, ?_⟩; simp [intOf]; omega)
            | (go_simp; refine ⟨by simpa using HE.out, ?_⟩; simp [intOf])
        · omega
    · obtain rfl : z = 3 := by simpa using hzk
      clear hzk
      obtain ⟨L, hL⟩ : ∃ L, L = encRs.take 3 := ⟨_, rfl⟩
      rw [← hL] at HF hF
      obtain ⟨Ar, cr, rfl⟩ := hF.len
      have hrl : L.length ≤ 9 := by rw [hL]; simp [encRs]; try omega
      have hSN : Hid (encRs.take 4 = L ++ [encR 3]) := hid (by rw [hL]; rfl)
      have HL := hid hL
      obtain ⟨x0, x1, x2, x3, x4, x5⟩ := six9 hD
      have hO7 := (hkeep (w.heap.size + 1 + 1 + 1 + 1 + 1 + 1 + 1) (by omega) (by omega)).trans HM7.out
      have o3 : wo.cell? ⟨w.heap.size + 1 + 1 + 1 + 1 + 1 + 1 + 1, 3, none⟩ = some (.slice (some ⟨w.heap.size + 1 + 1 + 1 + 1 + 1 + 1, 0, none⟩) 1 1) := cell_of_row _ _ 3 _ _ _ hO7
      have hcA := cellA
      have hfA := froA
      clear hD hF hkeep hB hL hO7
      go_wp2_with fail
      obtain ⟨wc, hwc⟩ : ∃ wc, wc = (wo.alloc (.cells #[.slice (some ⟨w.heap.size + 1 + 1 + 1 + 1 + 1 + 1, 0, none⟩) 1 1] 65)).alloc (.cells #[.int .i64 0, .int .i64 0, .slice (some ⟨wo.heap.size, 0, none⟩) 1 1, .int .i64 1, .slice none 0 0] 56) := ⟨_, rfl⟩
      have hBc : Below wo.heap.size wo wc := by rw [hwc]; exact ((Below.refl _ wo).alloc (Nat.le_refl _) _).alloc (by simp) _
      have hsc : wc.heap.size = wo.heap.size + 1 + 1 := by rw [hwc]; simp
      have hcD : wc.heap[w.heap.size + 1 + 1]? = wo.heap[w.heap.size + 1 + 1]? := hBc.block _ (by omega)
      have hcG : wc.heap[wo.heap.size]? = some (.cells #[.slice (some ⟨w.heap.size + 1 + 1 + 1 + 1 + 1 + 1, 0, none⟩) 1 1] 65) := by rw [hwc, Below.heap_alloc _ _ _ (by simp)]; exact heap_alloc_new wo _
      have hcR : wc.heap[wo.heap.size + 1]? = some (.cells #[.int .i64 0, .int .i64 0, .slice (some ⟨wo.heap.size, 0, none⟩) 1 1, .int .i64 1, .slice none 0 0] 56) := by
        rw [hwc]
        have := heap_alloc_new (wo.alloc (.cells #[.slice (some ⟨w.heap.size + 1 + 1 + 1 + 1 + 1 + 1, 0, none⟩) 1 1] 65)) (.cells #[.int .i64 0, .int .i64 0, .slice (some ⟨wo.heap.size, 0, none⟩) 1 1, .int .i64 1, .slice none 0 0] 56)
        simpa using this
      rw [← hwc]
      clear hwc x0 x1 x2 x3 x4 x5 o3
      go_loopw [6] (fun vi wi => ∃ (j : Nat) (x : Int), j ≤ 4 ∧ x = 3 - j ∧ vi = .int .i64 x ∧ InnI wo.heap.size (.slice (some ⟨wo.heap.size, 0, none⟩) 1 1) wc wi ((encOut 3).take j)) (fun vi _ => (intOf vi + 1).toNat)
      case atStart => exact ⟨0, 3, Nat.zero_le _, rfl, rfl, _, hcR, OwnR.nil, Below.refl _ _⟩
      case round =>
        obtain ⟨j, x, hj, hxj, rfl, vo, hR, hFo, hBi⟩ := hrel
        obtain ⟨wt, hwt⟩ : ∃ wt, wt = wr := ⟨_, rfl⟩
        subst hwt
        have HFo := hid hFo
        have HBi := hid hBi
        have HR := hid hR
        obtain ⟨M, hM⟩ : ∃ M, M = (encOut 3).take j := ⟨_, rfl⟩
        rw [← hM] at HFo hFo
        have hMl : M.length ≤ 9 := by rw [hM, List.length_take]; omega
        obtain ⟨Ao, co, rfl⟩ := hFo.len
        have hRl := heapLtM hR
        obtain ⟨r0, r1, r2, r3, r4⟩ := five9 hR
        have f4 := frozen_of_row _ _ 4 _ _ hR
        rcases j with _ | _ | _ | _ | _ | j
        · obtain rfl : x = 3 := by omega
          clear hxj
          have hMN : Hid ((encOut 3).take 1 = M ++ [byteT 3 3]) := hid (by rw [hM]; rfl)
          clear hR hFo hBi hM r0 r1 r2 r3 r4 f4
          go_wp2_with fail
          refine (HW.out _).mono ?_
          rintro e w1 ⟨rfl, hB1⟩
          have hs1 := hB1.size
          have hR1 := (hB1.block (wo.heap.size + 1) hRl).trans HR.out
          have hR1l := heapLtM hR1
          have hR1m : wo.heap.size < w1.heap.size := by omega
          obtain ⟨r0, r1, r2, r3, r4⟩ := five9 hR1
          have f4 := frozen_of_row _ _ 4 _ _ hR1
          go_wp2_with (at_builtin; refine Hid.out ?_)
          refine hid ?_
          have hBA : Below w1.heap.size w1 (w1.alloc (.cells #[.int .i64 0, .int .i64 0, .int .i64 21, .int .i64 0] 102)) := (Below.refl _ w1).alloc (Nat.le_refl _) _
          have hPf := FL.one (e := 102) (r := partR) (x := ⟨0, 0, 21, 0⟩) (cs := [.int .i64 0, .int .i64 0, .int .i64 21, .int .i64 0]) (cells := #[.int .i64 0, .int .i64 0, .int .i64 21, .int .i64 0]) (w := w1) (b0 := w1.heap.size) (base := w1.heap.size) ⟨rfl, (okI (by omega) : I64 0), (okI (by omega) : I64 0), (okI (by omega) : I64 21), (okI (by omega) : I64 0)⟩ rfl (Nat.le_refl _)
          have hBC2 : Below (w1.alloc (.cells #[.int .i64 0, .int .i64 0, .int .i64 21, .int .i64 0] 102)).heap.size (w1.alloc (.cells #[.int .i64 0, .int .i64 0, .int .i64 21, .int .i64 0] 102)) (((w1.alloc (.cells #[.int .i64 0, .int .i64 0, .int .i64 21, .int .i64 0] 102)).alloc (.cells #[.int .i64 (bits BinOp.andNot .i64 255 15), .int .i64 18, .int .i64 3, .int .i64 0, .int .i64 0, .slice (some ⟨w1.heap.size, 0, none⟩) 1 1] 90)).alloc (.cells #[.int .i64 (bits BinOp.andNot .i64 255 15), .int .i64 18, .int .i64 3, .int .i64 0, .int .i64 0, .slice (some ⟨w1.heap.size, 0, none⟩) 1 1] 90)) := ((Below.refl _ _).alloc (Nat.le_refl _) _).alloc (by simp) _
          have hBC : Below wt.heap.size wt (((w1.alloc (.cells #[.int .i64 0, .int .i64 0, .int .i64 21, .int .i64 0] 102)).alloc (.cells #[.int .i64 (bits BinOp.andNot .i64 255 15), .int .i64 18, .int .i64 3, .int .i64 0, .int .i64 0, .slice (some ⟨w1.heap.size, 0, none⟩) 1 1] 90)).alloc (.cells #[.int .i64 (bits BinOp.andNot .i64 255 15), .int .i64 18, .int .i64 3, .int .i64 0, .int .i64 0, .slice (some ⟨w1.heap.size, 0, none⟩) 1 1] 90)) := (hB1.trans (hBA.mono hs1)).trans (hBC2.mono (by simp; omega))
          have hbs : bits BinOp.andNot IntKind.i64 255 15 = 240 := by decide +kernel
          have hpp := rel_els (q := listR partR) (rel_fresh (hPf.rel (Nat.le_refl _)) hBC2) (v := .slice Ao M.length co) (base := wo.heap.size + 1 + 1) (fun g hg => by have := HFo.out.own_lt g hg; omega) (by omega)
          have hge : wo.heap.size + 1 + 1 ≤ wt.heap.size := by have := HBi.out.size; omega
          show wpList _ _ _ _ _ _
          refine wpList_append_fl (r := termR) (v := .slice Ao M.length co) (xs := M) (by rfl) _ _ 54 (by rfl) inft _ 64 Tryz.underlying54 ht0 hy0 hy1 hy2 rfl (by decide) (by rfl) HFo.out hBC (by simp; omega) ⟨w1.heap.size + 1 + 1, 0, none⟩ 1 (byteT 3 3) [.int .i64 (bits BinOp.andNot .i64 255 15), .int .i64 18, .int .i64 3, .int .i64 0, .int .i64 0, .slice (some ⟨w1.heap.size, 0, none⟩) 1 1] (by rfl) ⟨_, by rw [hbs]; rfl, ⟨(okI (by omega) : I64 240), (okI (by omega) : I64 18), (okI (by omega) : I64 3), (okI (by omega) : I64 0), (okI (by omega) : I64 0)⟩, hpp⟩
            (news_at (w := ((w1.alloc (.cells #[.int .i64 0, .int .i64 0, .int .i64 21, .int .i64 0] 102)).alloc (.cells #[.int .i64 (bits BinOp.andNot .i64 255 15), .int .i64 18, .int .i64 3, .int .i64 0, .int .i64 0, .slice (some ⟨w1.heap.size, 0, none⟩) 1 1] 90))) (cs := #[_, _, _, _, _, _]) (by simp)) (by simp [Value.oneCell']) (by unfold maxLen; omega) (by omega) ?_
          intro v' w3 hF3 hB3
          obtain ⟨Av, cv, rfl⟩ := hF3.len
          have hbx : ∀ q, q < wt.heap.size → q < wo.heap.size + 1 + 1 → w3.heap[q]? = wt.heap[q]? := fun q hq h8 => (hB3.block q h8).trans (hBC.block q hq)
          have hR3 := (hbx (wo.heap.size + 1) hRl (by omega)).trans HR.out
          have s4 := (five9 hR3).2.2.2.2
          have g4 := frozen_of_row _ _ 4 _ _ hR3
          have hTs : (w3.setCell ⟨wo.heap.size + 1, 4, none⟩ (.slice Av (M ++ [byteT 3 3]).length cv)).heap[wo.heap.size + 1]? = some (.cells #[.int .i64 0, .int .i64 0, .slice (some ⟨wo.heap.size, 0, none⟩) 1 1, .int .i64 1, .slice Av (M ++ [byteT 3 3]).length cv] 56) := (heap_setCell_same w3 (wo.heap.size + 1) 4 _ _ (.slice Av (M ++ [byteT 3 3]).length cv) hR3).trans rfl
          have hFs := hF3.keep (w' := (w3.setCell ⟨wo.heap.size + 1, 4, none⟩ (.slice Av (M ++ [byteT 3 3]).length cv))) (Nat.le_refl _) (by simp) (fun q hq _ => heap_setCell_other _ _ _ _ (by simp only; omega))
          have hBs : Below (wo.heap.size + 1) wc (w3.setCell ⟨wo.heap.size + 1, 4, none⟩ (.slice Av (M ++ [byteT 3 3]).length cv)) := ((HBi.out.trans (hBC.mono (by omega))).trans (hB3.mono (by omega))).setCell (p := ⟨wo.heap.size + 1, 4, none⟩) (Nat.le_refl _) _
          have HE : Hid (∃ (j' : Nat) (x' : Int), j' ≤ 4 ∧ x' = 3 - j' ∧ Value.int .i64 (2) = .int .i64 x' ∧ InnI wo.heap.size (.slice (some ⟨wo.heap.size, 0, none⟩) 1 1) wc (w3.setCell ⟨wo.heap.size + 1, 4, none⟩ (.slice Av (M ++ [byteT 3 3]).length cv)) ((encOut 3).take j')) := hid ⟨1, 2, by omega, rfl, rfl, _, hTs, by rw [hMN.out]; exact hFs, hBs⟩
          clear hTs hFs hBs hF3 hpp hPf hBA hBC hBC2 hbs
          go_wp2_with fail
          first
            | (refine ⟨HE.out, ?_⟩; simp [intOf]; omega)
            | (go_simp; refine ⟨by simpa using HE.out, ?_⟩; simp [intOf]; omega)
            | (go_simp; refine ⟨by simpa using HE.out, ?_⟩; simp [intOf])
        · obtain rfl : x = 2 := by omega
          clear hxj
          have hMN : Hid ((encOut 3).take 2 = M ++ [byteT 3 2]) := hid (by rw [hM]; rfl)
          clear hR hFo hBi hM r0 r1 r2 r3 r4 f4
          go_wp2_with fail
          refine (HW.out _).mono ?_
          rintro e w1 ⟨rfl, hB1⟩
          have hs1 := hB1.size
          have hR1 := (hB1.block (wo.heap.size + 1) hRl).trans HR.out
          have hR1l := heapLtM hR1
          have hR1m : wo.heap.size < w1.heap.size := by omega
          obtain ⟨r0, r1, r2, r3, r4⟩ := five9 hR1
          have f4 := frozen_of_row _ _ 4 _ _ hR1
          go_wp2_with (at_builtin; refine Hid.out ?_)
          refine hid ?_
          have hBA : Below w1.heap.size w1 (w1.alloc (.cells #[.int .i64 0, .int .i64 0, .int .i64 21, .int .i64 0] 102)) := (Below.refl _ w1).alloc (Nat.le_refl _) _
          have hPf := FL.one (e := 102) (r := partR) (x := ⟨0, 0, 21, 0⟩) (cs := [.int .i64 0, .int .i64 0, .int .i64 21, .int .i64 0]) (cells := #[.int .i64 0, .int .i64 0, .int .i64 21, .int .i64 0]) (w := w1) (b0 := w1.heap.size) (base := w1.heap.size) ⟨rfl, (okI (by omega) : I64 0), (okI (by omega) : I64 0), (okI (by omega) : I64 21), (okI (by omega) : I64 0)⟩ rfl (Nat.le_refl _)
          have hBC2 : Below (w1.alloc (.cells #[.int .i64 0, .int .i64 0, .int .i64 21, .int .i64 0] 102)).heap.size (w1.alloc (.cells #[.int .i64 0, .int .i64 0, .int .i64 21, .int .i64 0] 102)) (((w1.alloc (.cells #[.int .i64 0, .int .i64 0, .int .i64 21, .int .i64 0] 102)).alloc (.cells #[.int .i64 128, .int .i64 12, .int .i64 6, .int .i64 0, .int .i64 0, .slice (some ⟨w1.heap.size, 0, none⟩) 1 1] 90)).alloc (.cells #[.int .i64 128, .int .i64 12, .int .i64 6, .int .i64 0, .int .i64 0, .slice (some ⟨w1.heap.size, 0, none⟩) 1 1] 90)) := ((Below.refl _ _).alloc (Nat.le_refl _) _).alloc (by simp) _
          have hBC : Below wt.heap.size wt (((w1.alloc (.cells #[.int .i64 0, .int .i64 0, .int .i64 21, .int .i64 0] 102)).alloc (.cells #[.int .i64 128, .int .i64 12, .int .i64 6, .int .i64 0, .int .i64 0, .slice (some ⟨w1.heap.size, 0, none⟩) 1 1] 90)).alloc (.cells #[.int .i64 128, .int .i64 12, .int .i64 6, .int .i64 0, .int .i64 0, .slice (some ⟨w1.heap.size, 0, none⟩) 1 1] 90)) := (hB1.trans (hBA.mono hs1)).trans (hBC2.mono (by simp; omega))
          have hbs : bits BinOp.andNot IntKind.i64 255 15 = 240 := by decide +kernel
          have hpp := rel_els (q := listR partR) (rel_fresh (hPf.rel (Nat.le_refl _)) hBC2) (v := .slice Ao M.length co) (base := wo.heap.size + 1 + 1) (fun g hg => by have := HFo.out.own_lt g hg; omega) (by omega)
          have hge : wo.heap.size + 1 + 1 ≤ wt.heap.size := by have := HBi.out.size; omega
          show wpList _ _ _ _ _ _
          refine wpList_append_fl (r := termR) (v := .slice Ao M.length co) (xs := M) (by rfl) _ _ 54 (by rfl) inft _ 64 Tryz.underlying54 ht0 hy0 hy1 hy2 rfl (by decide) (by rfl) HFo.out hBC (by simp; omega) ⟨w1.heap.size + 1 + 1, 0, none⟩ 1 (byteT 3 2) [.int .i64 128, .int .i64 12, .int .i64 6, .int .i64 0, .int .i64 0, .slice (some ⟨w1.heap.size, 0, none⟩) 1 1] (by rfl) ⟨_, by rfl, ⟨(okI (by omega) : I64 128), (okI (by omega) : I64 12), (okI (by omega) : I64 6), (okI (by omega) : I64 0), (okI (by omega) : I64 0)⟩, hpp⟩
            (news_at (w := ((w1.alloc (.cells #[.int .i64 0, .int .i64 0, .int .i64 21, .int .i64 0] 102)).alloc (.cells #[.int .i64 128, .int .i64 12, .int .i64 6, .int .i64 0, .int .i64 0, .slice (some ⟨w1.heap.size, 0, none⟩) 1 1] 90))) (cs := #[_, _, _, _, _, _]) (by simp)) (by simp [Value.oneCell']) (by unfold maxLen; omega) (by omega) ?_
          intro v' w3 hF3 hB3
          obtain ⟨Av, cv, rfl⟩ := hF3.len
          have hbx : ∀ q, q < wt.heap.size → q < wo.heap.size + 1 + 1 → w3.heap[q]? = wt.heap[q]? := fun q hq h8 => (hB3.block q h8).trans (hBC.block q hq)
          have hR3 := (hbx (wo.heap.size + 1) hRl (by omega)).trans HR.out
          have s4 := (five9 hR3).2.2.2.2
          have g4 := frozen_of_row _ _ 4 _ _ hR3
          have hTs : (w3.setCell ⟨wo.heap.size + 1, 4, none⟩ (.slice Av (M ++ [byteT 3 2]).length cv)).heap[wo.heap.size + 1]? = some (.cells #[.int .i64 0, .int .i64 0, .slice (some ⟨wo.heap.size, 0, none⟩) 1 1, .int .i64 1, .slice Av (M ++ [byteT 3 2]).length cv] 56) := (heap_setCell_same w3 (wo.heap.size + 1) 4 _ _ (.slice Av (M ++ [byteT 3 2]).length cv) hR3).trans rfl
          have hFs := hF3.keep (w' := (w3.setCell ⟨wo.heap.size + 1, 4, none⟩ (.slice Av (M ++ [byteT 3 2]).length cv))) (Nat.le_refl _) (by simp) (fun q hq _ => heap_setCell_other _ _ _ _ (by simp only; omega))
          have hBs : Below (wo.heap.size + 1) wc (w3.setCell ⟨wo.heap.size + 1, 4, none⟩ (.slice Av (M ++ [byteT 3 2]).length cv)) := ((HBi.out.trans (hBC.mono (by omega))).trans (hB3.mono (by omega))).setCell (p := ⟨wo.heap.size + 1, 4, none⟩) (Nat.le_refl _) _
          have HE : Hid (∃ (j' : Nat) (x' : Int), j' ≤ 4 ∧ x' = 3 - j' ∧ Value.int .i64 (1) = .int .i64 x' ∧ InnI wo.heap.size (.slice (some ⟨wo.heap.size, 0, none⟩) 1 1) wc (w3.setCell ⟨wo.heap.size + 1, 4, none⟩ (.slice Av (M ++ [byteT 3 2]).length cv)) ((encOut 3).take j')) := hid ⟨2, 1, by omega, rfl, rfl, _, hTs, by rw [hMN.out]; exact hFs, hBs⟩
          clear hTs hFs hBs hF3 hpp hPf hBA hBC hBC2 hbs
          go_wp2_with fail
          first
            | (refine ⟨HE.out, ?_⟩; simp [intOf]; omega)
            | (go_simp; refine ⟨by simpa using HE.out, ?_⟩; simp [intOf]; omega)
            | (go_simp; refine ⟨by simpa using HE.out, ?_⟩; simp [intOf])
        · obtain rfl : x = 1 := by omega
          clear hxj
          have hMN : Hid ((encOut 3).take 3 = M ++ [byteT 3 1]) := hid (by rw [hM]; rfl)
          clear hR hFo hBi hM r0 r1 r2 r3 r4 f4
          go_wp2_with fail
          refine (HW.out _).mono ?_
          rintro e w1 ⟨rfl, hB1⟩
          have hs1 := hB1.size
          have hR1 := (hB1.block (wo.heap.size + 1) hRl).trans HR.out
          have hR1l := heapLtM hR1
          have hR1m : wo.heap.size < w1.heap.size := by omega
          obtain ⟨r0, r1, r2, r3, r4⟩ := five9 hR1
          have f4 := frozen_of_row _ _ 4 _ _ hR1
          go_wp2_with (at_builtin; refine Hid.out ?_)
          refine hid ?_
          have hBA : Below w1.heap.size w1 (w1.alloc (.cells #[.int .i64 0, .int .i64 0, .int .i64 21, .int .i64 0] 102)) := (Below.refl _ w1).alloc (Nat.le_refl _) _
          have hPf := FL.one (e := 102) (r := partR) (x := ⟨0, 0, 21, 0⟩) (cs := [.int .i64 0, .int .i64 0, .int .i64 21, .int .i64 0]) (cells := #[.int .i64 0, .int .i64 0, .int .i64 21, .int .i64 0]) (w := w1) (b0 := w1.heap.size) (base := w1.heap.size) ⟨rfl, (okI (by omega) : I64 0), (okI (by omega) : I64 0), (okI (by omega) : I64 21), (okI (by omega) : I64 0)⟩ rfl (Nat.le_refl _)
          have hBC2 : Below (w1.alloc (.cells #[.int .i64 0, .int .i64 0, .int .i64 21, .int .i64 0] 102)).heap.size (w1.alloc (.cells #[.int .i64 0, .int .i64 0, .int .i64 21, .int .i64 0] 102)) (((w1.alloc (.cells #[.int .i64 0, .int .i64 0, .int .i64 21, .int .i64 0] 102)).alloc (.cells #[.int .i64 128, .int .i64 6, .int .i64 6, .int .i64 0, .int .i64 0, .slice (some ⟨w1.heap.size, 0, none⟩) 1 1] 90)).alloc (.cells #[.int .i64 128, .int .i64 6, .int .i64 6, .int .i64 0, .int .i64 0, .slice (some ⟨w1.heap.size, 0, none⟩) 1 1] 90)) := ((Below.refl _ _).alloc (Nat.le_refl _) _).alloc (by simp) _
          have hBC : Below wt.heap.size wt (((w1.alloc (.cells #[.int .i64 0, .int .i64 0, .int .i64 21, .int .i64 0] 102)).alloc (.cells #[.int .i64 128, .int .i64 6, .int .i64 6, .int .i64 0, .int .i64 0, .slice (some ⟨w1.heap.size, 0, none⟩) 1 1] 90)).alloc (.cells #[.int .i64 128, .int .i64 6, .int .i64 6, .int .i64 0, .int .i64 0, .slice (some ⟨w1.heap.size, 0, none⟩) 1 1] 90)) := (hB1.trans (hBA.mono hs1)).trans (hBC2.mono (by simp; omega))
          have hbs : bits BinOp.andNot IntKind.i64 255 15 = 240 := by decide +kernel
          have hpp := rel_els (q := listR partR) (rel_fresh (hPf.rel (Nat.le_refl _)) hBC2) (v := .slice Ao M.length co) (base := wo.heap.size + 1 + 1) (fun g hg => by have := HFo.out.own_lt g hg; omega) (by omega)
          have hge : wo.heap.size + 1 + 1 ≤ wt.heap.size := by have := HBi.out.size; omega
          show wpList _ _ _ _ _ _
          refine wpList_append_fl (r := termR) (v := .slice Ao M.length co) (xs := M) (by rfl) _ _ 54 (by rfl) inft _ 64 Tryz.underlying54 ht0 hy0 hy1 hy2 rfl (by decide) (by rfl) HFo.out hBC (by simp; omega) ⟨w1.heap.size + 1 + 1, 0, none⟩ 1 (byteT 3 1) [.int .i64 128, .int .i64 6, .int .i64 6, .int .i64 0, .int .i64 0, .slice (some ⟨w1.heap.size, 0, none⟩) 1 1] (by rfl) ⟨_, by rfl, ⟨(okI (by omega) : I64 128), (okI (by omega) : I64 6), (okI (by omega) : I64 6), (okI (by omega) : I64 0), (okI (by omega) : I64 0)⟩, hpp⟩
            (news_at (w := ((w1.alloc (.cells #[.int .i64 0, .int .i64 0, .int .i64 21, .int .i64 0] 102)).alloc (.cells #[.int .i64 128, .int .i64 6, .int .i64 6, .int .i64 0, .int .i64 0, .slice (some ⟨w1.heap.size, 0, none⟩) 1 1] 90))) (cs := #[_, _, _, _, _, _]) (by simp)) (by simp [Value.oneCell']) (by unfold maxLen; omega) (by omega) ?_
          intro v' w3 hF3 hB3
          obtain ⟨Av, cv, rfl⟩ := hF3.len
          have hbx : ∀ q, q < wt.heap.size → q < wo.heap.size + 1 + 1 → w3.heap[q]? = wt.heap[q]? := fun q hq h8 => (hB3.block q h8).trans (hBC.block q hq)
          have hR3 := (hbx (wo.heap.size + 1) hRl (by omega)).trans HR.out
          have s4 := (five9 hR3).2.2.2.2
          have g4 := frozen_of_row _ _ 4 _ _ hR3
          have hTs : (w3.setCell ⟨wo.heap.size + 1, 4, none⟩ (.slice Av (M ++ [byteT 3 1]).length cv)).heap[wo.heap.size + 1]? = some (.cells #[.int .i64 0, .int .i64 0, .slice (some ⟨wo.heap.size, 0, none⟩) 1 1, .int .i64 1, .slice Av (M ++ [byteT 3 1]).length cv] 56) := (heap_setCell_same w3 (wo.heap.size + 1) 4 _ _ (.slice Av (M ++ [byteT 3 1]).length cv) hR3).trans rfl
          have hFs := hF3.keep (w' := (w3.setCell ⟨wo.heap.size + 1, 4, none⟩ (.slice Av (M ++ [byteT 3 1]).length cv))) (Nat.le_refl _) (by simp) (fun q hq _ => heap_setCell_other _ _ _ _ (by simp only; omega))
          have hBs : Below (wo.heap.size + 1) wc (w3.setCell ⟨wo.heap.size + 1, 4, none⟩ (.slice Av (M ++ [byteT 3 1]).length cv)) := ((HBi.out.trans (hBC.mono (by omega))).trans (hB3.mono (by omega))).setCell (p := ⟨wo.heap.size + 1, 4, none⟩) (Nat.le_refl _) _
          have HE : Hid (∃ (j' : Nat) (x' : Int), j' ≤ 4 ∧ x' = 3 - j' ∧ Value.int .i64 (0) = .int .i64 x' ∧ InnI wo.heap.size (.slice (some ⟨wo.heap.size, 0, none⟩) 1 1) wc (w3.setCell ⟨wo.heap.size + 1, 4, none⟩ (.slice Av (M ++ [byteT 3 1]).length cv)) ((encOut 3).take j')) := hid ⟨3, 0, by omega, rfl, rfl, _, hTs, by rw [hMN.out]; exact hFs, hBs⟩
          clear hTs hFs hBs hF3 hpp hPf hBA hBC hBC2 hbs
          go_wp2_with fail
          first
            | (refine ⟨HE.out, ?_⟩; simp [intOf]; omega)
            | (go_simp; refine ⟨by simpa using HE.out, ?_⟩; simp [intOf]; omega)
            | (go_simp; refine ⟨by simpa using HE.out, ?_⟩; simp [intOf])
        · obtain rfl : x = 0 := by omega
          clear hxj
          have hMN : Hid ((encOut 3).take 4 = M ++ [byteT 3 0]) := hid (by rw [hM]; rfl)
          clear hR hFo hBi hM r0 r1 r2 r3 r4 f4
          go_wp2_with fail
          refine (HW.out _).mono ?_
          rintro e w1 ⟨rfl, hB1⟩
          have hs1 := hB1.size
          have hR1 := (hB1.block (wo.heap.size + 1) hRl).trans HR.out
          have hR1l := heapLtM hR1
          have hR1m : wo.heap.size < w1.heap.size := by omega
          obtain ⟨r0, r1, r2, r3, r4⟩ := five9 hR1
          have f4 := frozen_of_row _ _ 4 _ _ hR1
          go_wp2_with (at_builtin; refine Hid.out ?_)
          refine hid ?_
          have hBA : Below w1.heap.size w1 (w1.alloc (.cells #[.int .i64 0, .int .i64 0, .int .i64 21, .int .i64 0] 102)) := (Below.refl _ w1).alloc (Nat.le_refl _) _
          have hPf := FL.one (e := 102) (r := partR) (x := ⟨0, 0, 21, 0⟩) (cs := [.int .i64 0, .int .i64 0, .int .i64 21, .int .i64 0]) (cells := #[.int .i64 0, .int .i64 0, .int .i64 21, .int .i64 0]) (w := w1) (b0 := w1.heap.size) (base := w1.heap.size) ⟨rfl, (okI (by omega) : I64 0), (okI (by omega) : I64 0), (okI (by omega) : I64 21), (okI (by omega) : I64 0)⟩ rfl (Nat.le_refl _)
          have hBC2 : Below (w1.alloc (.cells #[.int .i64 0, .int .i64 0, .int .i64 21, .int .i64 0] 102)).heap.size (w1.alloc (.cells #[.int .i64 0, .int .i64 0, .int .i64 21, .int .i64 0] 102)) (((w1.alloc (.cells #[.int .i64 0, .int .i64 0, .int .i64 21, .int .i64 0] 102)).alloc (.cells #[.int .i64 128, .int .i64 0, .int .i64 6, .int .i64 0, .int .i64 0, .slice (some ⟨w1.heap.size, 0, none⟩) 1 1] 90)).alloc (.cells #[.int .i64 128, .int .i64 0, .int .i64 6, .int .i64 0, .int .i64 0, .slice (some ⟨w1.heap.size, 0, none⟩) 1 1] 90)) := ((Below.refl _ _).alloc (Nat.le_refl _) _).alloc (by simp) _
          have hBC : Below wt.heap.size wt (((w1.alloc (.cells #[.int .i64 0, .int .i64 0, .int .i64 21, .int .i64 0] 102)).alloc (.cells #[.int .i64 128, .int .i64 0, .int .i64 6, .int .i64 0, .int .i64 0, .slice (some ⟨w1.heap.size, 0, none⟩) 1 1] 90)).alloc (.cells #[.int .i64 128, .int .i64 0, .int .i64 6, .int .i64 0, .int .i64 0, .slice (some ⟨w1.heap.size, 0, none⟩) 1 1] 90)) := (hB1.trans (hBA.mono hs1)).trans (hBC2.mono (by simp; omega))
          have hbs : bits BinOp.andNot IntKind.i64 255 15 = 240 := by decide +kernel
          have hpp := rel_els (q := listR partR) (rel_fresh (hPf.rel (Nat.le_refl _)) hBC2) (v := .slice Ao M.length co) (base := wo.heap.size + 1 + 1) (fun g hg => by have := HFo.out.own_lt g hg; omega) (by omega)
          have hge : wo.heap.size + 1 + 1 ≤ wt.heap.size := by have := HBi.out.size; omega
          show wpList _ _ _ _ _ _
          refine wpList_append_fl (r := termR) (v := .slice Ao M.length co) (xs := M) (by rfl) _ _ 54 (by rfl) inft _ 64 Tryz.underlying54 ht0 hy0 hy1 hy2 rfl (by decide) (by rfl) HFo.out hBC (by simp; omega) ⟨w1.heap.size + 1 + 1, 0, none⟩ 1 (byteT 3 0) [.int .i64 128, .int .i64 0, .int .i64 6, .int .i64 0, .int .i64 0, .slice (some ⟨w1.heap.size, 0, none⟩) 1 1] (by rfl) ⟨_, by rfl, ⟨(okI (by omega) : I64 128), (okI (by omega) : I64 0), (okI (by omega) : I64 6), (okI (by omega) : I64 0), (okI (by omega) : I64 0)⟩, hpp⟩
            (news_at (w := ((w1.alloc (.cells #[.int .i64 0, .int .i64 0, .int .i64 21, .int .i64 0] 102)).alloc (.cells #[.int .i64 128, .int .i64 0, .int .i64 6, .int .i64 0, .int .i64 0, .slice (some ⟨w1.heap.size, 0, none⟩) 1 1] 90))) (cs := #[_, _, _, _, _, _]) (by simp)) (by simp [Value.oneCell']) (by unfold maxLen; omega) (by omega) ?_
          intro v' w3 hF3 hB3
          obtain ⟨Av, cv, rfl⟩ := hF3.len
          have hbx : ∀ q, q < wt.heap.size → q < wo.heap.size + 1 + 1 → w3.heap[q]? = wt.heap[q]? := fun q hq h8 => (hB3.block q h8).trans (hBC.block q hq)
          have hR3 := (hbx (wo.heap.size + 1) hRl (by omega)).trans HR.out
          have s4 := (five9 hR3).2.2.2.2
          have g4 := frozen_of_row _ _ 4 _ _ hR3
          have hTs : (w3.setCell ⟨wo.heap.size + 1, 4, none⟩ (.slice Av (M ++ [byteT 3 0]).length cv)).heap[wo.heap.size + 1]? = some (.cells #[.int .i64 0, .int .i64 0, .slice (some ⟨wo.heap.size, 0, none⟩) 1 1, .int .i64 1, .slice Av (M ++ [byteT 3 0]).length cv] 56) := (heap_setCell_same w3 (wo.heap.size + 1) 4 _ _ (.slice Av (M ++ [byteT 3 0]).length cv) hR3).trans rfl
          have hFs := hF3.keep (w' := (w3.setCell ⟨wo.heap.size + 1, 4, none⟩ (.slice Av (M ++ [byteT 3 0]).length cv))) (Nat.le_refl _) (by simp) (fun q hq _ => heap_setCell_other _ _ _ _ (by simp only; omega))
          have hBs : Below (wo.heap.size + 1) wc (w3.setCell ⟨wo.heap.size + 1, 4, none⟩ (.slice Av (M ++ [byteT 3 0]).length cv)) := ((HBi.out.trans (hBC.mono (by omega))).trans (hB3.mono (by omega))).setCell (p := ⟨wo.heap.size + 1, 4, none⟩) (Nat.le_refl _) _
          have HE : Hid (∃ (j' : Nat) (x' : Int), j' ≤ 4 ∧ x' = 3 - j' ∧ Value.int .i64 (-1) = .int .i64 x' ∧ InnI wo.heap.size (.slice (some ⟨wo.heap.size, 0, none⟩) 1 1) wc (w3.setCell ⟨wo.heap.size + 1, 4, none⟩ (.slice Av (M ++ [byteT 3 0]).length cv)) ((encOut 3).take j')) := hid ⟨4, -1, by omega, rfl, rfl, _, hTs, by rw [hMN.out]; exact hFs, hBs⟩
          clear hTs hFs hBs hF3 hpp hPf hBA hBC hBC2 hbs
          go_wp2_with fail
          first
            | (refine ⟨HE.out, ?_⟩; simp [intOf]; omega)
            | (go_simp; refine ⟨by simpa using HE.out, ?_⟩; simp [intOf]; omega)
            | (go_simp; refine ⟨by simpa using HE.out, ?_⟩; simp [intOf])
        · obtain rfl : x = -1 := by omega
          clear hxj
          obtain ⟨w3, hw3⟩ : ∃ w3, w3 = wt := ⟨_, rfl⟩
          subst hw3
          have hB3 := HBi.out
          have hR3 := HR.out
          have hML : M = encOut 3 := by rw [hM]; rfl
          have hO3 := HFo.out.rel (Nat.le_refl _)
          rw [hML] at hO3
          have hnl : M.length = 4 := by rw [hML]; rfl
          rw [hnl] at hR3
          clear hR hFo hBi hM r0 r1 r2 r3 r4 f4 HFo
          -- the rule stands in its box: append it
          have hD3 := (hB3.block (w.heap.size + 1 + 1) (by omega)).trans (hcD.trans HD.out)
          obtain ⟨d0, d1, d2, d3, d4, d5⟩ := six9 hD3
          obtain ⟨g0, g1, g2, g3, g4, g5⟩ := fro6 hD3
          obtain ⟨r0, r1, r2, r3, r4⟩ := five9 hR3
          have hR3l := heapLtM hR3


          go_wp2_with (at_builtin; refine Hid.out ?_)
          refine hid ?_
          have hBow : Below wo.heap.size wo w3 := hBc.trans (hB3.mono (by omega))
          have hBA : Below wo.heap.size wo (w3.alloc (.cells #[.int .i64 0, .int .i64 0, .slice (some ⟨wo.heap.size, 0, none⟩) 1 1, .int .i64 1, .slice Ao 4 co] 56)) := hBow.alloc hBow.size _
          have hge : ∀ q, (Value.slice Ar L.length cr).ownBlock = some q → w.heap.size + 1 + 1 + 1 + 1 + 1 + 1 + 1 + 1 ≤ q := HF.out.own_ge
          have hown : ∀ q, (Value.slice Ar L.length cr).ownBlock = some q → q < wo.heap.size := HF.out.own_lt
          have hgs : (listR spansR).rel (w3.alloc (.cells #[.int .i64 0, .int .i64 0, .slice (some ⟨wo.heap.size, 0, none⟩) 1 1, .int .i64 1, .slice Ao 4 co] 56)) (Els (w3.alloc (.cells #[.int .i64 0, .int .i64 0, .slice (some ⟨wo.heap.size, 0, none⟩) 1 1, .int .i64 1, .slice Ao 4 co] 56)) (w.heap.size + 1 + 1 + 1) (.slice Ar L.length cr)) [.slice (some ⟨wo.heap.size, 0, none⟩) 1 1] [[⟨65536, 1114111⟩]] := by
            refine ⟨_, 1, 1, rfl, rfl, Nat.le_refl _, by unfold maxLen; omega, .inr ⟨wo.heap.size, 0, rfl, ⟨by omega, by simp; omega, fun he => by have := hown _ he; omega⟩, fun i x hx => ?_⟩⟩
            cases i with
            | succ i => simp at hx
            | zero =>
              simp at hx
              subst hx
              have hgb := (Below.heap_alloc w3 (.cells #[.int .i64 0, .int .i64 0, .slice (some ⟨wo.heap.size, 0, none⟩) 1 1, .int .i64 1, .slice Ao 4 co] 56) wo.heap.size (by omega)).trans ((hB3.block wo.heap.size (by omega)).trans hcG)
              have hsb := (Below.heap_alloc w3 (.cells #[.int .i64 0, .int .i64 0, .slice (some ⟨wo.heap.size, 0, none⟩) 1 1, .int .i64 1, .slice Ao 4 co] 56) (w.heap.size + 1 + 1 + 1 + 1 + 1 + 1) (by omega)).trans ((hBow.block (w.heap.size + 1 + 1 + 1 + 1 + 1 + 1) (by omega)).trans ((HK.out (w.heap.size + 1 + 1 + 1 + 1 + 1 + 1) (by omega) (by omega)).trans HM6.out))
              refine ⟨[.slice (some ⟨w.heap.size + 1 + 1 + 1 + 1 + 1 + 1, 0, none⟩) 1 1], ⟨_, 1, 1, rfl, rfl, Nat.le_refl _, by unfold maxLen; omega, .inr ⟨w.heap.size + 1 + 1 + 1 + 1 + 1 + 1, 0, rfl, ⟨by omega, by simp; omega, fun he => by have := hge _ he; omega⟩, fun i x hx => ?_⟩⟩, fun j u hu => ?_⟩
              · rcases i with _ | _ | i
                · simp at hx
                  subst hx
                  exact ⟨_, ⟨rfl, (okI (by omega) : I64 65536), (okI (by omega) : I64 1114111)⟩, fun j u hu => (cell_of_row _ _ _ _ _ _ hsb).trans (by rcases j with _ | _ | j <;> simp [Span.cells, show spanR.width = 2 from rfl] at hu ⊢ <;> exact hu)⟩
                · simp at hx
                · simp at hx
              · rw [cell_of_row _ _ _ _ _ _ hgb]
                simpa using hu
          have hot := rel_els (q := listR termR) (rel_fresh hO3 ((Below.refl _ w3).alloc (Nat.le_refl _) (.cells #[.int .i64 0, .int .i64 0, .slice (some ⟨wo.heap.size, 0, none⟩) 1 1, .int .i64 1, .slice Ao 4 co] 56))) (v := .slice Ar L.length cr) (base := w.heap.size + 1 + 1 + 1) (fun g hg => by have := hown g hg; omega) (by omega)
          show wpList _ _ _ _ _ _
          refine wpList_append_fl (r := ruleR) (v := .slice Ar L.length cr) (xs := L) (by rfl) _ _ 23 (by rfl) inf _ 72 Tryz.underlying23 hi0 hz0 hz1 hz2 rfl (by decide) (by rfl) HF.out hBA (by simp; omega) ⟨w3.heap.size, 0, none⟩ 1 (encR 3) [.int .i64 0, .int .i64 0, .slice (some ⟨wo.heap.size, 0, none⟩) 1 1, .int .i64 1, .slice Ao 4 co] (by rfl) ⟨_, _, rfl, ⟨(okI (by omega) : I64 0), (okI (by omega) : I64 0), (okI (by omega) : I64 1)⟩, hgs, hot⟩
            (news_at (w := w3) (cs := #[_, _, _, _, _]) (by simp)) (by simp [Value.oneCell']) (by unfold maxLen; omega) (by omega) ?_
          intro v' w6 hF6 hB6
          have hbx : ∀ q, q < wo.heap.size → w.heap.size + 1 + 1 + 1 + 1 + 1 + 1 + 1 + 1 > q → w6.heap[q]? = wo.heap[q]? := fun q hq h8 => (hB6.block q h8).trans (hBA.block q hq)
          have hD6 := (hbx (w.heap.size + 1 + 1) (by omega) (by omega)).trans HD.out
          obtain ⟨q0, q1, q2, q3, q4, q5⟩ := six9 hD6
          obtain ⟨p0, p1, p2, p3, p4, p5⟩ := fro6 hD6
          obtain ⟨Aw, cw, rfl⟩ := hF6.len
          have hTs : (w6.setCell ⟨w.heap.size + 1 + 1, 4, none⟩ (.slice Aw (L ++ [encR 3]).length cw)).heap[w.heap.size + 1 + 1]? = some (.cells #[.int .i64 2, .int .i64 1, .int .i64 1, .int .i64 0, .slice Aw (L ++ [encR 3]).length cw, .slice (some ⟨w.heap.size + 1, 0, none⟩) 1 1] 26) := (heap_setCell_same w6 (w.heap.size + 1 + 1) 4 _ _ (.slice Aw (L ++ [encR 3]).length cw) hD6).trans rfl
          have hFs := hF6.keep (w' := w6.setCell ⟨w.heap.size + 1 + 1, 4, none⟩ (.slice Aw (L ++ [encR 3]).length cw)) (by omega) (by simp) (fun q hq _ => heap_setCell_other _ _ _ _ (by simp only; omega))
          have hKs : ∀ q, q < w.heap.size + 1 + 1 + 1 + 1 + 1 + 1 + 1 + 1 → q ≠ w.heap.size + 1 + 1 → (w6.setCell ⟨w.heap.size + 1 + 1, 4, none⟩ (.slice Aw (L ++ [encR 3]).length cw)).heap[q]? = w0.heap[q]? := fun q h1 h2 => by
            rw [heap_setCell_other _ _ _ _ (by simpa using h2), hbx q (by omega) h1]; exact HK.out q h1 h2
          have hBs : Below w.heap.size w (w6.setCell ⟨w.heap.size + 1 + 1, 4, none⟩ (.slice Aw (L ++ [encR 3]).length cw)) := ((HB.out.trans (hBA.mono (by omega))).trans (hB6.mono (by omega))).setCell (p := ⟨w.heap.size + 1 + 1, 4, none⟩) (by simp only; omega) _
          have hzs : w.heap.size + 1 + 1 + 1 + 1 + 1 + 1 + 1 + 1 ≤ (w6.setCell ⟨w.heap.size + 1 + 1, 4, none⟩ (.slice Aw (L ++ [encR 3]).length cw)).heap.size := by simp; have h9 := hB6.size; have h8 := hBA.size; simp at h9 h8; omega
          have HE : Hid (∃ (k' : Nat) (z' : Int), k' ≤ 4 ∧ z' = k' ∧ Value.int .i64 4 = .int .i64 z' ∧ EncI w w0 (w6.setCell ⟨w.heap.size + 1 + 1, 4, none⟩ (.slice Aw (L ++ [encR 3]).length cw)) k') := hid ⟨4, 4, by omega, rfl, rfl, _, hTs, by rw [hSN.out]; exact hFs, hKs, hzs, hBs⟩
          clear hTs hFs hKs hBs hzs hgs hot
          go_wp2_with fail
          first
            | (refine ⟨HE.out, ?_⟩; simp [intOf]; omega)
            | (go_simp; refine ⟨by simpa using HE.out, ?_⟩; simp [intOf]; omega)
            | (go_simp; refine ⟨by simpa using HE.out, ?_⟩; simp [intOf])
        · omega
    · obtain rfl : k = 0 := by omega
      obtain rfl : z = 4 := by simpa using hzk
      clear hzk
      obtain ⟨L, hL⟩ : ∃ L, L = encodeD.rules := ⟨_, rfl⟩
      have hL2 : encRs.take (0 + 1 + 1 + 1 + 1) = L := by rw [hL, enc_rules]; rfl
      rw [hL2] at HF hF
      obtain ⟨Ar, cr, rfl⟩ := hF.len
      have hZ := (hkeep w.heap.size (by omega) (by omega)).trans HM0.out
      have hfin := (hkeep (w.heap.size + 1) (by omega) (by omega)).trans HM1.out
      obtain ⟨x0, x1, x2, x3, x4, x5⟩ := six9 hD
      obtain ⟨z0, z1, z2, z3, z4, z5⟩ := six9 hZ
      obtain ⟨f0, f1, f2, f3, f4, f5⟩ := fro6 hZ
      have hZl := heapLtM hZ
      have HZ := hid hZ
      have HFI := hid hfin
      have HL2 := hid hL
      clear hD hF hkeep hB hZ hfin hL hL2
      go_wp2_with fail
      obtain ⟨ws, hws⟩ : ∃ ws, ws = setS wo w.heap.size (.int .i64 2) (.int .i64 1) (.int .i64 1) (.int .i64 0) (.slice Ar L.length cr) (.slice (some ⟨w.heap.size + 1, 0, none⟩) 1 1) := ⟨_, rfl⟩
      have hXs : ws.heap[w.heap.size]? = some (.cells #[.int .i64 2, .int .i64 1, .int .i64 1, .int .i64 0, .slice Ar L.length cr, .slice (some ⟨w.heap.size + 1, 0, none⟩) 1 1] 26) := by rw [hws]; exact setS_heap HZ.out _ _ _ _ _ _
      have hBs : Below w.heap.size w ws := by rw [hws]; exact HB.out.set6 (Nat.le_refl _) _ _ _ _ _ _
      have hss : ws.heap.size = wo.heap.size := by rw [hws]; exact setS_size ..
      have hoth : ∀ q, q ≠ w.heap.size → ws.heap[q]? = wo.heap[q]? := fun q hq => by rw [hws]; exact setS_other _ _ _ _ _ _ _ _ _ hq
      unfold setS at hws
      rw [← hws]
      clear hws
      obtain ⟨y0, y1, y2, y3, y4, y5⟩ := six9 hXs
      have hFr := HF.out.keep (w' := ws) (by omega) (by omega) (fun q hq _ => hoth q (by omega))
      have hFXr : FX 56 ruleR ws w.heap.size (fun q => (Value.slice Ar L.length cr).ownBlock = some q ∨ q = w.heap.size + 1) (.slice Ar L.length cr) encodeD.rules := by
        have h8 : FX 56 ruleR ws w.heap.size (fun q => (Value.slice Ar L.length cr).ownBlock = some q ∨ q = w.heap.size + 1) (.slice Ar L.length cr) L :=
          ⟨OwnR.base' (OwnR.keep hFr (fun _ _ => rfl) (fun _ _ => rfl) (fun b hs => ⟨by have := hs.1; omega, hs.2.1, fun hx => hx.elim hs.2.2 (fun h => by have := hs.1; omega)⟩)) (by omega), fun q hq => .inl hq⟩
        rw [HL2.out] at h8 ⊢
        exact h8
      have hFIs := (hoth (w.heap.size + 1) (by omega)).trans HFI.out
      have hFXf : FX 59 finalR ws w.heap.size (fun q => (Value.slice Ar L.length cr).ownBlock = some q ∨ q = w.heap.size + 1) (.slice (some ⟨w.heap.size + 1, 0, none⟩) 1 1) [⟨0, [], []⟩] :=
        ⟨⟨[[.int .i64 0, .slice none 0 0, .slice none 0 0]], rfl, ⟨rfl, .inr ⟨w.heap.size + 1, 1, _, rfl, by omega, hFIs, Nat.le_refl _, by unfold maxLen; omega, rfl, rfl⟩⟩, fun i x cs h1 h2 => by
          cases i with
          | succ i => simp at h1
          | zero => simp at h1 h2; subst h1 h2; exact ⟨_, _, rfl, (okI (by omega) : I64 0), list_nil _ _ _, list_nil _ _ _⟩⟩, fun q hq => .inr (by simp [Value.ownBlock] at hq; omega)⟩
      have hXl : ∀ q, ((Value.slice Ar L.length cr).ownBlock = some q ∨ q = w.heap.size + 1) → q < ws.heap.size := fun q hq => hq.elim (fun h => hFXr.own_lt q (by rw [← h])) (fun h => by omega)
      exact bodyPost_ret (v := .agg #[.int .i64 2, .int .i64 1, .int .i64 1, .int .i64 0, .slice Ar L.length cr, .slice (some ⟨w.heap.size + 1, 0, none⟩) 1 1]) (by simp [results, Tryz.results32, go_sem, y0, y1, y2, y3, y4, y5]) rfl ⟨_, _, _, rfl, hFXr, hFXf, hXl, hBs⟩
end Go.Proofs.YtmkmikacfilbpaaGreat
