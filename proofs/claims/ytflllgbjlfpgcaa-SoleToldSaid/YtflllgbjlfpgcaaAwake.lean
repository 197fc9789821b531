import Derived.Test.YtflllgbjlfpgcaaSoleOne

namespace Go.Proofs.Ytflllgbjlfpgcaa
open Go.RowKit Go.Um

theorem list_one {α : Type} {r : RepOf α} {w : World} {S : Nat → Prop} {b o c : Nat} {x : α} {ds : List Value} (h1 : 1 ≤ c) (hc : c ≤ maxLen) (hS : S b) (hr : r.rel w S ds x)
    (hcells : ∀ (j : Nat) (v : Value), ds[j]? = some v → w.cell? ⟨b, o + j, none⟩ = some v) : (listR r).rel w S [.slice (some ⟨b, o, none⟩) 1 c] [x] := by
  refine ⟨_, _, _, rfl, rfl, h1, hc, .inr ⟨b, o, rfl, hS, fun i y hi => ?_⟩⟩
  match i, hi with
  | 0, hi =>
    simp at hi
    subst hi
    exact ⟨ds, hr, fun j v hv => by simpa using hcells j v hv⟩
theorem list_two {α : Type} {r : RepOf α} {w : World} {S : Nat → Prop} {b o c : Nat} {x y : α} {ds es : List Value} (h1 : 2 ≤ c) (hc : c ≤ maxLen) (hS : S b) (hr : r.rel w S ds x) (hr2 : r.rel w S es y)
    (hcells : ∀ (j : Nat) (v : Value), ds[j]? = some v → w.cell? ⟨b, o + j, none⟩ = some v) (hcells2 : ∀ (j : Nat) (v : Value), es[j]? = some v → w.cell? ⟨b, o + r.width + j, none⟩ = some v) : (listR r).rel w S [.slice (some ⟨b, o, none⟩) 2 c] [x, y] := by
  refine ⟨_, _, _, rfl, rfl, h1, hc, .inr ⟨b, o, rfl, hS, fun i z hi => ?_⟩⟩
  match i, hi with
  | 0, hi =>
    simp at hi
    subst hi
    exact ⟨ds, hr, fun j v hv => by simpa using hcells j v hv⟩
  | 1, hi =>
    simp at hi
    subst hi
    exact ⟨es, hr2, fun j v hv => by simpa using hcells2 j v hv⟩

def ga : List Span := [⟨97, 99⟩]
def gc : List Span := [⟨99, 99⟩]
theorem ga_c : (meetF ga gc).isEmpty = false := by
  have h : mem (meetF ga gc) 99 := mem_meetF.2 ⟨⟨by decide, ⟨97, 99⟩, by simp [ga], by decide⟩, ⟨by decide, ⟨99, 99⟩, by simp [gc], by decide⟩⟩
  cases h2 : meetF ga gc with
  | nil => rw [h2] at h; obtain ⟨s, hs, _⟩ := h; cases hs
  | cons a b => rfl
theorem awake_clash : clashS (optsD ⟨1, 1, 1, 0, [⟨0, 0, [ga], 1, []⟩, ⟨0, 0, [gc, gc], 1, []⟩], []⟩) = .tuple #[.int .i64 0, .int .i64 1, .bool true] := by
  have h : clashF ⟨0, [ga], false⟩ ⟨0, [gc, gc], false⟩ = true := by simp [clashF, meetG, ga_c]
  have hi : idxO [⟨0, [ga], false⟩, ⟨0, [gc, gc], false⟩] 2 0 = [0, 1] := by decide
  simp [clashS, optsD, ruleOpt, outerS, hi, innerS, pairF, h]
theorem guards_cc : guardsF 1 [gc, gc] = true := by
  have h : minusF gc (domF 1) = [] := minusF_nil.2 (by
    rintro z ⟨hz, s, hs, h1, h2⟩
    simp [gc] at hs
    subst hs
    simp only at h1 h2
    exact ⟨hz, ⟨0, 255⟩, by simp [domF], by simp only; omega, by simp only; omega⟩)
  have h2 : guardOk 1 gc = true := by
    have : plain gc = true := by decide
    simp [guardOk, this, h]
    simp [gc]
  simp [guardsF, h2]

theorem awake_rel {W : World} {b0 b1 b2 b3 b4 : Nat} (n0 : b0 < W.heap.size) (n1 : b1 < W.heap.size) (n2 : b2 < W.heap.size) (n3 : b3 < W.heap.size) (n4 : b4 < W.heap.size)
    (h0 : ∀ (j : Nat) (v : Value), [Value.int .i64 97, .int .i64 99][j]? = some v → W.cell? ⟨b0, 0 + j, none⟩ = some v)
    (h1 : ∀ (j : Nat) (v : Value), [Value.int .i64 99, .int .i64 99][j]? = some v → W.cell? ⟨b1, 0 + j, none⟩ = some v)
    (h2 : ∀ (j : Nat) (v : Value), [Value.slice (some ⟨b0, 0, none⟩) 1 1][j]? = some v → W.cell? ⟨b2, 0 + j, none⟩ = some v)
    (h3 : ∀ (j : Nat) (v : Value), [Value.slice (some ⟨b1, 0, none⟩) 1 1, .slice (some ⟨b1, 0, none⟩) 1 1][j]? = some v → W.cell? ⟨b3, 0 + j, none⟩ = some v)
    (h4 : ∀ (j : Nat) (v : Value), [Value.int .i64 0, .int .i64 0, .slice (some ⟨b2, 0, none⟩) 1 1, .int .i64 1, .slice none 0 0, .int .i64 0, .int .i64 0, .slice (some ⟨b3, 0, none⟩) 2 2, .int .i64 1, .slice none 0 0][j]? = some v → W.cell? ⟨b4, 0 + j, none⟩ = some v) :
    (listR ruleR).rel W (upto W.heap.size) [.slice (some ⟨b4, 0, none⟩) 2 2] [⟨0, 0, [ga], 1, []⟩, ⟨0, 0, [gc, gc], 1, []⟩] ∧ (listR ruleR).rel W (upto W.heap.size) [.slice (some ⟨b4, 5, none⟩) 1 1] [⟨0, 0, [gc, gc], 1, []⟩] := by
  have g0 : spansR.rel W (upto W.heap.size) [.slice (some ⟨b0, 0, none⟩) 1 1] ga := list_one (r := spanR) (by decide) (by decide) n0 (ds := [.int .i64 97, .int .i64 99]) ⟨rfl, I64.of (by decide) (by decide), I64.of (by decide) (by decide)⟩ h0
  have g1 : spansR.rel W (upto W.heap.size) [.slice (some ⟨b1, 0, none⟩) 1 1] gc := list_one (r := spanR) (by decide) (by decide) n1 (ds := [.int .i64 99, .int .i64 99]) ⟨rfl, I64.of (by decide) (by decide), I64.of (by decide) (by decide)⟩ h1
  have g2 : (listR spansR).rel W (upto W.heap.size) [.slice (some ⟨b2, 0, none⟩) 1 1] [ga] := list_one (by decide) (by decide) n2 g0 h2
  have g3 : (listR spansR).rel W (upto W.heap.size) [.slice (some ⟨b3, 0, none⟩) 2 2] [gc, gc] := list_two (by decide) (by decide) n3 g1 g1 (fun j v hv => h3 j v (by match j, hv with | 0, hv => exact hv)) (fun j v hv => by
    have h5 := h3 (1 + j) v (by match j, hv with | 0, hv => exact hv)
    have e : 0 + (1 + j) = 0 + spansR.width + j := by show 0 + (1 + j) = 0 + 1 + j; omega
    rw [e] at h5; exact h5)
  have gt : (listR termR).rel W (upto W.heap.size) [.slice none 0 0] [] := list_nil termR _ _
  have e0 : ruleR.rel W (upto W.heap.size) [.int .i64 0, .int .i64 0, .slice (some ⟨b2, 0, none⟩) 1 1, .int .i64 1, .slice none 0 0] ⟨0, 0, [ga], 1, []⟩ := ⟨_, _, rfl, ⟨I64.of (by decide) (by decide), I64.of (by decide) (by decide), I64.of (by decide) (by decide)⟩, g2, gt⟩
  have e1 : ruleR.rel W (upto W.heap.size) [.int .i64 0, .int .i64 0, .slice (some ⟨b3, 0, none⟩) 2 2, .int .i64 1, .slice none 0 0] ⟨0, 0, [gc, gc], 1, []⟩ := ⟨_, _, rfl, ⟨I64.of (by decide) (by decide), I64.of (by decide) (by decide), I64.of (by decide) (by decide)⟩, g3, gt⟩
  have hlo : ∀ (j : Nat) (v : Value), [Value.int .i64 0, .int .i64 0, .slice (some ⟨b2, 0, none⟩) 1 1, .int .i64 1, .slice none 0 0][j]? = some v → W.cell? ⟨b4, 0 + j, none⟩ = some v := fun j v hv => h4 j v (by
    match j, hv with | 0, hv => exact hv | 1, hv => exact hv | 2, hv => exact hv | 3, hv => exact hv | 4, hv => exact hv)
  have hhi : ∀ (j : Nat) (v : Value), [Value.int .i64 0, .int .i64 0, .slice (some ⟨b3, 0, none⟩) 2 2, .int .i64 1, .slice none 0 0][j]? = some v → W.cell? ⟨b4, 5 + j, none⟩ = some v := fun j v hv => by
    have := h4 (5 + j) v (by match j, hv with | 0, hv => exact hv | 1, hv => exact hv | 2, hv => exact hv | 3, hv => exact hv | 4, hv => exact hv)
    simpa using this
  exact ⟨list_two (by decide) (by decide) n4 e0 e1 hlo (fun j v hv => by have := hhi j v hv; simpa [ruleR] using this), list_one (by decide) (by decide) n4 e1 hhi⟩

def awW (w : World) : World :=
  (((((w.alloc (.cells #[.int .i64 97, .int .i64 99] 46)).alloc (.cells #[.int .i64 99, .int .i64 99] 46)).alloc (.cells #[.slice (some ⟨w.heap.size, 0, none⟩) 1 1] 38)).alloc
    (.cells #[.slice (some ⟨w.heap.size + 1, 0, none⟩) 1 1, .slice (some ⟨w.heap.size + 1, 0, none⟩) 1 1] 38)).alloc
    (.cells #[.int .i64 0, .int .i64 0, .slice (some ⟨w.heap.size + 1 + 1, 0, none⟩) 1 1, .int .i64 1, .slice none 0 0, .int .i64 0, .int .i64 0, .slice (some ⟨w.heap.size + 1 + 1 + 1, 0, none⟩) 2 2, .int .i64 1, .slice none 0 0] 42)).alloc
    (.cells #[.int .i64 1, .int .i64 1, .int .i64 1, .int .i64 0, .slice (some ⟨w.heap.size + 1 + 1 + 1 + 1, 0, none⟩) 2 2, .slice none 0 0] 26)
theorem awW_size (w : World) : (awW w).heap.size = w.heap.size + 6 := by simp [awW]
theorem awW_below (w : World) : Below w.heap.size w (awW w) := by
  unfold awW
  exact ((((((Below.refl w.heap.size w).alloc (Nat.le_refl _) _).alloc (by simp) _).alloc (by simp; omega) _).alloc (by simp; omega) _).alloc (by simp; omega) _).alloc (by simp; omega) _
set_option maxHeartbeats 1000000 in
theorem awake_mem (w W : World) (hB : Below (w.heap.size + 5) (awW w) W) (hz : w.heap.size + 5 ≤ W.heap.size) :
    (listR ruleR).rel W (upto W.heap.size) [.slice (some ⟨w.heap.size + 1 + 1 + 1 + 1, 0, none⟩) 2 2] [⟨0, 0, [ga], 1, []⟩, ⟨0, 0, [gc, gc], 1, []⟩] ∧ (listR ruleR).rel W (upto W.heap.size) [.slice (some ⟨w.heap.size + 1 + 1 + 1 + 1, 5, none⟩) 1 1] [⟨0, 0, [gc, gc], 1, []⟩] := by
  refine awake_rel (b0 := w.heap.size) (b1 := w.heap.size + 1) (b2 := w.heap.size + 1 + 1) (b3 := w.heap.size + 1 + 1 + 1) (by omega) (by omega) (by omega) (by omega) (by omega) ?_ ?_ ?_ ?_ ?_
  · intro j v hv
    rw [hB.cell (p := ⟨w.heap.size, 0 + j, none⟩) (by show w.heap.size < _; omega)]
    match j, hv with
    | 0, hv => cases hv; unfold awW; go_simp
    | 1, hv => cases hv; unfold awW; go_simp
  · intro j v hv
    rw [hB.cell (p := ⟨w.heap.size + 1, 0 + j, none⟩) (by show w.heap.size + 1 < _; omega)]
    match j, hv with
    | 0, hv => cases hv; unfold awW; go_simp
    | 1, hv => cases hv; unfold awW; go_simp
  · intro j v hv
    rw [hB.cell (p := ⟨w.heap.size + 1 + 1, 0 + j, none⟩) (by show w.heap.size + 1 + 1 < _; omega)]
    match j, hv with
    | 0, hv => cases hv; unfold awW; go_simp
  · intro j v hv
    rw [hB.cell (p := ⟨w.heap.size + 1 + 1 + 1, 0 + j, none⟩) (by show w.heap.size + 1 + 1 + 1 < _; omega)]
    match j, hv with
    | 0, hv => cases hv; unfold awW; go_simp
    | 1, hv => cases hv; unfold awW; go_simp
  · intro j v hv
    rw [hB.cell (p := ⟨w.heap.size + 1 + 1 + 1 + 1, 0 + j, none⟩) (by show w.heap.size + 1 + 1 + 1 + 1 < _; omega)]
    match j, hv with
    | 0, hv => cases hv; unfold awW; go_simp
    | 1, hv => cases hv; unfold awW; go_simp
    | 2, hv => cases hv; unfold awW; go_simp
    | 3, hv => cases hv; unfold awW; go_simp
    | 4, hv => cases hv; unfold awW; go_simp
    | 5, hv => cases hv; unfold awW; go_simp
    | 6, hv => cases hv; unfold awW; go_simp
    | 7, hv => cases hv; unfold awW; go_simp
    | 8, hv => cases hv; unfold awW; go_simp
    | 9, hv => cases hv; unfold awW; go_simp

set_option maxHeartbeats 1000000 in
theorem awake_calls (w : World) : Calls Try.prog 6 #[] w fun e w' => e = .returned (.bool true) ∧ Below w.heap.size w w' := by
  have hc : Hid (Calls Try.prog 7 _ (awW w) _) := hid (Clash_calls ⟨1, 1, 1, 0, [⟨0, 0, [ga], 1, []⟩, ⟨0, 0, [gc, gc], 1, []⟩], []⟩ _ _ (awW w) (awake_mem w _ (Below.refl _ _) (by rw [awW_size]; omega)).1 (list_nil finalR _ _) 1 1 1 0 (by simp) (by simp) (by
    intro o ho g hg
    simp [optsD, ruleOpt] at ho
    rcases ho with rfl | rfl <;> simp at hg <;> subst hg <;> simp [ga, gc]))
  rw [awake_clash] at hc
  have hs := hid fun W (hW : Below (w.heap.size + 5) (awW w) W) (hz : w.heap.size + 5 ≤ W.heap.size) => Sole_one [gc, gc] _ _ W (awake_mem w W hW hz).2 (list_nil finalR _ _) guards_cc (by simp) (by
    intro g hg
    simp at hg
    subst hg
    simp [gc])
  have hB0 := awW_below w
  have hz0 := awW_size w
  have c0 : (awW w).cell? ⟨w.heap.size + 1 + 1 + 1 + 1 + 1, 0, none⟩ = some (.int .i64 1) := by unfold awW; go_simp
  have c1 : (awW w).cell? ⟨w.heap.size + 1 + 1 + 1 + 1 + 1, 1, none⟩ = some (.int .i64 1) := by unfold awW; go_simp
  have c2 : (awW w).cell? ⟨w.heap.size + 1 + 1 + 1 + 1 + 1, 2, none⟩ = some (.int .i64 1) := by unfold awW; go_simp
  have c3 : (awW w).cell? ⟨w.heap.size + 1 + 1 + 1 + 1 + 1, 3, none⟩ = some (.int .i64 0) := by unfold awW; go_simp
  have c4 : (awW w).cell? ⟨w.heap.size + 1 + 1 + 1 + 1 + 1, 4, none⟩ = some (.slice (some ⟨w.heap.size + 1 + 1 + 1 + 1, 0, none⟩) 2 2) := by unfold awW; go_simp
  have c5 : (awW w).cell? ⟨w.heap.size + 1 + 1 + 1 + 1 + 1, 5, none⟩ = some (.slice none 0 0) := by unfold awW; go_simp
  have HC := hid (And.intro c0 (And.intro c1 (And.intro c2 (And.intro c3 (And.intro c4 c5)))))
  have HZ := hid hz0
  have HB0 := hid hB0
  clear c0 c1 c2 c3 c4 c5 hz0 hB0
  go_enter Try.func6, Try.ntmps6
  go_wp2_with fail
  refine Calls.mono (w := awW w) hc.out ?_
  rintro e w1 ⟨rfl, hB⟩
  rw [HZ.out] at hB
  have hz1 := hB.size
  rw [HZ.out] at hz1
  obtain ⟨c0, c1, c2, c3, c4, c5⟩ := HC.out
  have hlt : w.heap.size + 1 + 1 + 1 + 1 + 1 < w.heap.size + 6 := by omega
  replace c0 := (hB.cell (p := ⟨w.heap.size + 1 + 1 + 1 + 1 + 1, 0, none⟩) hlt).trans c0
  replace c1 := (hB.cell (p := ⟨w.heap.size + 1 + 1 + 1 + 1 + 1, 1, none⟩) hlt).trans c1
  replace c2 := (hB.cell (p := ⟨w.heap.size + 1 + 1 + 1 + 1 + 1, 2, none⟩) hlt).trans c2
  replace c3 := (hB.cell (p := ⟨w.heap.size + 1 + 1 + 1 + 1 + 1, 3, none⟩) hlt).trans c3
  replace c4 := (hB.cell (p := ⟨w.heap.size + 1 + 1 + 1 + 1 + 1, 4, none⟩) hlt).trans c4
  replace c5 := (hB.cell (p := ⟨w.heap.size + 1 + 1 + 1 + 1 + 1, 5, none⟩) hlt).trans c5
  have fr : w1.frozen? ⟨w.heap.size + 1 + 1 + 1 + 1 + 1, 4, none⟩ = false := (World.frozen?_of_block (a := ⟨w.heap.size + 1 + 1 + 1 + 1 + 1, 4, none⟩) (hB.block _ hlt)).trans (by unfold awW; go_simp)
  have hW2 : Below (w.heap.size + 5) (awW w) (w1.setCell ⟨w.heap.size + 1 + 1 + 1 + 1 + 1, 4, none⟩ (.slice (some ⟨w.heap.size + 1 + 1 + 1 + 1, 5, none⟩) 1 1)) := (low hB (by omega)).setCell (by show w.heap.size + 5 ≤ w.heap.size + 1 + 1 + 1 + 1 + 1; omega) _
  have hz2 : w.heap.size + 5 ≤ (w1.setCell ⟨w.heap.size + 1 + 1 + 1 + 1 + 1, 4, none⟩ (.slice (some ⟨w.heap.size + 1 + 1 + 1 + 1, 5, none⟩) 1 1)).heap.size := by have := hW2.size; rw [HZ.out] at this; omega
  have HW2 := hid hW2
  have HZ2 := hid hz2
  clear hW2 hz2
  go_wp2_with fail
  refine (hs.out _ HW2.out HZ2.out).mono ?_
  rintro e w2 ⟨rfl, hB2⟩
  go_wp2_with fail
  go_ret
  exact ⟨rfl, HB0.out.trans (low (HW2.out.trans (low hB2 HZ2.out)) (by omega))⟩
end Go.Proofs.Ytflllgbjlfpgcaa
