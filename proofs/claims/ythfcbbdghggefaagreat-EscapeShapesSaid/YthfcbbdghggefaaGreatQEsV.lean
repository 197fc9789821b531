/-
  What turns back what is escaped, its closures: the sets of percent, of digits, and of all others.
-/
import Derived.Test.YthfcbbdghggefaaGreatQEsU
import Derived.Test.YthfcbbdghggefaaGreatQEsS
import Derived.Laws.EntriesVeiled
namespace Go.Proofs.YthfcbbdghggefaaGreat
open Go.RowKit Go.Um Go.Proofs
set_option maxHeartbeats 1000000 in
set_option maxRecDepth 100000 in
theorem pct_calls (w : World) : Calls Tryz.prog 72 #[] w (SetPost pctP w) := by
  have hn := own_new (w := w) (e := 75) (x := ⟨37, 37⟩) ⟨okI (by simp), okI (by simp)⟩
  dsimp only at hn
  have HN := hid hn
  clear hn
  go_enter Tryz.func72, Tryz.ntmps72
  go_wp2_with fail
  go_ret
  exact ⟨_, rfl, HN.out, (Below.refl _ w).alloc (Nat.le_refl _) _⟩
set_option maxHeartbeats 1000000 in
set_option maxRecDepth 100000 in
theorem hex_calls (w : World) : Calls Tryz.prog 73 #[] w (SetPost hexP w) := by
  have HN : Hid (OwnS 75 (w.alloc (.cells #[.int .i64 48, .int .i64 57, .int .i64 65, .int .i64 70, .int .i64 97, .int .i64 102] 75)) w.heap.size (.slice (some ⟨w.heap.size, 0, none⟩) 3 3) hexP) := hid ⟨World.ownsRow_lit w #[.int .i64 48, .int .i64 57, .int .i64 65, .int .i64 70, .int .i64 97, .int .i64 102] 3 (Nat.le_refl _) (by decide) rfl, fun x hx => by
    simp [hexP] at hx
    rcases hx with rfl | rfl | rfl <;> exact ⟨okI (by decide), okI (by decide)⟩⟩
  go_enter Tryz.func73, Tryz.ntmps73
  go_wp2_with fail
  go_ret
  exact ⟨_, rfl, HN.out, (Below.refl _ w).alloc (Nat.le_refl _) _⟩
theorem idx30 (W : World) : (Instr.index 114 (.agg #[.int .i64 48, .int .i64 57, .int .i64 65, .int .i64 70, .int .i64 97, .int .i64 102]) (.int .i64 0)).run Tryz.prog W = .ok (.agg #[.int .i64 48, .int .i64 57]) W := by kernel_rfl
theorem idx31 (W : World) : (Instr.index 114 (.agg #[.int .i64 48, .int .i64 57, .int .i64 65, .int .i64 70, .int .i64 97, .int .i64 102]) (.int .i64 1)).run Tryz.prog W = .ok (.agg #[.int .i64 65, .int .i64 70]) W := by kernel_rfl
theorem idx32 (W : World) : (Instr.index 114 (.agg #[.int .i64 48, .int .i64 57, .int .i64 65, .int .i64 70, .int .i64 97, .int .i64 102]) (.int .i64 2)).run Tryz.prog W = .ok (.agg #[.int .i64 97, .int .i64 102]) W := by kernel_rfl
theorem idx3 (W : World) (i : Nat) (p : Span × Int) (h : kindsP[i]? = some p) : (Instr.index 114 (.agg #[.int .i64 48, .int .i64 57, .int .i64 65, .int .i64 70, .int .i64 97, .int .i64 102]) (.int .i64 i)).run Tryz.prog W = .ok (.agg #[.int .i64 p.1.lo, .int .i64 p.1.hi]) W := by
  have hi := (List.getElem?_eq_some_iff.1 h).1
  have hl : kindsP.length = 3 := rfl
  obtain rfl | rfl | rfl : i = 0 ∨ i = 1 ∨ i = 2 := by omega
  · obtain rfl : ((⟨48, 57⟩, 0) : Span × Int) = p := Option.some.inj h
    exact idx30 W
  · obtain rfl : ((⟨65, 70⟩, 9) : Span × Int) = p := Option.some.inj h
    exact idx31 W
  · obtain rfl : ((⟨97, 102⟩, 9) : Span × Int) = p := Option.some.inj h
    exact idx32 W
theorem kinds_bd {i : Nat} {p : Span × Int} (h : kindsP[i]? = some p) : (48 ≤ p.1.lo ∧ p.1.lo ≤ 102) ∧ (48 ≤ p.1.hi ∧ p.1.hi ≤ 102) ∧ 0 ≤ p.2 ∧ p.2 ≤ 9 := by
  have hm := List.mem_of_getElem? h
  simp [kindsP] at hm
  rcases hm with rfl | rfl | rfl <;> decide
theorem more_at {W : World} {MB i : Nat} {p : Span × Int} (hW : W.heap[MB]? = some (.cells #[.int .i64 0, .int .i64 9, .int .i64 9] 115)) (h : kindsP[i]? = some p) : W.cell? ⟨MB, i, none⟩ = some (.int .i64 p.2) := by
  rw [cell_of_row _ _ _ _ _ _ hW]
  have hi := (List.getElem?_eq_some_iff.1 h).1
  have hl : kindsP.length = 3 := rfl
  obtain rfl | rfl | rfl : i = 0 ∨ i = 1 ∨ i = 2 := by omega
  all_goals
    cases h
    rfl
theorem kinds_get (i j : Nat) (p q : Span × Int) (hi : kindsP[i]? = some p) (hj : kindsP[j]? = some q) : unurlRs[3 * i + j]? = some (unR p q) := by
  have h1 := (List.getElem?_eq_some_iff.1 hi).1
  have h2 := (List.getElem?_eq_some_iff.1 hj).1
  have hl : kindsP.length = 3 := rfl
  obtain rfl | rfl | rfl : i = 0 ∨ i = 1 ∨ i = 2 := by omega
  all_goals
    obtain rfl | rfl | rfl : j = 0 ∨ j = 1 ∨ j = 2 := by omega
    all_goals
      cases hi
      cases hj
      rfl
def kSl {α : Type} (r : RepOf α) (B : Nat) (x : α) : KP := ⟨fun v w => ∃ A n c, v = .slice A n c ∧ r.rel w (Fresh B w) [.slice A n c] x, fun _ _ _ ⟨A, n, c, h1, h2⟩ hB => ⟨A, n, c, h1, rel_fresh h2 hB⟩⟩
def kTm (B : Nat) (t : Term) : KP := ⟨fun v w => ∃ A n c, v = .agg #[.int .i64 t.base, .int .i64 t.drop, .int .i64 t.take, .int .i64 t.up, .int .i64 t.sum, .slice A n c] ∧ (listR partR).rel w (Fresh B w) [.slice A n c] t.parts, fun _ _ _ ⟨A, n, c, h1, h2⟩ hB => ⟨A, n, c, h1, rel_fresh (q := listR partR) h2 hB⟩⟩
def kPt (B : Nat) : KP := ⟨fun v w => ∃ G, v = .pointer (some ⟨G, 0, none⟩) ∧ B ≤ G ∧ w.heap[G]? = some (.cells #[.int .i64 0, .int .i64 0, .int .i64 0, .int .i64 0, .int .i64 0, .slice none 0 0] 69), fun _ _ _ ⟨G, h1, h2, h3⟩ hB => ⟨G, h1, h2, (hB.block _ (heapLtM h3)).trans h3⟩⟩
def partsC : Array Value := #[.int .i64 2, .int .i64 0, .int .i64 4, .int .i64 0, .int .i64 1, .int .i64 0, .int .i64 4, .int .i64 4]
def kPs (B : Nat) : KP := ⟨fun v w => ∃ g, v = .slice (some ⟨g, 0, none⟩) 2 2 ∧ B ≤ g ∧ w.heap[g]? = some (.cells partsC 72), fun _ _ _ ⟨g, h1, h2, h3⟩ hB => ⟨g, h1, h2, (hB.block _ (heapLtM h3)).trans h3⟩⟩
def kTs (B : Nat) (s : Int) : KP := ⟨fun v w => ∃ g, v = .agg #[.int .i64 0, .int .i64 0, .int .i64 21, .int .i64 0, .int .i64 s, .slice (some ⟨g, 0, none⟩) 2 2] ∧ B ≤ g ∧ w.heap[g]? = some (.cells partsC 72), fun _ _ _ ⟨g, h1, h2, h3⟩ hB => ⟨g, h1, h2, (hB.block _ (heapLtM h3)).trans h3⟩⟩
def tab14 (B : Nat) (s : Int) : Nat → KP
  | 10 => kPs B
  | 11 => kTs B s
  | _ => kPt B
theorem parts_rel {W : World} {g : Nat} {S : Nat → Prop} (h : W.heap[g]? = some (.cells partsC 72)) (hS : S g) : (listR partR).rel W S [.slice (some ⟨g, 0, none⟩) 2 2] [⟨2, 0, 4, 0⟩, ⟨1, 0, 4, 4⟩] := by
  refine ⟨_, 2, 2, rfl, rfl, Nat.le_refl _, by unfold maxLen; omega, .inr ⟨g, 0, rfl, hS, fun i y hy => ?_⟩⟩
  match i, hy with
  | 0, hy =>
    simp at hy
    subst hy
    refine ⟨[.int .i64 2, .int .i64 0, .int .i64 4, .int .i64 0], ⟨rfl, okI (by decide), okI (by decide), okI (by decide), okI (by decide)⟩, fun j u hu => ?_⟩
    rw [cell_of_row _ _ _ _ _ _ h]
    match j, hu with
    | 0, hu | 1, hu | 2, hu | 3, hu => simpa [partsC] using hu
  | 1, hy =>
    simp at hy
    subst hy
    refine ⟨[.int .i64 1, .int .i64 0, .int .i64 4, .int .i64 4], ⟨rfl, okI (by decide), okI (by decide), okI (by decide), okI (by decide)⟩, fun j u hu => ?_⟩
    rw [cell_of_row _ _ _ _ _ _ h]
    match j, hu with
    | 0, hu | 1, hu | 2, hu | 3, hu => simpa [partsC, partR] using hu
  | i + 2, hy => simp at hy
theorem row_news {W : World} {b : Nat} {cs : Array Value} {ty : TypeId} (h : W.heap[b]? = some (.cells cs ty)) : ∀ (j : Nat) (u : Value), cs.toList[j]? = some u → W.cell? ((⟨b, 0, none⟩ : Addr).add j) = some u := fun j u hu => by
  have ha : (⟨b, 0, none⟩ : Addr).add j = ⟨b, j, none⟩ := by unfold Addr.add; split <;> simp_all
  rw [ha, cell_of_row _ _ _ _ _ _ h]
  simpa using hu
theorem fx_fl {α : Type} {e : TypeId} {r : RepOf α} {w : World} {b0 : Nat} {X : Nat → Prop} {v : Value} {xs : List α} (h : FX e r w b0 X v xs) : FL e r w b0 b0 v xs :=
  OwnR.keep h.1 (fun _ _ => rfl) (fun _ _ => rfl) fun b hs => ⟨hs.1, hs.2.1, fun he => hs.2.2 (h.2 b he)⟩
/-- a rule, and a row of it alone. -/
def kRu (B : Nat) (gs : List (List Span)) (n : Int) (ts : List Term) : KP := ⟨fun v w => ∃ A k c A' k' c', v = .agg #[.int .i64 0, .int .i64 0, .slice A k c, .int .i64 n, .slice A' k' c'] ∧ (listR spansR).rel w (Fresh B w) [.slice A k c] gs ∧ (listR termR).rel w (Fresh B w) [.slice A' k' c'] ts,
  fun _ _ _ ⟨A, k, c, A', k', c', h1, h2, h3⟩ hB => ⟨A, k, c, A', k', c', h1, rel_fresh (q := listR spansR) h2 hB, rel_fresh (q := listR termR) h3 hB⟩⟩
def kRb (B : Nat) (gs : List (List Span)) (n : Int) (ts : List Term) : KP := ⟨fun v w => ∃ g A k c A' k' c', v = .slice (some ⟨g, 0, none⟩) 1 1 ∧ w.heap[g]? = some (.cells #[.int .i64 0, .int .i64 0, .slice A k c, .int .i64 n, .slice A' k' c'] 46) ∧ (listR spansR).rel w (Fresh B w) [.slice A k c] gs ∧ (listR termR).rel w (Fresh B w) [.slice A' k' c'] ts,
  fun _ _ _ ⟨g, A, k, c, A', k', c', h1, h0, h2, h3⟩ hB => ⟨g, A, k, c, A', k', c', h1, (hB.block _ (heapLtM h0)).trans h0, rel_fresh (q := listR spansR) h2 hB, rel_fresh (q := listR termR) h3 hB⟩⟩
def tab15 (B : Nat) (p q : Span × Int) : Nat → KP
  | 3 => kSl spansR B pctP
  | 5 => kSl spansR B [p.1]
  | 7 => kSl spansR B [q.1]
  | 8 => kSl (listR spansR) B [pctP, [p.1], [q.1]]
  | 10 => kSl (listR termR) B [unT p.2 q.2]
  | 11 => kRu B [pctP, [p.1], [q.1]] 3 [unT p.2 q.2]
  | _ => kRb B [pctP, [p.1], [q.1]] 3 [unT p.2 q.2]
def UnI (w wl wr : World) (D : Nat) (k : Nat) : Prop := ∃ vr, wr.heap[D]? = some (.cells #[.int .i64 1, .int .i64 1, .int .i64 1, .int .i64 0, vr, .slice none 0 0] 27) ∧ FL 46 ruleR wr wl.heap.size wl.heap.size vr (unurlRs.take k) ∧ (∀ g, g < wl.heap.size → g ≠ D → wr.heap[g]? = wl.heap[g]?) ∧ wl.heap.size ≤ wr.heap.size ∧ Below w.heap.size w wr
def ru19 : Rule := ⟨0, 0, [pctP, hexP, notHexP], 1, [copyT 0 0]⟩
def ru20 : Rule := ⟨0, 0, [pctP, notHexP], 1, [copyT 0 0]⟩
def ru21 : Rule := ⟨0, 0, [minusF allB pctP], 1, [copyT 0 0]⟩
def kFi (B : Nat) (gs : List (List Span)) (ts : List Term) : KP := ⟨fun v w => ∃ A k c A' k' c', v = .agg #[.int .i64 0, .slice A k c, .slice A' k' c'] ∧ (listR spansR).rel w (Fresh B w) [.slice A k c] gs ∧ (listR termR).rel w (Fresh B w) [.slice A' k' c'] ts,
  fun _ _ _ ⟨A, k, c, A', k', c', h1, h2, h3⟩ hB => ⟨A, k, c, A', k', c', h1, rel_fresh (q := listR spansR) h2 hB, rel_fresh (q := listR termR) h3 hB⟩⟩
def tab19 (B : Nat) : Nat → KP
  | 3 => kSl spansR B pctP
  | 5 => kSl spansR B hexP
  | 7 => kSl spansR B notHexP
  | 8 => kSl (listR spansR) B [pctP, hexP, notHexP]
  | 10 => kRu B [pctP, hexP, notHexP] 1 [copyT 0 0]
  | _ => kRb B [pctP, hexP, notHexP] 1 [copyT 0 0]
def tab20 (B : Nat) : Nat → KP
  | 3 => kSl spansR B pctP
  | 5 => kSl spansR B notHexP
  | 6 => kSl (listR spansR) B [pctP, notHexP]
  | 7 => kTm B (copyT 0 0)
  | 8 => kSl (listR termR) B [copyT 0 0]
  | 9 => kRu B [pctP, notHexP] 1 [copyT 0 0]
  | _ => kRb B [pctP, notHexP] 1 [copyT 0 0]
def tab21 (B : Nat) : Nat → KP
  | 4 => kSl spansR B pctP
  | 5 => kSl spansR B (minusF allB pctP)
  | 6 => kTm B (copyT 0 0)
  | 7 => kSl (listR termR) B [copyT 0 0]
  | 8 => kRu B [minusF allB pctP] 1 [copyT 0 0]
  | _ => kRb B [minusF allB pctP] 1 [copyT 0 0]
def tab22 (B : Nat) : Nat → KP
  | 2 => kSl spansR B pctP
  | 3 => kSl (listR spansR) B [pctP]
  | 4 => kTm B (copyT 0 0)
  | 5 => kSl (listR termR) B [copyT 0 0]
  | 6 => kFi B [pctP] [copyT 0 0]
  | 8 => kSl spansR B pctP
  | 10 => kSl spansR B hexP
  | 11 => kSl (listR spansR) B [pctP, hexP]
  | 12 => kTm B (copyT 0 0)
  | 13 => kTm B (copyT 1 0)
  | 14 => kSl (listR termR) B [copyT 0 0, copyT 1 0]
  | 15 => kFi B [pctP, hexP] [copyT 0 0, copyT 1 0]
  | _ => kSl (listR finalR) B unurlD.finals
theorem UnI.later {w wl wr wr' : World} {D k : Nat} (h : UnI w wl wr D k) (hB : Below wr.heap.size wr wr') : UnI w wl wr' D k := by
  obtain ⟨vr, h1, h2, h3, h4, h5⟩ := h
  exact ⟨vr, (hB.block _ (heapLtM h1)).trans h1, h2.later hB, fun g h6 h7 => (hB.block g (by omega)).trans (h3 g h6 h7), Nat.le_trans h4 hB.size, h5.trans (hB.mono h5.size)⟩
set_option maxHeartbeats 1000000 in
set_option maxRecDepth 100000 in
theorem nothex_calls {A AB HB : Nat} (w : World) (hA : w.heap[A]? = some (.cells #[.int .i64 0, .int .i64 255] 75)) (hAB : w.heap[AB]? = some (.cells #[.slice (some ⟨A, 0, none⟩) 1 1] 76)) (hHB : w.heap[HB]? = some (.cells #[.func (Fn.func 73) #[] #[]] 109)) :
    Calls Tryz.prog 74 #[.pointer (some ⟨AB, 0, none⟩), .pointer (some ⟨HB, 0, none⟩)] w (SetPost notHexP w) := by
  have HHC := hid fun W => hex_calls W
  have hAl := heapLtM hA
  have HA := hid hA
  go_enter Tryz.func74, Tryz.ntmps74
  go_wp2_with fail
  obtain ⟨ι, Wc, ⟨i0, hi0'⟩, hWc, Wsur⟩ := held_class w.drew (fun k => k = AB ∨ k = HB)
  have hne : Nonempty ι := ⟨i0⟩
  have WS := hid Wsur; clear Wsur
  have HWc := hid hWc; clear hWc
  have Hi0 := hid hi0'; clear hi0'
  have ab0 : ∀ x, (Wc x).cell? ⟨AB, 0, none⟩ = some (.slice (some ⟨A, 0, none⟩) 1 1) := fun x => cell_of_row _ _ 0 _ _ _ ((HWc.out x _ (.inl rfl)).trans hAB)
  have hb0 : ∀ x, (Wc x).cell? ⟨HB, 0, none⟩ = some (.func (Fn.func 73) #[] #[]) := fun x => cell_of_row _ _ 0 _ _ _ ((HWc.out x _ (.inr rfl)).trans hHB)
  have hS0 : ∃ x, w.drew = Wc x := ⟨i0, Hi0.out.symm⟩
  have hABl := heapLtM hAB
  have hHBl := heapLtM hHB
  have HSB : Hid (∀ W, Below w.heap.size w W → ∃ x, W = Wc x) := hid fun W hW => WS.out W fun k hk => by
    have : k < w.heap.size := by rcases hk with rfl | rfl <;> omega
    exact hW.block _ this
  clear hA hAB hHB
  refine region_anyL (S := fun w' => ∃ x, w' = Wc x) (last := 5) (by kernel_rfl) ?_
  refine anyL_seg 0 2 (by kernel_rfl) (fun _ _ _ _ _ h => h) hS0 (f := 3) rfl (by kernel_rfl) (by kernel_rfl) ?_
  simp only [List.drop_zero, List.take_succ_cons, List.take_zero]
  repeat go_big_quiet_step (fail)
  refine wpQuiet_nil ?_
  refine anyL_act (i := 2) (by kernel_rfl) rfl rfl ?_
  intro K hK
  go_wp2_with fail
  refine (HHC.out w.drew).mono ?_
  rintro e w1 ⟨u1, rfl, ho1, hB1⟩
  obtain ⟨A1, c1, rfl, _, _⟩ := list_form ho1.rel
  have HB1 : Hid (Below w.heap.size w w1) := hid ⟨hB1.os, hB1.tape, hB1.output, hB1.size, hB1.block⟩
  have HO1 := hid ho1
  clear ho1 hB1
  go_wp2_with fail
  refine hK.out _ _ (fun _ => HSB.out _ HB1.out) ?_
  clear hK K
  refine anyL_act (i := 3) (by kernel_rfl) rfl rfl ?_
  intro K hK
  have hs1 := HB1.out.size
  have HM := hid (Minus_calls allB hexP (.slice (some ⟨A, 0, none⟩) 1 1) (.slice A1 hexP.length c1) w1 (one_at (r := spanR) (cells := #[.int .i64 0, .int .i64 255]) (x := ⟨0, 255⟩) ((HB1.out.block _ hAl).trans HA.out) (show A < w1.heap.size by omega) ⟨rfl, okI (by simp), okI (by simp)⟩) HO1.out.rel (by decide) (by decide))
  go_wp2_with fail
  refine HM.out.mono ?_
  rintro e w2 ⟨u2, rfl, ho2, hB2⟩
  have HB2 := hid (HB1.out.trans (hB2.mono hs1))
  have HO2 := hid (ho2.base hs1)
  clear ho2 hB2
  go_wp2_with fail
  have hS2 := HSB.out _ HB2.out
  refine hK.out _ _ (fun _ => hS2) ?_
  clear hK K
  refine anyL_seg 4 1 (by kernel_rfl) (fun _ _ _ _ _ h => h) hS2 (f := 0) rfl (by kernel_rfl) (by kernel_rfl) ?_
  simp only [List.drop_succ_cons, List.drop_zero, List.take_succ_cons, List.take_zero]
  repeat go_big_quiet_step (fail)
  refine wpQuiet_nil ?_
  refine anyL_done (by kernel_rfl) ?_ 0
  clear hS2 HSB hS0 ab0 hb0 WS HWc Hi0 hne i0 Wc ι
  go_wp2_with fail
  go_ret
  exact ⟨_, rfl, HO2.out, HB2.out⟩
/-- seven blocks, one behind the other. -/
theorem seven (w : World) (o1 o2 o3 o4 o5 o6 o7 : Obj) {wl : World} (h : wl = ((((((w.alloc o1).alloc o2).alloc o3).alloc o4).alloc o5).alloc o6).alloc o7) : wl.heap.size = w.heap.size + 7 ∧ Below w.heap.size w wl ∧ wl.heap[w.heap.size]? = some o1 ∧ wl.heap[w.heap.size + 1]? = some o2 ∧ wl.heap[w.heap.size + 2]? = some o3 ∧ wl.heap[w.heap.size + 3]? = some o4 ∧ wl.heap[w.heap.size + 4]? = some o5 ∧ wl.heap[w.heap.size + 5]? = some o6 ∧ wl.heap[w.heap.size + 6]? = some o7 := by
  have key : ∀ (v : World) (o : Obj), (v.alloc o).heap.size = v.heap.size + 1 ∧ Below v.heap.size v (v.alloc o) ∧ (v.alloc o).heap[v.heap.size]? = some o := fun v o => ⟨by simp, (Below.refl _ _).alloc (Nat.le_refl _) _, heap_alloc_new _ _⟩
  obtain ⟨a1, h1⟩ : ∃ a, a = w.alloc o1 := ⟨_, rfl⟩
  obtain ⟨a2, h2⟩ : ∃ a, a = a1.alloc o2 := ⟨_, rfl⟩
  obtain ⟨a3, h3⟩ : ∃ a, a = a2.alloc o3 := ⟨_, rfl⟩
  obtain ⟨a4, h4⟩ : ∃ a, a = a3.alloc o4 := ⟨_, rfl⟩
  obtain ⟨a5, h5⟩ : ∃ a, a = a4.alloc o5 := ⟨_, rfl⟩
  obtain ⟨a6, h6⟩ : ∃ a, a = a5.alloc o6 := ⟨_, rfl⟩
  rw [← h1, ← h2, ← h3, ← h4, ← h5, ← h6] at h
  obtain ⟨s1, b1, n1⟩ := key w o1
  obtain ⟨s2, b2, n2⟩ := key a1 o2
  obtain ⟨s3, b3, n3⟩ := key a2 o3
  obtain ⟨s4, b4, n4⟩ := key a3 o4
  obtain ⟨s5, b5, n5⟩ := key a4 o5
  obtain ⟨s6, b6, n6⟩ := key a5 o6
  obtain ⟨s7, b7, n7⟩ := key a6 o7
  rw [← h1] at s1 b1 n1
  rw [← h2] at s2 b2 n2
  rw [← h3] at s3 b3 n3
  rw [← h4] at s4 b4 n4
  rw [← h5] at s5 b5 n5
  rw [← h6] at s6 b6 n6
  rw [← h] at s7 b7 n7
  clear h h1 h2 h3 h4 h5 h6 key
  have c6 := b6.trans (b7.mono (by omega))
  have c5 := b5.trans (c6.mono (by omega))
  have c4 := b4.trans (c5.mono (by omega))
  have c3 := b3.trans (c4.mono (by omega))
  have c2 := b2.trans (c3.mono (by omega))
  have c1 := b1.trans (c2.mono (by omega))
  rw [show a1.heap.size = w.heap.size + 1 by omega] at n2 c2
  rw [show a2.heap.size = w.heap.size + 2 by omega] at n3 c3
  rw [show a3.heap.size = w.heap.size + 3 by omega] at n4 c4
  rw [show a4.heap.size = w.heap.size + 4 by omega] at n5 c5
  rw [show a5.heap.size = w.heap.size + 5 by omega] at n6 c6
  rw [show a6.heap.size = w.heap.size + 6 by omega] at n7 b7
  exact ⟨by omega, c1, (c2.block _ (by omega)).trans n1, (c3.block _ (by omega)).trans n2, (c4.block _ (by omega)).trans n3, (c5.block _ (by omega)).trans n4, (c6.block _ (by omega)).trans n5, (b7.block _ (by omega)).trans n6, n7⟩
set_option maxHeartbeats 2000000 in
set_option maxRecDepth 100000 in
theorem Unurl_calls (w : World) : Calls Tryz.prog 35 #[] w fun e w' => DescPost unurlD w e w' := by
  have HPC := hid fun W => pct_calls W
  have HHC := hid fun W => hex_calls W
  have HCP := hid fun a W (ha : I64 a) => Copy_calls a 0 W ha
  have HON := hid fun A B n c m d W => one_calls A B n c m d W
  obtain ⟨inf, hi0, hz0, hz1, hz2⟩ := info_parts infoRu
  go_enter Tryz.func35, Tryz.ntmps35
  go_wp2_with fail
  obtain ⟨MB, hMB⟩ : ∃ x, x = w.heap.size + 1 + 1 + 1 + 1 + 1 + 1 := ⟨_, rfl⟩
  rw [← hMB]
  obtain ⟨KB, hKB⟩ : ∃ x, x = w.heap.size + 1 + 1 + 1 + 1 + 1 := ⟨_, rfl⟩
  rw [← hKB]
  obtain ⟨HB, hHB⟩ : ∃ x, x = w.heap.size + 1 + 1 + 1 + 1 := ⟨_, rfl⟩
  rw [← hHB]
  obtain ⟨AB, hAB⟩ : ∃ x, x = w.heap.size + 1 + 1 + 1 := ⟨_, rfl⟩
  rw [← hAB]
  obtain ⟨A, hA⟩ : ∃ x, x = w.heap.size + 1 + 1 := ⟨_, rfl⟩
  rw [← hA]
  obtain ⟨D, hD⟩ : ∃ x, x = w.heap.size + 1 := ⟨_, rfl⟩
  rw [← hD]
  obtain ⟨wl, hwl⟩ : ∃ wl, wl = ((((((w.alloc (.cells #[.int .i64 0, .int .i64 0, .int .i64 0, .int .i64 0, .slice none 0 0, .slice none 0 0] 27)).alloc (.cells #[.int .i64 1, .int .i64 1, .int .i64 1, .int .i64 0, .slice none 0 0, .slice none 0 0] 27)).alloc (.cells #[.int .i64 0, .int .i64 255] 75)).alloc (.cells #[.slice (some ⟨A, 0, none⟩) 1 1] 76)).alloc (.cells #[.func (Fn.func 73) #[] #[]] 109)).alloc (.cells #[.int .i64 48, .int .i64 57, .int .i64 65, .int .i64 70, .int .i64 97, .int .i64 102] 114)).alloc (.cells #[.int .i64 0, .int .i64 9, .int .i64 9] 115) := ⟨_, rfl⟩
  rw [← hwl]
  have hall : wl.heap.size = w.heap.size + 7 ∧ Below w.heap.size w wl ∧ wl.heap[w.heap.size]? = some (.cells #[.int .i64 0, .int .i64 0, .int .i64 0, .int .i64 0, .slice none 0 0, .slice none 0 0] 27) ∧ wl.heap[D]? = some (.cells #[.int .i64 1, .int .i64 1, .int .i64 1, .int .i64 0, .slice none 0 0, .slice none 0 0] 27) ∧
      wl.heap[A]? = some (.cells #[.int .i64 0, .int .i64 255] 75) ∧ wl.heap[AB]? = some (.cells #[.slice (some ⟨A, 0, none⟩) 1 1] 76) ∧ wl.heap[HB]? = some (.cells #[.func (Fn.func 73) #[] #[]] 109) ∧
      wl.heap[KB]? = some (.cells #[.int .i64 48, .int .i64 57, .int .i64 65, .int .i64 70, .int .i64 97, .int .i64 102] 114) ∧ wl.heap[MB]? = some (.cells #[.int .i64 0, .int .i64 9, .int .i64 9] 115) := by
    have h7 := seven w _ _ _ _ _ _ _ hwl
    rw [show w.heap.size + 1 = D by omega, show w.heap.size + 2 = A by omega, show w.heap.size + 3 = AB by omega, show w.heap.size + 4 = HB by omega, show w.heap.size + 5 = KB by omega, show w.heap.size + 6 = MB by omega] at h7
    exact h7
  obtain ⟨wsz, wB, wZ, wD, wA, wAB, wHB, wKB, wMB⟩ := hall
  have HN : Hid (D = w.heap.size + 1 ∧ A = w.heap.size + 2 ∧ AB = w.heap.size + 3 ∧ HB = w.heap.size + 4 ∧ KB = w.heap.size + 5 ∧ MB = w.heap.size + 6 ∧ wl.heap.size = w.heap.size + 7) := hid (by omega)
  have HW := hid (show _ ∧ _ ∧ _ ∧ _ ∧ _ ∧ _ from ⟨wZ, wA, wAB, wHB, wKB, wMB⟩)
  have hU0 : UnI w wl wl D 0 := ⟨_, wD, OwnR.nil, fun _ _ _ => rfl, Nat.le_refl _, wB⟩
  have HU0 := hid hU0
  clear hMB hKB hHB hAB hA hD hwl wsz wB wZ wD wA wAB wHB wKB wMB hU0
  go_wp2_with fail
  go_loopw [24] (fun vi wr => ∃ i : Nat, i ≤ 3 ∧ vi = .int .i64 i ∧ UnI w wl wr D (3 * i)) (fun vi _ => 3 - (intOf vi).toNat)
  case atStart => exact ⟨0, Nat.zero_le _, rfl, HU0.out⟩
  case round =>
    clear HU0
    obtain ⟨wo, hwo⟩ : ∃ wo, wo = wr := ⟨_, rfl⟩
    subst hwo
    obtain ⟨i, hi, rfl, hU⟩ := hrel
    have HU := hid hU
    clear hU
    by_cases hlt : i < 3
    · have hlt' : (i : Int) < 3 := by omega
      obtain ⟨p, hp⟩ := at_lt (xs := kindsP) (i := i) hlt
      have hix := fun W => idx3 W i p hp
      have hpb := kinds_bd hp
      have HPI := hid hp
      have hKh : wo.heap[KB]? = some (.cells #[.int .i64 48, .int .i64 57, .int .i64 65, .int .i64 70, .int .i64 97, .int .i64 102] 114) := by
        obtain ⟨_, _, _, hk, _, _⟩ := HU.out
        rw [hk KB (by have := HN.out; omega) (by have := HN.out; omega)]
        exact HW.out.2.2.2.2.1
      have hKl := heapLtM hKh
      obtain ⟨k0, k1, k2, k3, k4, k5⟩ := six9 hKh
      have k6 : ∀ o, (wo.alloc o).cell? ⟨KB, 0, none⟩ = some (.int .i64 48) := fun o => (cellA _ _ _ _ hKl).trans k0
      have k7 : ∀ o, (wo.alloc o).cell? ⟨KB, 1, none⟩ = some (.int .i64 57) := fun o => (cellA _ _ _ _ hKl).trans k1
      have k8 : ∀ o, (wo.alloc o).cell? ⟨KB, 2, none⟩ = some (.int .i64 65) := fun o => (cellA _ _ _ _ hKl).trans k2
      have k9 : ∀ o, (wo.alloc o).cell? ⟨KB, 3, none⟩ = some (.int .i64 70) := fun o => (cellA _ _ _ _ hKl).trans k3
      have ka : ∀ o, (wo.alloc o).cell? ⟨KB, 4, none⟩ = some (.int .i64 97) := fun o => (cellA _ _ _ _ hKl).trans k4
      have kb : ∀ o, (wo.alloc o).cell? ⟨KB, 5, none⟩ = some (.int .i64 102) := fun o => (cellA _ _ _ _ hKl).trans k5
      clear hp hKh k0 k1 k2 k3 k4 k5
      go_wp2_with fail
      obtain ⟨wa, hwa⟩ : ∃ wa, wa = wo.alloc (.cells #[.int .i64 p.1.lo, .int .i64 p.1.hi] 75) := ⟨_, rfl⟩
      rw [← hwa]
      have hPh : wa.heap[wo.heap.size]? = some (.cells #[.int .i64 p.1.lo, .int .i64 p.1.hi] 75) := by rw [hwa]; exact heap_alloc_new _ _
      have hBa : Below wo.heap.size wo wa := by rw [hwa]; exact (Below.refl _ wo).alloc (Nat.le_refl _) _
      clear hwa k6 k7 k8 k9 ka kb hix
      obtain ⟨PB, hPB⟩ : ∃ PB, PB = wo.heap.size := ⟨_, rfl⟩
      rw [← hPB] at hPh hBa ⊢
      have HUa : Hid (UnI w wl wa D (3 * i)) := hid (by
        obtain ⟨vr, h1, h2, h3, h4, h5⟩ := HU.out
        have hb : Below wo.heap.size wo wa := by rw [← hPB]; exact hBa
        refine ⟨vr, (hb.block _ (heapLtM h1)).trans h1, h2.later hb, fun g h6 h7 => (hb.block g (by omega)).trans (h3 g h6 h7), Nat.le_trans h4 hb.size, h5.trans (hb.mono h5.size)⟩)
      have HPl : Hid (wl.heap.size ≤ PB) := hid (by obtain ⟨_, _, _, _, h4, _⟩ := HU.out; omega)
      have HPh := hid hPh
      clear hPB hBa HU hPh hKl
      go_loopw [29] (fun vj wr => ∃ j : Nat, j ≤ 3 ∧ vj = .int .i64 j ∧ UnI w wl wr D (3 * i + j) ∧ wr.heap[PB]? = some (.cells #[.int .i64 p.1.lo, .int .i64 p.1.hi] 75)) (fun vj _ => 3 - (intOf vj).toNat)
      case atStart => exact ⟨0, Nat.zero_le _, rfl, HUa.out, HPh.out⟩
      case round =>
        clear HUa HPh
        obtain ⟨wp, hwp⟩ : ∃ wp, wp = wr := ⟨_, rfl⟩
        subst hwp
        obtain ⟨j, hj, rfl, hV, hPh⟩ := hrel
        have HV := hid hV
        have HPh := hid hPh
        clear hV hPh
        by_cases hltj : j < 3
        · have hltj' : (j : Int) < 3 := by omega
          obtain ⟨q, hq⟩ := at_lt (xs := kindsP) (i := j) hltj
          have hix := fun W => idx3 W j q hq
          have hqb := kinds_bd hq
          have HQJ := hid hq
          clear hq
          go_wp2_with fail
          obtain ⟨wb, hwb⟩ : ∃ wb, wb = wp.alloc (.cells #[.int .i64 q.1.lo, .int .i64 q.1.hi] 75) := ⟨_, rfl⟩
          rw [← hwb]
          have hQh : wb.heap[wp.heap.size]? = some (.cells #[.int .i64 q.1.lo, .int .i64 q.1.hi] 75) := by rw [hwb]; exact heap_alloc_new _ _
          have hBb : Below wp.heap.size wp wb := by rw [hwb]; exact (Below.refl _ wp).alloc (Nat.le_refl _) _
          clear hwb hix
          have hQl := heapLtM hQh
          have hMp : wp.heap[MB]? = some (.cells #[.int .i64 0, .int .i64 9, .int .i64 9] 115) := by
            obtain ⟨_, _, _, hk, _, _⟩ := HV.out
            rw [hk MB (by have := HN.out; omega) (by have := HN.out; omega)]
            exact HW.out.2.2.2.2.2
          have hMl := heapLtM hMp
          have hMb := (hBb.block _ hMl).trans hMp
          obtain ⟨ι, Wc, ⟨i0, hi0'⟩, hWc, Wsur⟩ := held_class wb.drew (fun g => g = MB)
          have hne : Nonempty ι := ⟨i0⟩
          have WS := hid Wsur; clear Wsur
          have HWc := hid hWc; clear hWc
          have Hi0 := hid hi0'; clear hi0'
          have m0 : ∀ x, (Wc x).cell? ⟨MB, i, none⟩ = some (.int .i64 p.2) := fun x => more_at ((HWc.out x _ rfl).trans hMb) HPI.out
          have m1 : ∀ x, (Wc x).cell? ⟨MB, j, none⟩ = some (.int .i64 q.2) := fun x => more_at ((HWc.out x _ rfl).trans hMb) HQJ.out
          have hS0 : ∃ x, wb.drew = Wc x := ⟨i0, Hi0.out.symm⟩
          have hsb := hBb.size
          have HSB : Hid (∀ W, Below wb.drew.heap.size wb.drew W → ∃ x, W = Wc x) := hid fun W hW => WS.out W fun g hg => by
            subst hg
            exact hW.block _ (Nat.lt_of_lt_of_le hMl hsb)
          refine region_anyL (S := fun w' => ∃ x, w' = Wc x) (last := 13) (by kernel_rfl) ?_
          refine anyL_pick [0, 1, 2, 3, 4, 5, 6, 7, 8, 9] (by decide) (by kernel_rfl) (fun _ _ _ _ _ h => h) hS0 (f := 4) rfl (by kernel_rfl) ?_
          show wpQuiet _ _ _ _ [_, _, _, _, _, _, _, _, _, _] _
          repeat go_big_quiet_step (fail)
          refine wpQuiet_nil ?_
          refine anyL_facts [10, 11, 12] [11, 12] 1 [(10, 43), (11, 44), (12, 12)] (tab14 wp.heap.size (16 * p.2 + q.2)) (by kernel_rfl) rfl (by decide) (Below.refl wb.drew.heap.size wb.drew) HSB.out ?_ ?_
          · intro k hk o ho val W hBW hd
            simp only [List.mem_cons, List.not_mem_nil, or_false] at hk
            rcases hk with rfl | rfl | rfl
            · have hsW : wp.heap.size ≤ W.heap.size := Nat.le_trans hsb hBW.size
              obtain rfl := (Option.some.inj ho).symm
              refine ⟨rfl, ?_⟩
              unfold puts
              simp only [List.foldl_cons, List.foldl_nil]
              go_simp
              go_wp2_with fail
              exact ⟨_, ⟨rfl, rfl, rfl⟩, (Below.refl _ W).alloc (Nat.le_refl _) _, _, rfl, hsW, heap_alloc_new _ _⟩
            · obtain ⟨g10, e10, h9, h10⟩ := hd 10 (by decide) (by kernel_rfl)
              have H10 := hid h10
              clear h10
              obtain rfl := (Option.some.inj ho).symm
              refine ⟨rfl, ?_⟩
              unfold puts
              simp only [List.foldl_cons, List.foldl_nil]
              rw [e10]
              go_simp
              go_wp2_with fail
              exact ⟨_, ⟨rfl, e10.symm, rfl⟩, Below.refl _ W, g10, rfl, h9, H10.out⟩
            · have hsW : wp.heap.size ≤ W.heap.size := Nat.le_trans hsb hBW.size
              obtain rfl := (Option.some.inj ho).symm
              refine ⟨rfl, ?_⟩
              unfold puts
              simp only [List.foldl_cons, List.foldl_nil]
              go_simp
              go_wp2_with fail
              exact ⟨_, ⟨rfl, rfl, rfl⟩, (Below.refl _ W).alloc (Nat.le_refl _) _, _, rfl, hsW, heap_alloc_new _ _⟩
          · intro val W hBW hall
            obtain ⟨g10, e10, _, _⟩ := hall 10 (by decide)
            obtain ⟨g, e11, hg, hgh⟩ := hall 11 (by decide)
            obtain ⟨G, e12, hG, hGh⟩ := hall 12 (by decide)
            clear hall
            unfold puts
            simp only [List.foldl_cons, List.foldl_nil]
            rw [e10, e11, e12]
            go_simp
            have hGl := heapLtM hGh
            have hgl := heapLtM hgh
            obtain ⟨q0, q1, q2, q3, q4, q5⟩ := six9 hGh
            obtain ⟨f0, f1, f2, f3, f4, f5⟩ := fro6 hGh
            have hgG : g ≠ G := fun he => by
              rw [he, hGh] at hgh
              injection hgh with hgh
              injection hgh with _ h9
              exact absurd h9 (by decide)
            refine anyL_act (i := 13) (by kernel_rfl) rfl rfl ?_
            intro K hK
            go_wp2_with fail
            refine hK.out _ _ (fun h => absurd rfl h) ?_
            clear hK K
            refine anyL_done (by kernel_rfl) ?_ 0
            have hBW2 : Below wb.heap.size wb W := ⟨hBW.os, hBW.tape, hBW.output, hBW.size, hBW.block⟩
            have hBW' : Below wp.heap.size wp W := hBb.trans (hBW2.mono hsb)
            have hQW : W.heap[wp.heap.size]? = some (.cells #[.int .i64 q.1.lo, .int .i64 q.1.hi] 75) := (hBW.block _ hQl).trans hQh
            have hQG : wp.heap.size ≠ G := fun he => by
              rw [he, hGh] at hQW
              injection hQW with hQW
              injection hQW with _ h9
              exact absurd h9 (by decide)
            obtain ⟨wt, hwt⟩ : ∃ wt, wt = setS W G (.int .i64 0) (.int .i64 0) (.int .i64 21) (.int .i64 0) (.int .i64 (16 * p.2 + q.2)) (.slice (some ⟨g, 0, none⟩) 2 2) := ⟨_, rfl⟩
            have HTh := hid (show wt.heap[G]? = some (.cells #[.int .i64 0, .int .i64 0, .int .i64 21, .int .i64 0, .int .i64 (16 * p.2 + q.2), .slice (some ⟨g, 0, none⟩) 2 2] 69) by rw [hwt]; exact setS_heap hGh _ _ _ _ _ _)
            have HBt := hid (show Below wp.heap.size wp wt by rw [hwt]; exact hBW'.set6 hG _ _ _ _ _ _)
            have Hoth : ∀ k, k ≠ G → wt.heap[k]? = W.heap[k]? := fun k hk => by rw [hwt]; exact setS_other _ _ _ _ _ _ _ _ _ hk
            have Hgh := hid ((Hoth g hgG).trans hgh)
            have HQh := hid ((Hoth _ hQG).trans hQW)
            unfold setS at hwt
            rw [← hwt]
            clear hwt Hoth hBW hBW2 hBW' hQW hQG hgG q0 q1 q2 q3 q4 q5 f0 f1 f2 f3 f4 f5 hGh hgh hBb hQh hMb hMp WS HWc Hi0 hne m0 m1 hS0 HSB i0 Wc ι
            go_wp2_with fail
            obtain ⟨vr, hDp, hFL, hkp, hsp, hBp⟩ := HV.out
            obtain ⟨Ar, cr, rfl⟩ := hFL.len
            have hDlt : D < wl.heap.size := by have := HN.out; omega
            have hDl : D < wp.heap.size := by omega
            have hDt := (HBt.out.block _ hDl).trans hDp
            have hPlt : PB < wp.heap.size := heapLtM HPh.out
            have hPt := (HBt.out.block _ hPlt).trans HPh.out
            have hst := HBt.out.size
            obtain ⟨L, hL⟩ : ∃ L, L = unurlRs.take (3 * i + j) := ⟨_, rfl⟩
            rw [← hL] at hFL hDp hDt
            have hLl : L.length ≤ 20 := by rw [hL]; have : unurlRs.length = 12 := rfl; rw [List.length_take]; omega
            have HLn : Hid (unurlRs.take (3 * i + (j + 1)) = L ++ [unR p q]) := hid (by
              rw [show 3 * i + (j + 1) = 3 * i + j + 1 by omega, List.take_add_one, kinds_get i j p q HPI.out HQJ.out, hL]
              rfl)
            have HOwn := hid (hFL.own_lt)
            have HFL := hid (hFL.later HBt.out)
            have Hkp := hid hkp
            have HBp := hid (hBp.trans (HBt.out.mono hBp.size))
            clear hL hFL hkp hBp HV
            obtain ⟨ι, Wc, ⟨i0, hi0'⟩, hWc, Wsur⟩ := held_class wt.drew (fun k => k = D ∨ k = PB ∨ k = wp.heap.size ∨ k = G)
            have hne : Nonempty ι := ⟨i0⟩
            have WS := hid Wsur; clear Wsur
            have HWc := hid hWc; clear hWc
            have Hi0 := hid hi0'; clear hi0'
            obtain ⟨d0, d1, d2, d3, d4, d5⟩ := six9' (Wc := Wc) (W := wt) (b := D) (fun x => HWc.out x _ (.inl rfl)) hDt
            obtain ⟨e0, e1, e2, e3, e4, e5⟩ := six9' (Wc := Wc) (W := wt) (b := G) (fun x => HWc.out x _ (.inr (.inr (.inr rfl)))) HTh.out
            have p0 : ∀ x, (Wc x).cell? ⟨PB, 0, none⟩ = some (.int .i64 p.1.lo) := fun x => cell_of_row _ _ 0 _ _ _ ((HWc.out x _ (.inr (.inl rfl))).trans hPt)
            have p1 : ∀ x, (Wc x).cell? ⟨PB, 1, none⟩ = some (.int .i64 p.1.hi) := fun x => cell_of_row _ _ 1 _ _ _ ((HWc.out x _ (.inr (.inl rfl))).trans hPt)
            have q0 : ∀ x, (Wc x).cell? ⟨wp.heap.size, 0, none⟩ = some (.int .i64 q.1.lo) := fun x => cell_of_row _ _ 0 _ _ _ ((HWc.out x _ (.inr (.inr (.inl rfl)))).trans HQh.out)
            have q1 : ∀ x, (Wc x).cell? ⟨wp.heap.size, 1, none⟩ = some (.int .i64 q.1.hi) := fun x => cell_of_row _ _ 1 _ _ _ ((HWc.out x _ (.inr (.inr (.inl rfl)))).trans HQh.out)
            have hS0 : ∃ x, wt.drew = Wc x := ⟨i0, Hi0.out.symm⟩
            have hGt := heapLtM HTh.out
            have hQt := heapLtM HQh.out
            have hgt := heapLtM Hgh.out
            have HSB : Hid (∀ W, Below wt.drew.heap.size wt.drew W → ∃ x, W = Wc x) := hid fun W hW => WS.out W fun k hk => by
              have : k < wt.heap.size := by rcases hk with rfl | rfl | rfl | rfl <;> omega
              exact hW.block _ this
            refine region_anyL (S := fun w' => ∃ x, w' = Wc x) (last := 15) (by kernel_rfl) ?_
            refine anyL_pick [0, 1, 2, 4, 6, 9] (by decide) (by kernel_rfl) (fun _ _ _ _ _ h => h) hS0 (f := 10) rfl (by kernel_rfl) ?_
            show wpQuiet _ _ _ _ [_, _, _, _, _, _] _
            repeat go_big_quiet_step (fail)
            refine wpQuiet_nil ?_
            refine anyL_facts [3, 5, 7, 8, 10, 11, 12] [12] 3 [(3, 48), (5, 50), (7, 52), (8, 53), (10, 55), (11, 56), (12, 57)] (tab15 wp.heap.size p q) (by kernel_rfl) rfl (by decide) (Below.refl wt.drew.heap.size wt.drew) HSB.out ?_ ?_
            · intro k hk o ho val W hBW hd
              have hsW : wt.heap.size ≤ W.heap.size := hBW.size
              simp only [List.mem_cons, List.not_mem_nil, or_false] at hk
              rcases hk with rfl | rfl | rfl | rfl | rfl | rfl | rfl
              · obtain rfl := (Option.some.inj ho).symm
                refine ⟨rfl, ?_⟩
                unfold puts
                simp only [List.foldl_cons, List.foldl_nil]
                go_simp
                go_wp2_with fail
                refine (HPC.out W).mono ?_
                rintro e W' ⟨u, rfl, ho', hB'⟩
                obtain ⟨A3, c3, rfl, _, _⟩ := list_form ho'.rel
                have HO := hid (own_fresh (base := wp.heap.size) ho' (by omega))
                have HB' := hid hB'
                clear ho' hB'
                go_wp2_with fail
                exact ⟨_, ⟨rfl, rfl, rfl, rfl, rfl, rfl, rfl⟩, HB'.out, _, _, _, rfl, HO.out⟩
              · have HO := hid ((own_new (w := W) (e := 75) (x := p.1) ⟨okI (by omega), okI (by omega)⟩))
                obtain rfl := (Option.some.inj ho).symm
                refine ⟨rfl, ?_⟩
                unfold puts
                simp only [List.foldl_cons, List.foldl_nil]
                go_simp
                go_wp2_with fail
                exact ⟨_, ⟨rfl, rfl, rfl, rfl, rfl, rfl, rfl⟩, (Below.refl _ W).alloc (Nat.le_refl _) _, _, _, _, rfl, own_fresh (base := wp.heap.size) HO.out (by omega)⟩
              · have HO := hid ((own_new (w := W) (e := 75) (x := q.1) ⟨okI (by omega), okI (by omega)⟩))
                obtain rfl := (Option.some.inj ho).symm
                refine ⟨rfl, ?_⟩
                unfold puts
                simp only [List.foldl_cons, List.foldl_nil]
                go_simp
                go_wp2_with fail
                exact ⟨_, ⟨rfl, rfl, rfl, rfl, rfl, rfl, rfl⟩, (Below.refl _ W).alloc (Nat.le_refl _) _, _, _, _, rfl, own_fresh (base := wp.heap.size) HO.out (by omega)⟩
              · obtain ⟨A3, n3, c3, e3, h3⟩ := hd 3 (by decide) (by kernel_rfl)
                obtain ⟨A5, n5, c5, e5, h5⟩ := hd 5 (by decide) (by kernel_rfl)
                obtain ⟨A7, n7, c7, e7, h7⟩ := hd 7 (by decide) (by kernel_rfl)
                have hF := FL.lits (e := 76) (r := spansR) (w := W) (b0 := wp.heap.size) (base := wp.heap.size) (css := [[.slice A3 n3 c3], [.slice A5 n5 c5], [.slice A7 n7 c7]]) (xs := [pctP, [p.1], [q.1]]) (cells := #[.slice A3 n3 c3, .slice A5 n5 c5, .slice A7 n7 c7]) ⟨h3, h5, h7, trivial⟩ rfl (by omega) (by unfold maxLen; simp)
                have HF := hid (hF.rel (Nat.le_refl _))
                clear hF h3 h5 h7
                obtain rfl := (Option.some.inj ho).symm
                refine ⟨rfl, ?_⟩
                unfold puts
                simp only [List.foldl_cons, List.foldl_nil]
                rw [e3, e5, e7]
                go_simp
                go_wp2_with fail
                exact ⟨_, ⟨e3.symm, e5.symm, e7.symm, rfl, rfl, rfl, rfl⟩, (Below.refl _ W).alloc (Nat.le_refl _) _, _, _, _, rfl, HF.out⟩
              · have hF := FL.one (e := 69) (r := termR) (x := unT p.2 q.2) (w := W) (b0 := wp.heap.size) (base := wp.heap.size) (cells := #[.int .i64 0, .int .i64 0, .int .i64 21, .int .i64 0, .int .i64 (16 * p.2 + q.2), .slice (some ⟨g, 0, none⟩) 2 2]) ⟨_, rfl, ⟨(okI (by omega) : I64 0), (okI (by omega) : I64 0), (okI (by omega) : I64 21), (okI (by omega) : I64 0), (okI (by omega) : I64 (16 * p.2 + q.2))⟩, parts_rel ((hBW.block _ hgt).trans Hgh.out) ⟨hg, by omega⟩⟩ rfl (by omega)
                have HF := hid (hF.rel (Nat.le_refl _))
                clear hF
                obtain rfl := (Option.some.inj ho).symm
                refine ⟨rfl, ?_⟩
                unfold puts
                simp only [List.foldl_cons, List.foldl_nil]
                go_simp
                go_wp2_with fail
                exact ⟨_, ⟨rfl, rfl, rfl, rfl, rfl, rfl, rfl⟩, (Below.refl _ W).alloc (Nat.le_refl _) _, _, _, _, rfl, HF.out⟩
              · obtain ⟨A8, n8, c8, e8, h8⟩ := hd 8 (by decide) (by kernel_rfl)
                obtain ⟨A10, n10, c10, e10, h10⟩ := hd 10 (by decide) (by kernel_rfl)
                have H8 := hid h8
                have H10 := hid h10
                clear h8 h10
                obtain rfl := (Option.some.inj ho).symm
                refine ⟨rfl, ?_⟩
                unfold puts
                simp only [List.foldl_cons, List.foldl_nil]
                rw [e8, e10]
                go_simp
                go_wp2_with fail
                exact ⟨_, ⟨rfl, rfl, rfl, e8.symm, e10.symm, rfl, rfl⟩, Below.refl _ W, _, _, _, _, _, _, rfl, H8.out, H10.out⟩
              · obtain ⟨A8, n8, c8, A10, n10, c10, e11, h8, h10⟩ := hd 11 (by decide) (by kernel_rfl)
                have H8 := hid h8
                have H10 := hid h10
                clear h8 h10
                obtain rfl := (Option.some.inj ho).symm
                refine ⟨rfl, ?_⟩
                unfold puts
                simp only [List.foldl_cons, List.foldl_nil]
                rw [e11]
                go_simp
                go_wp2_with fail
                have hBn : Below W.heap.size W (W.alloc (.cells #[.int .i64 0, .int .i64 0, .slice A8 n8 c8, .int .i64 3, .slice A10 n10 c10] 46)) := (Below.refl _ W).alloc (Nat.le_refl _) _
                exact ⟨_, ⟨rfl, rfl, rfl, rfl, rfl, e11.symm, rfl⟩, hBn, _, _, _, _, _, _, _, rfl, heap_alloc_new _ _, rel_fresh (q := listR spansR) H8.out hBn, rel_fresh (q := listR termR) H10.out hBn⟩
            · intro val W hBW hall
              obtain ⟨_, _, _, e3', _⟩ := hall 3 (by decide)
              obtain ⟨_, _, _, e5', _⟩ := hall 5 (by decide)
              obtain ⟨_, _, _, e7', _⟩ := hall 7 (by decide)
              obtain ⟨_, _, _, e8', _⟩ := hall 8 (by decide)
              obtain ⟨_, _, _, e10', _⟩ := hall 10 (by decide)
              obtain ⟨_, _, _, _, _, _, e11', _⟩ := hall 11 (by decide)
              obtain ⟨RB, A8, n8, c8, A10, n10, c10, e12, hRh, h8, h10⟩ := hall 12 (by decide)
              have H8 := hid h8
              have H10 := hid h10
              clear hall h8 h10
              unfold puts
              simp only [List.foldl_cons, List.foldl_nil]
              rw [e3', e5', e7', e8', e10', e11', e12]
              go_simp
              have hBW2 : Below wt.heap.size wt W := ⟨hBW.os, hBW.tape, hBW.output, hBW.size, hBW.block⟩
              have hsW := hBW2.size
              have hFW := (FX.of (X := fun g => (Value.slice Ar L.length cr).ownBlock = some g) (HFL.out.later hBW2) (Nat.le_refl _) (fun _ => Iff.rfl))
              refine anyL_act (i := 13) (by kernel_rfl) rfl rfl ?_
              intro K hK
              refine act_append_fx (r := ruleR) (v := .slice Ar L.length cr) (xs := L) _ _ 24 (by rfl) inf _ 72 Tryz.underlying24 hi0 hz0 hz1 hz2 rfl (by decide) (by rfl) hFW (fun g hg => by have := HOwn.out g hg; omega) (by omega) ⟨RB, 0, none⟩ 1 (unR p q) [.int .i64 0, .int .i64 0, .slice A8 n8 c8, .int .i64 3, .slice A10 n10 c10] (by rfl)
                ⟨_, _, rfl, ⟨(okI (by omega) : I64 0), (okI (by omega) : I64 0), (okI (by omega) : I64 3)⟩, rel_elx (q := listR spansR) H8.out HOwn.out (by omega), rel_elx (q := listR termR) H10.out HOwn.out (by omega)⟩ (row_news hRh) (by simp [Value.oneCell']) (by unfold maxLen; omega) (by omega) ?_
              intro v' w6 hF6 hX6 hXl6 hB6 hk6
              obtain ⟨Aw, cw, rfl⟩ := hF6.len
              have hs6 := hB6.size
              have hD6 := ((hk6 D (by omega) (fx_ne hFW ((hBW2.block _ (by omega)).trans hDt) (by decide))).trans (hBW2.block _ (by omega))).trans hDt
              have hS6 : ∃ x, w6 = Wc x := WS.out w6 fun k hk => by
                show w6.heap[k]? = wt.heap[k]?
                rcases hk with rfl | rfl | rfl | rfl
                · exact (hk6 _ (by omega) (fx_ne hFW ((hBW2.block _ (by omega)).trans hDt) (by decide))).trans (hBW2.block _ (by omega))
                · exact (hk6 _ (by omega) (fx_ne hFW ((hBW2.block _ (by omega)).trans hPt) (by decide))).trans (hBW2.block _ (by omega))
                · exact (hk6 _ (by omega) (fx_ne hFW ((hBW2.block _ (by omega)).trans HQh.out) (by decide))).trans (hBW2.block _ (by omega))
                · exact (hk6 _ (by omega) (fx_ne hFW ((hBW2.block _ (by omega)).trans HTh.out) (by decide))).trans (hBW2.block _ (by omega))
              refine hK.out _ _ (fun _ => hS6) ?_
              clear hK K
              go_simp
              refine anyL_seg 14 1 (by kernel_rfl) (fun _ _ _ _ _ h => h) hS6 (f := 1) rfl (by kernel_rfl) (by kernel_rfl) ?_
              simp only [List.drop_succ_cons, List.drop_zero, List.take_succ_cons, List.take_zero]
              repeat go_big_quiet_step (fail)
              refine wpQuiet_nil ?_
              obtain ⟨f0, f1, f2, f3, f4, f5⟩ := fro6 hD6
              obtain ⟨m0, m1, m2, m3, m4, m5⟩ := six9 hD6
              refine anyL_act (i := 15) (by kernel_rfl) rfl rfl ?_
              intro K hK
              go_wp2_with fail
              refine hK.out _ _ (fun h => absurd rfl h) ?_
              clear hK K
              refine anyL_done (by kernel_rfl) ?_ 0
              have hkeep : ∀ g, g < wl.heap.size → g ≠ D → (w6.setCell ⟨D, 4, none⟩ (.slice Aw (L ++ [unR p q]).length cw)).heap[g]? = wl.heap[g]? := fun g h1 h2 => by
                rw [heap_setCell_other _ _ _ _ (by simpa using h2), hB6.block g h1, hBW2.block g (by omega), HBt.out.block g (by omega)]
                exact Hkp.out g h1 h2
              have HE : Hid (UnI w wl (w6.setCell ⟨D, 4, none⟩ (.slice Aw (L ++ [unR p q]).length cw)) D (3 * i + (j + 1))) := hid (by
                refine ⟨_, heap_setCell_same w6 D 4 _ _ _ hD6, ?_, hkeep, by simp; omega, ?_⟩
                · rw [HLn.out]
                  refine (fx_fl hF6).keep (Nat.le_refl _) (by simp) (fun g h1 _ => heap_setCell_other _ _ _ _ (by simp only; omega))
                · exact ((HBp.out.trans (hBW2.mono HBp.out.size)).trans (hB6.mono (by have := HN.out; omega))).setCell (p := ⟨D, 4, none⟩) (by have := HN.out; simp only; omega) _)
              rw [show (L ++ [unR p q]).length = L.length + 1 by simp] at HE
              have HPe := hid (show (w6.setCell ⟨D, 4, none⟩ (.slice Aw (L.length + 1) cw)).heap[PB]? = some (.cells #[.int .i64 p.1.lo, .int .i64 p.1.hi] 75) by
                rw [heap_setCell_other _ _ _ _ (by simp only; have := HPl.out; omega)]
                exact ((hk6 PB (by omega) (fx_ne hFW ((hBW2.block _ (by omega)).trans hPt) (by decide))).trans (hBW2.block _ (by omega))).trans hPt)
              clear hS6 hF6 hX6 hXl6 hB6 hk6 hD6 hFW hkeep f0 f1 f2 f3 f4 f5 m0 m1 m2 m3 m4 m5 d0 d1 d2 d3 d4 d5 e0 e1 e2 e3 e4 e5 p0 p1 q0 q1 WS HWc Hi0 hne hS0 HSB i0 Wc ι
              go_wp2_with fail
              refine ⟨⟨j + 1, by omega, by push_cast; rfl, HE.out, HPe.out⟩, ?_⟩
              simp [intOf]
              omega
        · obtain rfl : j = 3 := by omega
          go_wp2_with fail
          refine ⟨⟨i + 1, by omega, by push_cast; rfl, by have := HV.out; rw [show 3 * (i + 1) = 3 * i + 3 by omega]; exact this⟩, ?_⟩
          simp [intOf]
          omega
    · obtain rfl : i = 3 := by omega
      go_wp2_with fail
      refine (HCP.out 0 _ (okI (by omega))).mono ?_
      rintro e w1 ⟨v1, rfl, hp1, hB1⟩
      obtain ⟨A1, c1, rfl, _, _⟩ := list_form hp1
      unfold tval copyT
      dsimp only
      go_wp2_with fail
      obtain ⟨wp, hwp⟩ : ∃ wp, wp = wo := ⟨_, rfl⟩
      subst hwp
      obtain ⟨wt, hwt⟩ : ∃ wt, wt = w1.alloc (.cells #[.int .i64 0, .int .i64 0, .int .i64 21, .int .i64 0, .int .i64 0, .slice A1 1 c1] 69) := ⟨_, rfl⟩
      rw [← hwt]
      have hs1 := hB1.size
      have hFt := FL.one (e := 69) (r := termR) (x := copyT 0 0) (w := w1) (b0 := wp.heap.size) (base := wp.heap.size) (cells := #[.int .i64 0, .int .i64 0, .int .i64 21, .int .i64 0, .int .i64 0, .slice A1 1 c1]) ⟨_, rfl, ⟨(okI (by omega) : I64 0), (okI (by omega) : I64 0), (okI (by omega) : I64 21), (okI (by omega) : I64 0), (okI (by omega) : I64 0)⟩, hp1⟩ rfl hs1
      have HBt : Hid (Below wp.heap.size wp wt) := hid (by rw [hwt]; exact hB1.alloc hs1 _)
      rw [← hwt] at hFt
      have HT0 := hid (hFt.rel (Nat.le_refl _))
      have HV : Hid (UnI w wl wp D 9) := hid HU.out
      clear hwt hFt hp1 hB1 hs1 HU
      obtain ⟨vr, hDp, hFL, hkp, hsp, hBp⟩ := HV.out
      obtain ⟨Ar, cr, rfl⟩ := hFL.len
      have hDlt : D < wl.heap.size := by have := HN.out; omega
      have hDl : D < wp.heap.size := by omega
      have hDt := (HBt.out.block _ hDl).trans hDp
      have hst := HBt.out.size
      obtain ⟨L, hL⟩ : ∃ L, L = unurlRs.take 9 := ⟨_, rfl⟩
      rw [← hL] at hFL hDp hDt
      have hLl : L.length ≤ 20 := by rw [hL]; have : unurlRs.length = 12 := rfl; rw [List.length_take]; omega
      have HLn : Hid (unurlRs.take (9 + 1) = L ++ [ru19]) := hid (by rw [hL]; rfl)
      have HOwn := hid (hFL.own_lt)
      have HFL := hid (hFL.later HBt.out)
      have Hkp := hid hkp
      have HBp := hid (hBp.trans (HBt.out.mono hBp.size))
      have HKW : Hid (∀ W, Below wt.heap.size wt W → W.heap[A]? = some (.cells #[.int .i64 0, .int .i64 255] 75) ∧ W.heap[AB]? = some (.cells #[.slice (some ⟨A, 0, none⟩) 1 1] 76) ∧ W.heap[HB]? = some (.cells #[.func (Fn.func 73) #[] #[]] 109)) := hid fun W hW => by
        have hh : ∀ g, g < wl.heap.size → g ≠ D → W.heap[g]? = wl.heap[g]? := fun g h1 h2 => by rw [hW.block g (by omega), HBt.out.block g (by omega)]; exact hkp g h1 h2
        have := HN.out
        exact ⟨(hh A (by omega) (by omega)).trans HW.out.2.1, (hh AB (by omega) (by omega)).trans HW.out.2.2.1, (hh HB (by omega) (by omega)).trans HW.out.2.2.2.1⟩
      clear hL hFL hkp hBp HV
      obtain ⟨hAt, hABt, hHBt⟩ := HKW.out wt (Below.refl _ _)
      obtain ⟨ι, Wc, ⟨i0, hi0'⟩, hWc, Wsur⟩ := held_class wt.drew (fun k => k = D ∨ k = AB ∨ k = HB)
      have hne : Nonempty ι := ⟨i0⟩
      have WS := hid Wsur; clear Wsur
      have HWc := hid hWc; clear hWc
      have Hi0 := hid hi0'; clear hi0'
      obtain ⟨d0, d1, d2, d3, d4, d5⟩ := six9' (Wc := Wc) (W := wt) (b := D) (fun x => HWc.out x _ (.inl rfl)) hDt
      have ab0 : ∀ x, (Wc x).cell? ⟨AB, 0, none⟩ = some (.slice (some ⟨A, 0, none⟩) 1 1) := fun x => cell_of_row _ _ 0 _ _ _ ((HWc.out x _ (.inr (.inl rfl))).trans hABt)
      have hb0 : ∀ x, (Wc x).cell? ⟨HB, 0, none⟩ = some (.func (Fn.func 73) #[] #[]) := fun x => cell_of_row _ _ 0 _ _ _ ((HWc.out x _ (.inr (.inr rfl))).trans hHBt)
      have hS0 : ∃ x, wt.drew = Wc x := ⟨i0, Hi0.out.symm⟩
      have hABl := heapLtM hABt
      have hHBl := heapLtM hHBt
      have hAl := heapLtM hAt
      have HSB : Hid (∀ W, Below wt.drew.heap.size wt.drew W → ∃ x, W = Wc x) := hid fun W hW => WS.out W fun k hk => by
        have : k < wt.heap.size := by rcases hk with rfl | rfl | rfl <;> omega
        exact hW.block _ this
      have HNX : Hid (∀ W, Below wt.drew.heap.size wt.drew W → Calls Tryz.prog 74 #[.pointer (some ⟨AB, 0, none⟩), .pointer (some ⟨HB, 0, none⟩)] W (SetPost notHexP W)) := hid fun W hW => by
        obtain ⟨h1, h2, h3⟩ := HKW.out W ⟨hW.os, hW.tape, hW.output, hW.size, hW.block⟩
        exact nothex_calls W h1 h2 h3
      refine region_anyL (S := fun w' => ∃ x, w' = Wc x) (last := 14) (by kernel_rfl) ?_
      refine anyL_pick [0, 1, 2, 4, 6, 9] (by decide) (by kernel_rfl) (fun _ _ _ _ _ h => h) hS0 (f := 9) rfl (by kernel_rfl) ?_
      show wpQuiet _ _ _ _ [_, _, _, _, _, _] _
      repeat go_big_quiet_step (fail)
      refine wpQuiet_nil ?_
      refine anyL_facts [3, 5, 7, 8, 10, 11] [11] 3 [(3, 67), (5, 69), (7, 71), (8, 72), (10, 74), (11, 75)] (tab19 wp.heap.size) (by kernel_rfl) rfl (by decide) (Below.refl wt.drew.heap.size wt.drew) HSB.out ?_ ?_
      · intro k hk o ho val W hBW hd
        have hsW : wt.heap.size ≤ W.heap.size := hBW.size
        simp only [List.mem_cons, List.not_mem_nil, or_false] at hk
        rcases hk with rfl | rfl | rfl | rfl | rfl | rfl
        · obtain rfl := (Option.some.inj ho).symm
          refine ⟨rfl, ?_⟩
          unfold puts
          simp only [List.foldl_cons, List.foldl_nil]
          go_simp
          go_wp2_with fail
          refine (HPC.out W).mono ?_
          rintro e W' ⟨u, rfl, ho', hB'⟩
          obtain ⟨A0, c0, rfl, _, _⟩ := list_form ho'.rel
          have HO := hid (own_fresh (base := wp.heap.size) ho' (by omega))
          have HB' := hid hB'
          clear ho' hB'
          go_wp2_with fail
          exact ⟨_, ⟨rfl, rfl, rfl, rfl, rfl, rfl⟩, HB'.out, _, _, _, rfl, HO.out⟩
        · obtain rfl := (Option.some.inj ho).symm
          refine ⟨rfl, ?_⟩
          unfold puts
          simp only [List.foldl_cons, List.foldl_nil]
          go_simp
          go_wp2_with fail
          refine (HHC.out W).mono ?_
          rintro e W' ⟨u, rfl, ho', hB'⟩
          obtain ⟨A0, c0, rfl, _, _⟩ := list_form ho'.rel
          have HO := hid (own_fresh (base := wp.heap.size) ho' (by omega))
          have HB' := hid hB'
          clear ho' hB'
          go_wp2_with fail
          exact ⟨_, ⟨rfl, rfl, rfl, rfl, rfl, rfl⟩, HB'.out, _, _, _, rfl, HO.out⟩
        · obtain rfl := (Option.some.inj ho).symm
          refine ⟨rfl, ?_⟩
          unfold puts
          simp only [List.foldl_cons, List.foldl_nil]
          go_simp
          go_wp2_with fail
          refine (HNX.out W hBW).mono ?_
          rintro e W' ⟨u, rfl, ho', hB'⟩
          obtain ⟨A0, c0, rfl, _, _⟩ := list_form ho'.rel
          have HO := hid (own_fresh (base := wp.heap.size) ho' (by omega))
          have HB' := hid hB'
          clear ho' hB'
          go_wp2_with fail
          exact ⟨_, ⟨rfl, rfl, rfl, rfl, rfl, rfl⟩, HB'.out, _, _, _, rfl, HO.out⟩
        · obtain ⟨A3, n3, c3, e3, h3⟩ := hd 3 (by decide) (by kernel_rfl)
          obtain ⟨A5, n5, c5, e5, h5⟩ := hd 5 (by decide) (by kernel_rfl)
          obtain ⟨A7, n7, c7, e7, h7⟩ := hd 7 (by decide) (by kernel_rfl)
          have hF := FL.lits (e := 76) (r := spansR) (w := W) (b0 := wp.heap.size) (base := wp.heap.size) (css := [[.slice A3 n3 c3], [.slice A5 n5 c5], [.slice A7 n7 c7]]) (xs := [pctP, hexP, notHexP]) (cells := #[.slice A3 n3 c3, .slice A5 n5 c5, .slice A7 n7 c7]) ⟨h3, h5, h7, trivial⟩ rfl (by omega) (by unfold maxLen; simp)
          have HF := hid (hF.rel (Nat.le_refl _))
          clear hF h3 h5 h7
          obtain rfl := (Option.some.inj ho).symm
          refine ⟨rfl, ?_⟩
          unfold puts
          simp only [List.foldl_cons, List.foldl_nil]
          rw [e3, e5, e7]
          go_simp
          go_wp2_with fail
          exact ⟨_, ⟨e3.symm, e5.symm, e7.symm, rfl, rfl, rfl⟩, (Below.refl _ W).alloc (Nat.le_refl _) _, _, _, _, rfl, HF.out⟩
        · obtain ⟨A8, n8, c8, e8, h8⟩ := hd 8 (by decide) (by kernel_rfl)
          have H8 := hid h8
          clear h8
          obtain rfl := (Option.some.inj ho).symm
          refine ⟨rfl, ?_⟩
          unfold puts
          simp only [List.foldl_cons, List.foldl_nil]
          rw [e8]
          go_simp
          go_wp2_with fail
          exact ⟨_, ⟨rfl, rfl, rfl, e8.symm, rfl, rfl⟩, Below.refl _ W, _, _, _, _, _, _, rfl, H8.out, rel_fresh (q := listR termR) HT0.out (show Below wt.heap.size wt W from ⟨hBW.os, hBW.tape, hBW.output, hBW.size, hBW.block⟩)⟩
        · obtain ⟨A10, n10, c10, B10, m10, d10, e10, h10, g10⟩ := hd 10 (by decide) (by kernel_rfl)
          have H1 := hid h10
          have H2 := hid g10
          clear h10 g10
          obtain rfl := (Option.some.inj ho).symm
          refine ⟨rfl, ?_⟩
          unfold puts
          simp only [List.foldl_cons, List.foldl_nil]
          rw [e10]
          go_simp
          go_wp2_with fail
          have hBn : Below W.heap.size W (W.alloc (.cells #[.int .i64 0, .int .i64 0, .slice A10 n10 c10, .int .i64 1, .slice B10 m10 d10] 46)) := (Below.refl _ W).alloc (Nat.le_refl _) _
          exact ⟨_, ⟨rfl, rfl, rfl, rfl, e10.symm, rfl⟩, hBn, _, _, _, _, _, _, _, rfl, heap_alloc_new _ _, rel_fresh (q := listR spansR) H1.out hBn, rel_fresh (q := listR termR) H2.out hBn⟩
      · intro val W hBW hall
        obtain ⟨_, _, _, e3', _⟩ := hall 3 (by decide)
        obtain ⟨_, _, _, e5', _⟩ := hall 5 (by decide)
        obtain ⟨_, _, _, e7', _⟩ := hall 7 (by decide)
        obtain ⟨_, _, _, e8', _⟩ := hall 8 (by decide)
        obtain ⟨_, _, _, _, _, _, e10', _⟩ := hall 10 (by decide)
        obtain ⟨RB, A8, n8, c8, A10, n10, c10, e11', hRh, h8, h10⟩ := hall 11 (by decide)
        have H8 := hid h8
        have H10 := hid h10
        clear hall h8 h10
        unfold puts
        simp only [List.foldl_cons, List.foldl_nil]
        rw [e3', e5', e7', e8', e10', e11']
        go_simp
        have hBW2 : Below wt.heap.size wt W := ⟨hBW.os, hBW.tape, hBW.output, hBW.size, hBW.block⟩
        have hsW := hBW2.size
        have hFW := (FX.of (X := fun g => (Value.slice Ar L.length cr).ownBlock = some g) (HFL.out.later hBW2) (Nat.le_refl _) (fun _ => Iff.rfl))
        refine anyL_act (i := 12) (by kernel_rfl) rfl rfl ?_
        intro K hK
        refine act_append_fx (r := ruleR) (v := .slice Ar L.length cr) (xs := L) _ _ 24 (by rfl) inf _ 72 Tryz.underlying24 hi0 hz0 hz1 hz2 rfl (by decide) (by rfl) hFW (fun g hg => by have := HOwn.out g hg; omega) (by omega) ⟨RB, 0, none⟩ 1 (ru19) [.int .i64 0, .int .i64 0, .slice A8 n8 c8, .int .i64 1, .slice A10 n10 c10] (by rfl)
          ⟨_, _, rfl, ⟨(okI (by omega) : I64 0), (okI (by omega) : I64 0), (okI (by omega) : I64 1)⟩, rel_elx (q := listR spansR) H8.out HOwn.out (by omega), rel_elx (q := listR termR) H10.out HOwn.out (by omega)⟩ (row_news hRh) (by simp [Value.oneCell']) (by unfold maxLen; omega) (by omega) ?_
        intro v' w6 hF6 hX6 hXl6 hB6 hk6
        obtain ⟨Aw, cw, rfl⟩ := hF6.len
        have hs6 := hB6.size
        have hD6 := ((hk6 D (by omega) (fx_ne hFW ((hBW2.block _ (by omega)).trans hDt) (by decide))).trans (hBW2.block _ (by omega))).trans hDt
        have hS6 : ∃ x, w6 = Wc x := WS.out w6 fun k hk => by
          show w6.heap[k]? = wt.heap[k]?
          rcases hk with rfl | rfl | rfl
          · exact (hk6 _ (by omega) (fx_ne hFW ((hBW2.block _ (by omega)).trans hDt) (by decide))).trans (hBW2.block _ (by omega))
          · exact (hk6 _ (by omega) (fx_ne hFW ((hBW2.block _ (by omega)).trans hABt) (by decide))).trans (hBW2.block _ (by omega))
          · exact (hk6 _ (by omega) (fx_ne hFW ((hBW2.block _ (by omega)).trans hHBt) (by decide))).trans (hBW2.block _ (by omega))
        refine hK.out _ _ (fun _ => hS6) ?_
        clear hK K
        go_simp
        refine anyL_seg 13 1 (by kernel_rfl) (fun _ _ _ _ _ h => h) hS6 (f := 1) rfl (by kernel_rfl) (by kernel_rfl) ?_
        simp only [List.drop_succ_cons, List.drop_zero, List.take_succ_cons, List.take_zero]
        repeat go_big_quiet_step (fail)
        refine wpQuiet_nil ?_
        obtain ⟨f0, f1, f2, f3, f4, f5⟩ := fro6 hD6
        obtain ⟨m0, m1, m2, m3, m4, m5⟩ := six9 hD6
        refine anyL_act (i := 14) (by kernel_rfl) rfl rfl ?_
        intro K hK
        go_wp2_with fail
        refine hK.out _ _ (fun h => absurd rfl h) ?_
        clear hK K
        refine anyL_done (by kernel_rfl) ?_ 0
        have hkeep : ∀ g, g < wl.heap.size → g ≠ D → (w6.setCell ⟨D, 4, none⟩ (.slice Aw (L ++ [ru19]).length cw)).heap[g]? = wl.heap[g]? := fun g h1 h2 => by
          rw [heap_setCell_other _ _ _ _ (by simpa using h2), hB6.block g h1, hBW2.block g (by omega), HBt.out.block g (by omega)]
          exact Hkp.out g h1 h2
        have HE : Hid (UnI w wl (w6.setCell ⟨D, 4, none⟩ (.slice Aw (L ++ [ru19]).length cw)) D (9 + 1)) := hid (by
          refine ⟨_, heap_setCell_same w6 D 4 _ _ _ hD6, ?_, hkeep, by simp; omega, ?_⟩
          · rw [HLn.out]
            refine (fx_fl hF6).keep (Nat.le_refl _) (by simp) (fun g h1 _ => heap_setCell_other _ _ _ _ (by simp only; omega))
          · exact ((HBp.out.trans (hBW2.mono HBp.out.size)).trans (hB6.mono (by have := HN.out; omega))).setCell (p := ⟨D, 4, none⟩) (by have := HN.out; simp only; omega) _)
        rw [show (L ++ [ru19]).length = L.length + 1 by simp] at HE
        clear hS6 hF6 hX6 hXl6 hB6 hk6 hD6 hFW hkeep f0 f1 f2 f3 f4 f5 m0 m1 m2 m3 m4 m5 d0 d1 d2 d3 d4 d5 ab0 hb0 WS HWc Hi0 hne hS0 HSB HNX HKW i0 Wc ι
        go_wp2_with fail
        obtain ⟨w20, hwx⟩ : ∃ x, x = w6.setCell ⟨D, 4, none⟩ (.slice Aw (L.length + 1) cw) := ⟨_, rfl⟩
        rw [← hwx] at HE ⊢
        have HVw20 : Hid (UnI w wl w20 D 10) := hid HE.out
        have HBtw20 := hid (Below.refl w20.heap.size w20)
        clear hwx HE
        obtain ⟨vr, hDp, hFL, hkp, hsp, hBp⟩ := HVw20.out
        obtain ⟨Ar, cr, rfl⟩ := hFL.len
        have hDlt : D < wl.heap.size := by have := HN.out; omega
        have hDl : D < w20.heap.size := by omega
        have hDt := (HBtw20.out.block _ hDl).trans hDp
        have hst := HBtw20.out.size
        obtain ⟨L, hL⟩ : ∃ L, L = unurlRs.take 10 := ⟨_, rfl⟩
        rw [← hL] at hFL hDp hDt
        have hLl : L.length ≤ 20 := by rw [hL]; have : unurlRs.length = 12 := rfl; rw [List.length_take]; omega
        have HLn : Hid (unurlRs.take (10 + 1) = L ++ [ru20]) := hid (by rw [hL]; rfl)
        have HOwn := hid (hFL.own_lt)
        have HFL := hid (hFL.later HBtw20.out)
        have Hkp := hid hkp
        have HBp := hid (hBp.trans (HBtw20.out.mono hBp.size))
        have HKW : Hid (∀ W, Below w20.heap.size w20 W → W.heap[A]? = some (.cells #[.int .i64 0, .int .i64 255] 75) ∧ W.heap[AB]? = some (.cells #[.slice (some ⟨A, 0, none⟩) 1 1] 76) ∧ W.heap[HB]? = some (.cells #[.func (Fn.func 73) #[] #[]] 109)) := hid fun W hW => by
          have hh : ∀ g, g < wl.heap.size → g ≠ D → W.heap[g]? = wl.heap[g]? := fun g h1 h2 => by rw [hW.block g (by omega), HBtw20.out.block g (by omega)]; exact hkp g h1 h2
          have := HN.out
          exact ⟨(hh A (by omega) (by omega)).trans HW.out.2.1, (hh AB (by omega) (by omega)).trans HW.out.2.2.1, (hh HB (by omega) (by omega)).trans HW.out.2.2.2.1⟩
        clear hL hFL hkp hBp HVw20
        obtain ⟨hAt, hABt, hHBt⟩ := HKW.out w20 (Below.refl _ _)
        obtain ⟨ι, Wc, ⟨i0, hi0'⟩, hWc, Wsur⟩ := held_class w20.drew (fun k => k = D ∨ k = AB ∨ k = HB)
        have hne : Nonempty ι := ⟨i0⟩
        have WS := hid Wsur; clear Wsur
        have HWc := hid hWc; clear hWc
        have Hi0 := hid hi0'; clear hi0'
        obtain ⟨d0, d1, d2, d3, d4, d5⟩ := six9' (Wc := Wc) (W := w20) (b := D) (fun x => HWc.out x _ (.inl rfl)) hDt
        have ab0 : ∀ x, (Wc x).cell? ⟨AB, 0, none⟩ = some (.slice (some ⟨A, 0, none⟩) 1 1) := fun x => cell_of_row _ _ 0 _ _ _ ((HWc.out x _ (.inr (.inl rfl))).trans hABt)
        have hb0 : ∀ x, (Wc x).cell? ⟨HB, 0, none⟩ = some (.func (Fn.func 73) #[] #[]) := fun x => cell_of_row _ _ 0 _ _ _ ((HWc.out x _ (.inr (.inr rfl))).trans hHBt)
        have hS0 : ∃ x, w20.drew = Wc x := ⟨i0, Hi0.out.symm⟩
        have hABl := heapLtM hABt
        have hHBl := heapLtM hHBt
        have hAl := heapLtM hAt
        have HSB : Hid (∀ W, Below w20.drew.heap.size w20.drew W → ∃ x, W = Wc x) := hid fun W hW => WS.out W fun k hk => by
          have : k < w20.heap.size := by rcases hk with rfl | rfl | rfl <;> omega
          exact hW.block _ this
        have HNX : Hid (∀ W, Below w20.drew.heap.size w20.drew W → Calls Tryz.prog 74 #[.pointer (some ⟨AB, 0, none⟩), .pointer (some ⟨HB, 0, none⟩)] W (SetPost notHexP W)) := hid fun W hW => by
          obtain ⟨h1, h2, h3⟩ := HKW.out W ⟨hW.os, hW.tape, hW.output, hW.size, hW.block⟩
          exact nothex_calls W h1 h2 h3
        refine region_anyL (S := fun w' => ∃ x, w' = Wc x) (last := 13) (by kernel_rfl) ?_
        refine anyL_pick [0, 1, 2, 4] (by decide) (by kernel_rfl) (fun _ _ _ _ _ h => h) hS0 (f := 10) rfl (by kernel_rfl) ?_
        show wpQuiet _ _ _ _ [_, _, _, _] _
        repeat go_big_quiet_step (fail)
        refine wpQuiet_nil ?_
        refine anyL_facts [3, 5, 6, 7, 8, 9, 10] [10] 3 [(3, 81), (5, 83), (6, 84), (7, 85), (8, 86), (9, 87), (10, 88)] (tab20 w20.heap.size) (by kernel_rfl) rfl (by decide) (Below.refl w20.drew.heap.size w20.drew) HSB.out ?_ ?_
        · intro k hk o ho val W hBW hd
          have hsW : w20.heap.size ≤ W.heap.size := hBW.size
          simp only [List.mem_cons, List.not_mem_nil, or_false] at hk
          rcases hk with rfl | rfl | rfl | rfl | rfl | rfl | rfl
          · obtain rfl := (Option.some.inj ho).symm
            refine ⟨rfl, ?_⟩
            unfold puts
            simp only [List.foldl_cons, List.foldl_nil]
            go_simp
            go_wp2_with fail
            refine (HPC.out W).mono ?_
            rintro e W' ⟨u, rfl, ho', hB'⟩
            obtain ⟨A0, c0, rfl, _, _⟩ := list_form ho'.rel
            have HO := hid (own_fresh (base := w20.heap.size) ho' (by omega))
            have HB' := hid hB'
            clear ho' hB'
            go_wp2_with fail
            exact ⟨_, ⟨rfl, rfl, rfl, rfl, rfl, rfl, rfl⟩, HB'.out, _, _, _, rfl, HO.out⟩
          · obtain rfl := (Option.some.inj ho).symm
            refine ⟨rfl, ?_⟩
            unfold puts
            simp only [List.foldl_cons, List.foldl_nil]
            go_simp
            go_wp2_with fail
            refine (HNX.out W hBW).mono ?_
            rintro e W' ⟨u, rfl, ho', hB'⟩
            obtain ⟨A0, c0, rfl, _, _⟩ := list_form ho'.rel
            have HO := hid (own_fresh (base := w20.heap.size) ho' (by omega))
            have HB' := hid hB'
            clear ho' hB'
            go_wp2_with fail
            exact ⟨_, ⟨rfl, rfl, rfl, rfl, rfl, rfl, rfl⟩, HB'.out, _, _, _, rfl, HO.out⟩
          · obtain ⟨A3, n3, c3, e3, h3⟩ := hd 3 (by decide) (by kernel_rfl)
            obtain ⟨A5, n5, c5, e5, h5⟩ := hd 5 (by decide) (by kernel_rfl)
            have hF := FL.lits (e := 76) (r := spansR) (w := W) (b0 := w20.heap.size) (base := w20.heap.size) (css := [[.slice A3 n3 c3], [.slice A5 n5 c5]]) (xs := [pctP, notHexP]) (cells := #[.slice A3 n3 c3, .slice A5 n5 c5]) ⟨h3, h5, trivial⟩ rfl (by omega) (by unfold maxLen; simp)
            have HF := hid (hF.rel (Nat.le_refl _))
            clear hF h3 h5
            obtain rfl := (Option.some.inj ho).symm
            refine ⟨rfl, ?_⟩
            unfold puts
            simp only [List.foldl_cons, List.foldl_nil]
            rw [e3, e5]
            go_simp
            go_wp2_with fail
            exact ⟨_, ⟨e3.symm, e5.symm, rfl, rfl, rfl, rfl, rfl⟩, (Below.refl _ W).alloc (Nat.le_refl _) _, _, _, _, rfl, HF.out⟩
          · obtain rfl := (Option.some.inj ho).symm
            refine ⟨rfl, ?_⟩
            unfold puts
            simp only [List.foldl_cons, List.foldl_nil]
            go_simp
            go_wp2_with fail
            refine (HCP.out 0 W (okI (by omega))).mono ?_
            rintro e W' ⟨v, rfl, hp', hB'⟩
            obtain ⟨A0, c0, rfl, _, _⟩ := list_form hp'
            have HO := hid (rel_low (q := listR partR) hp' (show w20.heap.size ≤ W.heap.size by omega))
            have HB' := hid hB'
            clear hp' hB'
            unfold tval copyT
            dsimp only
            go_wp2_with fail
            exact ⟨_, ⟨rfl, rfl, rfl, rfl, rfl, rfl, rfl⟩, HB'.out, _, _, _, rfl, HO.out⟩
          · obtain ⟨A7, n7, c7, e7, h7⟩ := hd 7 (by decide) (by kernel_rfl)
            have hF := FL.lits (e := 69) (r := termR) (w := W) (b0 := w20.heap.size) (base := w20.heap.size) (css := [[.int .i64 0, .int .i64 0, .int .i64 21, .int .i64 0, .int .i64 0, .slice A7 n7 c7]]) (xs := [copyT 0 0]) (cells := #[.int .i64 0, .int .i64 0, .int .i64 21, .int .i64 0, .int .i64 0, .slice A7 n7 c7]) ⟨⟨_, rfl, ⟨(okI (by omega) : I64 0), (okI (by omega) : I64 0), (okI (by omega) : I64 21), (okI (by omega) : I64 0), (okI (by omega) : I64 0)⟩, h7⟩, trivial⟩ rfl (by omega) (by unfold maxLen; simp)
            have HF := hid (hF.rel (Nat.le_refl _))
            clear hF h7
            unfold copyT at e7
            dsimp only at e7
            obtain rfl := (Option.some.inj ho).symm
            refine ⟨rfl, ?_⟩
            unfold puts
            simp only [List.foldl_cons, List.foldl_nil]
            rw [e7]
            go_simp
            go_wp2_with fail
            exact ⟨_, ⟨rfl, rfl, rfl, e7.symm, rfl, rfl, rfl⟩, (Below.refl _ W).alloc (Nat.le_refl _) _, _, _, _, rfl, HF.out⟩
          · obtain ⟨A6, n6, c6, e6, h6⟩ := hd 6 (by decide) (by kernel_rfl)
            obtain ⟨A8, n8, c8, e8, h8⟩ := hd 8 (by decide) (by kernel_rfl)
            have H6 := hid h6
            have H8 := hid h8
            clear h6 h8
            obtain rfl := (Option.some.inj ho).symm
            refine ⟨rfl, ?_⟩
            unfold puts
            simp only [List.foldl_cons, List.foldl_nil]
            rw [e6, e8]
            go_simp
            go_wp2_with fail
            exact ⟨_, ⟨rfl, rfl, e6.symm, rfl, e8.symm, rfl, rfl⟩, Below.refl _ W, _, _, _, _, _, _, rfl, H6.out, H8.out⟩
          · obtain ⟨A9, n9, c9, B9, m9, d9, e9, h9, g9⟩ := hd 9 (by decide) (by kernel_rfl)
            have H1 := hid h9
            have H2 := hid g9
            clear h9 g9
            obtain rfl := (Option.some.inj ho).symm
            refine ⟨rfl, ?_⟩
            unfold puts
            simp only [List.foldl_cons, List.foldl_nil]
            rw [e9]
            go_simp
            go_wp2_with fail
            have hBn : Below W.heap.size W (W.alloc (.cells #[.int .i64 0, .int .i64 0, .slice A9 n9 c9, .int .i64 1, .slice B9 m9 d9] 46)) := (Below.refl _ W).alloc (Nat.le_refl _) _
            exact ⟨_, ⟨rfl, rfl, rfl, rfl, rfl, e9.symm, rfl⟩, hBn, _, _, _, _, _, _, _, rfl, heap_alloc_new _ _, rel_fresh (q := listR spansR) H1.out hBn, rel_fresh (q := listR termR) H2.out hBn⟩
        · intro val W hBW hall
          obtain ⟨_, _, _, e3', _⟩ := hall 3 (by decide)
          obtain ⟨_, _, _, e5', _⟩ := hall 5 (by decide)
          obtain ⟨_, _, _, e6', _⟩ := hall 6 (by decide)
          obtain ⟨_, _, _, e7', _⟩ := hall 7 (by decide)
          obtain ⟨_, _, _, e8', _⟩ := hall 8 (by decide)
          obtain ⟨_, _, _, _, _, _, e9', _⟩ := hall 9 (by decide)
          obtain ⟨RB, A8, n8, c8, A10, n10, c10, e10', hRh, h8, h10⟩ := hall 10 (by decide)
          have H8 := hid h8
          have H10 := hid h10
          clear hall h8 h10
          unfold puts
          simp only [List.foldl_cons, List.foldl_nil]
          rw [e3', e5', e6', e7', e8', e9', e10']
          go_simp
          have hBW2 : Below w20.heap.size w20 W := ⟨hBW.os, hBW.tape, hBW.output, hBW.size, hBW.block⟩
          have hsW := hBW2.size
          have hFW := (FX.of (X := fun g => (Value.slice Ar L.length cr).ownBlock = some g) (HFL.out.later hBW2) (Nat.le_refl _) (fun _ => Iff.rfl))
          refine anyL_act (i := 11) (by kernel_rfl) rfl rfl ?_
          intro K hK
          refine act_append_fx (r := ruleR) (v := .slice Ar L.length cr) (xs := L) _ _ 24 (by rfl) inf _ 72 Tryz.underlying24 hi0 hz0 hz1 hz2 rfl (by decide) (by rfl) hFW (fun g hg => by have := HOwn.out g hg; omega) (by omega) ⟨RB, 0, none⟩ 1 (ru20) [.int .i64 0, .int .i64 0, .slice A8 n8 c8, .int .i64 1, .slice A10 n10 c10] (by rfl)
            ⟨_, _, rfl, ⟨(okI (by omega) : I64 0), (okI (by omega) : I64 0), (okI (by omega) : I64 1)⟩, rel_elx (q := listR spansR) H8.out HOwn.out (by omega), rel_elx (q := listR termR) H10.out HOwn.out (by omega)⟩ (row_news hRh) (by simp [Value.oneCell']) (by unfold maxLen; omega) (by omega) ?_
          intro v' w6 hF6 hX6 hXl6 hB6 hk6
          obtain ⟨Aw, cw, rfl⟩ := hF6.len
          have hs6 := hB6.size
          have hD6 := ((hk6 D (by omega) (fx_ne hFW ((hBW2.block _ (by omega)).trans hDt) (by decide))).trans (hBW2.block _ (by omega))).trans hDt
          have hS6 : ∃ x, w6 = Wc x := WS.out w6 fun k hk => by
            show w6.heap[k]? = w20.heap[k]?
            rcases hk with rfl | rfl | rfl
            · exact (hk6 _ (by omega) (fx_ne hFW ((hBW2.block _ (by omega)).trans hDt) (by decide))).trans (hBW2.block _ (by omega))
            · exact (hk6 _ (by omega) (fx_ne hFW ((hBW2.block _ (by omega)).trans hABt) (by decide))).trans (hBW2.block _ (by omega))
            · exact (hk6 _ (by omega) (fx_ne hFW ((hBW2.block _ (by omega)).trans hHBt) (by decide))).trans (hBW2.block _ (by omega))
          refine hK.out _ _ (fun _ => hS6) ?_
          clear hK K
          go_simp
          refine anyL_seg 12 1 (by kernel_rfl) (fun _ _ _ _ _ h => h) hS6 (f := 1) rfl (by kernel_rfl) (by kernel_rfl) ?_
          simp only [List.drop_succ_cons, List.drop_zero, List.take_succ_cons, List.take_zero]
          repeat go_big_quiet_step (fail)
          refine wpQuiet_nil ?_
          obtain ⟨f0, f1, f2, f3, f4, f5⟩ := fro6 hD6
          obtain ⟨m0, m1, m2, m3, m4, m5⟩ := six9 hD6
          refine anyL_act (i := 13) (by kernel_rfl) rfl rfl ?_
          intro K hK
          go_wp2_with fail
          refine hK.out _ _ (fun h => absurd rfl h) ?_
          clear hK K
          refine anyL_done (by kernel_rfl) ?_ 0
          have hkeep : ∀ g, g < wl.heap.size → g ≠ D → (w6.setCell ⟨D, 4, none⟩ (.slice Aw (L ++ [ru20]).length cw)).heap[g]? = wl.heap[g]? := fun g h1 h2 => by
            rw [heap_setCell_other _ _ _ _ (by simpa using h2), hB6.block g h1, hBW2.block g (by omega), HBtw20.out.block g (by omega)]
            exact Hkp.out g h1 h2
          have HE : Hid (UnI w wl (w6.setCell ⟨D, 4, none⟩ (.slice Aw (L ++ [ru20]).length cw)) D (10 + 1)) := hid (by
            refine ⟨_, heap_setCell_same w6 D 4 _ _ _ hD6, ?_, hkeep, by simp; omega, ?_⟩
            · rw [HLn.out]
              refine (fx_fl hF6).keep (Nat.le_refl _) (by simp) (fun g h1 _ => heap_setCell_other _ _ _ _ (by simp only; omega))
            · exact ((HBp.out.trans (hBW2.mono HBp.out.size)).trans (hB6.mono (by have := HN.out; omega))).setCell (p := ⟨D, 4, none⟩) (by have := HN.out; simp only; omega) _)
          rw [show (L ++ [ru20]).length = L.length + 1 by simp] at HE
          clear hS6 hF6 hX6 hXl6 hB6 hk6 hD6 hFW hkeep f0 f1 f2 f3 f4 f5 m0 m1 m2 m3 m4 m5 d0 d1 d2 d3 d4 d5 ab0 hb0 WS HWc Hi0 hne hS0 HSB HNX HKW i0 Wc ι
          go_wp2_with fail
          obtain ⟨w21, hwx⟩ : ∃ x, x = w6.setCell ⟨D, 4, none⟩ (.slice Aw (L.length + 1) cw) := ⟨_, rfl⟩
          rw [← hwx] at HE ⊢
          have HVw21 : Hid (UnI w wl w21 D 11) := hid HE.out
          have HBtw21 := hid (Below.refl w21.heap.size w21)
          clear hwx HE
          obtain ⟨vr, hDp, hFL, hkp, hsp, hBp⟩ := HVw21.out
          obtain ⟨Ar, cr, rfl⟩ := hFL.len
          have hDlt : D < wl.heap.size := by have := HN.out; omega
          have hDl : D < w21.heap.size := by omega
          have hDt := (HBtw21.out.block _ hDl).trans hDp
          have hst := HBtw21.out.size
          obtain ⟨L, hL⟩ : ∃ L, L = unurlRs.take 11 := ⟨_, rfl⟩
          rw [← hL] at hFL hDp hDt
          have hLl : L.length ≤ 20 := by rw [hL]; have : unurlRs.length = 12 := rfl; rw [List.length_take]; omega
          have HLn : Hid (unurlRs.take (11 + 1) = L ++ [ru21]) := hid (by rw [hL]; rfl)
          have HOwn := hid (hFL.own_lt)
          have HFL := hid (hFL.later HBtw21.out)
          have Hkp := hid hkp
          have HBp := hid (hBp.trans (HBtw21.out.mono hBp.size))
          have HKW : Hid (∀ W, Below w21.heap.size w21 W → W.heap[A]? = some (.cells #[.int .i64 0, .int .i64 255] 75) ∧ W.heap[AB]? = some (.cells #[.slice (some ⟨A, 0, none⟩) 1 1] 76) ∧ W.heap[HB]? = some (.cells #[.func (Fn.func 73) #[] #[]] 109)) := hid fun W hW => by
            have hh : ∀ g, g < wl.heap.size → g ≠ D → W.heap[g]? = wl.heap[g]? := fun g h1 h2 => by rw [hW.block g (by omega), HBtw21.out.block g (by omega)]; exact hkp g h1 h2
            have := HN.out
            exact ⟨(hh A (by omega) (by omega)).trans HW.out.2.1, (hh AB (by omega) (by omega)).trans HW.out.2.2.1, (hh HB (by omega) (by omega)).trans HW.out.2.2.2.1⟩
          clear hL hFL hkp hBp HVw21
          obtain ⟨hAt, hABt, hHBt⟩ := HKW.out w21 (Below.refl _ _)
          obtain ⟨ι, Wc, ⟨i0, hi0'⟩, hWc, Wsur⟩ := held_class w21.drew (fun k => k = D ∨ k = AB ∨ k = HB)
          have hne : Nonempty ι := ⟨i0⟩
          have WS := hid Wsur; clear Wsur
          have HWc := hid hWc; clear hWc
          have Hi0 := hid hi0'; clear hi0'
          obtain ⟨d0, d1, d2, d3, d4, d5⟩ := six9' (Wc := Wc) (W := w21) (b := D) (fun x => HWc.out x _ (.inl rfl)) hDt
          have ab0 : ∀ x, (Wc x).cell? ⟨AB, 0, none⟩ = some (.slice (some ⟨A, 0, none⟩) 1 1) := fun x => cell_of_row _ _ 0 _ _ _ ((HWc.out x _ (.inr (.inl rfl))).trans hABt)
          have hb0 : ∀ x, (Wc x).cell? ⟨HB, 0, none⟩ = some (.func (Fn.func 73) #[] #[]) := fun x => cell_of_row _ _ 0 _ _ _ ((HWc.out x _ (.inr (.inr rfl))).trans hHBt)
          have hS0 : ∃ x, w21.drew = Wc x := ⟨i0, Hi0.out.symm⟩
          have hABl := heapLtM hABt
          have hHBl := heapLtM hHBt
          have hAl := heapLtM hAt
          have HSB : Hid (∀ W, Below w21.drew.heap.size w21.drew W → ∃ x, W = Wc x) := hid fun W hW => WS.out W fun k hk => by
            have : k < w21.heap.size := by rcases hk with rfl | rfl | rfl <;> omega
            exact hW.block _ this
          have HNX : Hid (∀ W, Below w21.drew.heap.size w21.drew W → Calls Tryz.prog 74 #[.pointer (some ⟨AB, 0, none⟩), .pointer (some ⟨HB, 0, none⟩)] W (SetPost notHexP W)) := hid fun W hW => by
            obtain ⟨h1, h2, h3⟩ := HKW.out W ⟨hW.os, hW.tape, hW.output, hW.size, hW.block⟩
            exact nothex_calls W h1 h2 h3
          refine region_anyL (S := fun w' => ∃ x, w' = Wc x) (last := 12) (by kernel_rfl) ?_
          refine anyL_pick [0, 1, 2, 3] (by decide) (by kernel_rfl) (fun _ _ _ _ _ h => h) hS0 (f := 9) rfl (by kernel_rfl) ?_
          show wpQuiet _ _ _ _ [_, _, _, _] _
          repeat go_big_quiet_step (fail)
          refine wpQuiet_nil ?_
          refine anyL_facts [4, 5, 6, 7, 8, 9] [9] 3 [(4, 95), (5, 96), (6, 97), (7, 98), (8, 99), (9, 100)] (tab21 w21.heap.size) (by kernel_rfl) rfl (by decide) (Below.refl w21.drew.heap.size w21.drew) HSB.out ?_ ?_
          · intro k hk o ho val W hBW hd
            have hsW : w21.heap.size ≤ W.heap.size := hBW.size
            simp only [List.mem_cons, List.not_mem_nil, or_false] at hk
            rcases hk with rfl | rfl | rfl | rfl | rfl | rfl
            · obtain rfl := (Option.some.inj ho).symm
              refine ⟨rfl, ?_⟩
              unfold puts
              simp only [List.foldl_cons, List.foldl_nil]
              go_simp
              go_wp2_with fail
              refine (HPC.out W).mono ?_
              rintro e W' ⟨u, rfl, ho', hB'⟩
              obtain ⟨A0, c0, rfl, _, _⟩ := list_form ho'.rel
              have HO := hid (own_fresh (base := w21.heap.size) ho' (by omega))
              have HB' := hid hB'
              clear ho' hB'
              go_wp2_with fail
              exact ⟨_, ⟨rfl, rfl, rfl, rfl, rfl, rfl⟩, HB'.out, _, _, _, rfl, HO.out⟩
            · obtain ⟨A4, n4, c4, e4, h4⟩ := hd 4 (by decide) (by kernel_rfl)
              have HM := hid (Minus_calls allB pctP (.slice (some ⟨A, 0, none⟩) 1 1) (.slice A4 n4 c4) W (one_at (r := spanR) (cells := #[.int .i64 0, .int .i64 255]) (x := ⟨0, 255⟩) (HKW.out W ⟨hBW.os, hBW.tape, hBW.output, hBW.size, hBW.block⟩).1 (show A < W.heap.size by omega) ⟨rfl, okI (by simp), okI (by simp)⟩) (spansR.mono (fun _ _ => rfl) (fun _ hb => hb.2) h4) (by decide) (by decide))
              clear h4
              obtain rfl := (Option.some.inj ho).symm
              refine ⟨rfl, ?_⟩
              unfold puts
              simp only [List.foldl_cons, List.foldl_nil]
              rw [e4]
              go_simp
              go_wp2_with fail
              refine HM.out.mono ?_
              rintro e W' ⟨u, rfl, ho', hB'⟩
              obtain ⟨A0, c0, rfl, _, _⟩ := list_form ho'.rel
              have HO := hid (own_fresh (base := w21.heap.size) ho' (by omega))
              have HB' := hid hB'
              clear ho' hB'
              go_wp2_with fail
              exact ⟨_, ⟨e4.symm, rfl, rfl, rfl, rfl, rfl⟩, HB'.out, _, _, _, rfl, HO.out⟩
            · obtain rfl := (Option.some.inj ho).symm
              refine ⟨rfl, ?_⟩
              unfold puts
              simp only [List.foldl_cons, List.foldl_nil]
              go_simp
              go_wp2_with fail
              refine (HCP.out 0 W (okI (by omega))).mono ?_
              rintro e W' ⟨v, rfl, hp', hB'⟩
              obtain ⟨A0, c0, rfl, _, _⟩ := list_form hp'
              have HO := hid (rel_low (q := listR partR) hp' (show w21.heap.size ≤ W.heap.size by omega))
              have HB' := hid hB'
              clear hp' hB'
              unfold tval copyT
              dsimp only
              go_wp2_with fail
              exact ⟨_, ⟨rfl, rfl, rfl, rfl, rfl, rfl⟩, HB'.out, _, _, _, rfl, HO.out⟩
            · obtain ⟨A6, n6, c6, e6, h6⟩ := hd 6 (by decide) (by kernel_rfl)
              have hF := FL.lits (e := 69) (r := termR) (w := W) (b0 := w21.heap.size) (base := w21.heap.size) (css := [[.int .i64 0, .int .i64 0, .int .i64 21, .int .i64 0, .int .i64 0, .slice A6 n6 c6]]) (xs := [copyT 0 0]) (cells := #[.int .i64 0, .int .i64 0, .int .i64 21, .int .i64 0, .int .i64 0, .slice A6 n6 c6]) ⟨⟨_, rfl, ⟨(okI (by omega) : I64 0), (okI (by omega) : I64 0), (okI (by omega) : I64 21), (okI (by omega) : I64 0), (okI (by omega) : I64 0)⟩, h6⟩, trivial⟩ rfl (by omega) (by unfold maxLen; simp)
              have HF := hid (hF.rel (Nat.le_refl _))
              clear hF h6
              unfold copyT at e6
              dsimp only at e6
              obtain rfl := (Option.some.inj ho).symm
              refine ⟨rfl, ?_⟩
              unfold puts
              simp only [List.foldl_cons, List.foldl_nil]
              rw [e6]
              go_simp
              go_wp2_with fail
              exact ⟨_, ⟨rfl, rfl, e6.symm, rfl, rfl, rfl⟩, (Below.refl _ W).alloc (Nat.le_refl _) _, _, _, _, rfl, HF.out⟩
            · obtain ⟨A5, n5, c5, e5, h5⟩ := hd 5 (by decide) (by kernel_rfl)
              obtain ⟨A7, n7, c7, e7, h7⟩ := hd 7 (by decide) (by kernel_rfl)
              have H5 := hid h5
              have H7 := hid h7
              clear h5 h7
              obtain rfl := (Option.some.inj ho).symm
              refine ⟨rfl, ?_⟩
              unfold puts
              simp only [List.foldl_cons, List.foldl_nil]
              rw [e5, e7]
              go_simp
              go_wp2_with fail
              refine (HON.out _ _ _ _ _ _ W).mono ?_
              rintro e W' ⟨rfl, hG', hs', hB'⟩
              have HG := hid (one_at (r := spansR) (cells := #[_]) hG' (show Fresh w21.heap.size W' _ from ⟨by omega, by omega⟩) (rel_fresh H5.out hB'))
              have HT := hid (rel_fresh (q := listR termR) H7.out hB')
              have HB' := hid hB'
              clear hG' hB' hs'
              go_wp2_with fail
              exact ⟨_, ⟨rfl, e5.symm, rfl, e7.symm, rfl, rfl⟩, HB'.out, _, _, _, _, _, _, rfl, HG.out, HT.out⟩
            · obtain ⟨A8, n8, c8, B8, m8, d8, e8, h8, g8⟩ := hd 8 (by decide) (by kernel_rfl)
              have H1 := hid h8
              have H2 := hid g8
              clear h8 g8
              obtain rfl := (Option.some.inj ho).symm
              refine ⟨rfl, ?_⟩
              unfold puts
              simp only [List.foldl_cons, List.foldl_nil]
              rw [e8]
              go_simp
              go_wp2_with fail
              have hBn : Below W.heap.size W (W.alloc (.cells #[.int .i64 0, .int .i64 0, .slice A8 n8 c8, .int .i64 1, .slice B8 m8 d8] 46)) := (Below.refl _ W).alloc (Nat.le_refl _) _
              exact ⟨_, ⟨rfl, rfl, rfl, rfl, e8.symm, rfl⟩, hBn, _, _, _, _, _, _, _, rfl, heap_alloc_new _ _, rel_fresh (q := listR spansR) H1.out hBn, rel_fresh (q := listR termR) H2.out hBn⟩
          · intro val W hBW hall
            obtain ⟨_, _, _, e4', _⟩ := hall 4 (by decide)
            obtain ⟨_, _, _, e5', _⟩ := hall 5 (by decide)
            obtain ⟨_, _, _, e6', _⟩ := hall 6 (by decide)
            obtain ⟨_, _, _, e7', _⟩ := hall 7 (by decide)
            obtain ⟨_, _, _, _, _, _, e8', _⟩ := hall 8 (by decide)
            obtain ⟨RB, A8, n8, c8, A10, n10, c10, e9', hRh, h8, h10⟩ := hall 9 (by decide)
            have H8 := hid h8
            have H10 := hid h10
            clear hall h8 h10
            unfold puts
            simp only [List.foldl_cons, List.foldl_nil]
            rw [e4', e5', e6', e7', e8', e9']
            go_simp
            have hBW2 : Below w21.heap.size w21 W := ⟨hBW.os, hBW.tape, hBW.output, hBW.size, hBW.block⟩
            have hsW := hBW2.size
            have hFW := (FX.of (X := fun g => (Value.slice Ar L.length cr).ownBlock = some g) (HFL.out.later hBW2) (Nat.le_refl _) (fun _ => Iff.rfl))
            refine anyL_act (i := 10) (by kernel_rfl) rfl rfl ?_
            intro K hK
            refine act_append_fx (r := ruleR) (v := .slice Ar L.length cr) (xs := L) _ _ 24 (by rfl) inf _ 72 Tryz.underlying24 hi0 hz0 hz1 hz2 rfl (by decide) (by rfl) hFW (fun g hg => by have := HOwn.out g hg; omega) (by omega) ⟨RB, 0, none⟩ 1 (ru21) [.int .i64 0, .int .i64 0, .slice A8 n8 c8, .int .i64 1, .slice A10 n10 c10] (by rfl)
              ⟨_, _, rfl, ⟨(okI (by omega) : I64 0), (okI (by omega) : I64 0), (okI (by omega) : I64 1)⟩, rel_elx (q := listR spansR) H8.out HOwn.out (by omega), rel_elx (q := listR termR) H10.out HOwn.out (by omega)⟩ (row_news hRh) (by simp [Value.oneCell']) (by unfold maxLen; omega) (by omega) ?_
            intro v' w6 hF6 hX6 hXl6 hB6 hk6
            obtain ⟨Aw, cw, rfl⟩ := hF6.len
            have hs6 := hB6.size
            have hD6 := ((hk6 D (by omega) (fx_ne hFW ((hBW2.block _ (by omega)).trans hDt) (by decide))).trans (hBW2.block _ (by omega))).trans hDt
            have hS6 : ∃ x, w6 = Wc x := WS.out w6 fun k hk => by
              show w6.heap[k]? = w21.heap[k]?
              rcases hk with rfl | rfl | rfl
              · exact (hk6 _ (by omega) (fx_ne hFW ((hBW2.block _ (by omega)).trans hDt) (by decide))).trans (hBW2.block _ (by omega))
              · exact (hk6 _ (by omega) (fx_ne hFW ((hBW2.block _ (by omega)).trans hABt) (by decide))).trans (hBW2.block _ (by omega))
              · exact (hk6 _ (by omega) (fx_ne hFW ((hBW2.block _ (by omega)).trans hHBt) (by decide))).trans (hBW2.block _ (by omega))
            refine hK.out _ _ (fun _ => hS6) ?_
            clear hK K
            go_simp
            refine anyL_seg 11 1 (by kernel_rfl) (fun _ _ _ _ _ h => h) hS6 (f := 1) rfl (by kernel_rfl) (by kernel_rfl) ?_
            simp only [List.drop_succ_cons, List.drop_zero, List.take_succ_cons, List.take_zero]
            repeat go_big_quiet_step (fail)
            refine wpQuiet_nil ?_
            obtain ⟨f0, f1, f2, f3, f4, f5⟩ := fro6 hD6
            obtain ⟨m0, m1, m2, m3, m4, m5⟩ := six9 hD6
            refine anyL_act (i := 12) (by kernel_rfl) rfl rfl ?_
            intro K hK
            go_wp2_with fail
            refine hK.out _ _ (fun h => absurd rfl h) ?_
            clear hK K
            refine anyL_done (by kernel_rfl) ?_ 0
            have hkeep : ∀ g, g < wl.heap.size → g ≠ D → (w6.setCell ⟨D, 4, none⟩ (.slice Aw (L ++ [ru21]).length cw)).heap[g]? = wl.heap[g]? := fun g h1 h2 => by
              rw [heap_setCell_other _ _ _ _ (by simpa using h2), hB6.block g h1, hBW2.block g (by omega), HBtw21.out.block g (by omega)]
              exact Hkp.out g h1 h2
            have HE : Hid (UnI w wl (w6.setCell ⟨D, 4, none⟩ (.slice Aw (L ++ [ru21]).length cw)) D (11 + 1)) := hid (by
              refine ⟨_, heap_setCell_same w6 D 4 _ _ _ hD6, ?_, hkeep, by simp; omega, ?_⟩
              · rw [HLn.out]
                refine (fx_fl hF6).keep (Nat.le_refl _) (by simp) (fun g h1 _ => heap_setCell_other _ _ _ _ (by simp only; omega))
              · exact ((HBp.out.trans (hBW2.mono HBp.out.size)).trans (hB6.mono (by have := HN.out; omega))).setCell (p := ⟨D, 4, none⟩) (by have := HN.out; simp only; omega) _)
            rw [show (L ++ [ru21]).length = L.length + 1 by simp] at HE
            clear hS6 hF6 hX6 hXl6 hB6 hk6 hD6 hFW hkeep f0 f1 f2 f3 f4 f5 m0 m1 m2 m3 m4 m5 d0 d1 d2 d3 d4 d5 ab0 hb0 WS HWc Hi0 hne hS0 HSB HNX HKW i0 Wc ι
            go_wp2_with fail
            obtain ⟨w22, hwx⟩ : ∃ x, x = w6.setCell ⟨D, 4, none⟩ (.slice Aw (L.length + 1) cw) := ⟨_, rfl⟩
            rw [← hwx] at HE ⊢
            have HVw22 : Hid (UnI w wl w22 D 12) := hid HE.out
            have HBtw22 := hid (Below.refl w22.heap.size w22)
            clear hwx HE
            obtain ⟨vr, hDp, hFL, hkp, hsp, hBp⟩ := HVw22.out
            obtain ⟨Ar, cr, rfl⟩ := hFL.len
            have hDlt : D < wl.heap.size := by have := HN.out; omega
            have hDl : D < w22.heap.size := by omega
            have hDt := (HBtw22.out.block _ hDl).trans hDp
            have hst := HBtw22.out.size
            obtain ⟨L, hL⟩ : ∃ L, L = unurlRs.take 12 := ⟨_, rfl⟩
            rw [← hL] at hFL hDp hDt
            have hLl : L.length ≤ 20 := by rw [hL]; have : unurlRs.length = 12 := rfl; rw [List.length_take]; omega
            have HLn : Hid (L = unurlRs) := hid (by rw [hL]; rfl)
            have HOwn := hid (hFL.own_lt)
            have HFL := hid (hFL.later HBtw22.out)
            have Hkp := hid hkp
            have HBp := hid (hBp.trans (HBtw22.out.mono hBp.size))
            have HKW : Hid (∀ W, Below w22.heap.size w22 W → W.heap[A]? = some (.cells #[.int .i64 0, .int .i64 255] 75) ∧ W.heap[AB]? = some (.cells #[.slice (some ⟨A, 0, none⟩) 1 1] 76) ∧ W.heap[HB]? = some (.cells #[.func (Fn.func 73) #[] #[]] 109)) := hid fun W hW => by
              have hh : ∀ g, g < wl.heap.size → g ≠ D → W.heap[g]? = wl.heap[g]? := fun g h1 h2 => by rw [hW.block g (by omega), HBtw22.out.block g (by omega)]; exact hkp g h1 h2
              have := HN.out
              exact ⟨(hh A (by omega) (by omega)).trans HW.out.2.1, (hh AB (by omega) (by omega)).trans HW.out.2.2.1, (hh HB (by omega) (by omega)).trans HW.out.2.2.2.1⟩
            clear hL hFL hkp hBp HVw22
            obtain ⟨hAt, hABt, hHBt⟩ := HKW.out w22 (Below.refl _ _)
            obtain ⟨ι, Wc, ⟨i0, hi0'⟩, hWc, Wsur⟩ := held_class w22.drew (fun k => k = D ∨ k = AB ∨ k = HB)
            have hne : Nonempty ι := ⟨i0⟩
            have WS := hid Wsur; clear Wsur
            have HWc := hid hWc; clear hWc
            have Hi0 := hid hi0'; clear hi0'
            obtain ⟨d0, d1, d2, d3, d4, d5⟩ := six9' (Wc := Wc) (W := w22) (b := D) (fun x => HWc.out x _ (.inl rfl)) hDt
            have ab0 : ∀ x, (Wc x).cell? ⟨AB, 0, none⟩ = some (.slice (some ⟨A, 0, none⟩) 1 1) := fun x => cell_of_row _ _ 0 _ _ _ ((HWc.out x _ (.inr (.inl rfl))).trans hABt)
            have hb0 : ∀ x, (Wc x).cell? ⟨HB, 0, none⟩ = some (.func (Fn.func 73) #[] #[]) := fun x => cell_of_row _ _ 0 _ _ _ ((HWc.out x _ (.inr (.inr rfl))).trans hHBt)
            have hS0 : ∃ x, w22.drew = Wc x := ⟨i0, Hi0.out.symm⟩
            have hABl := heapLtM hABt
            have hHBl := heapLtM hHBt
            have hAl := heapLtM hAt
            have HSB : Hid (∀ W, Below w22.drew.heap.size w22.drew W → ∃ x, W = Wc x) := hid fun W hW => WS.out W fun k hk => by
              have : k < w22.heap.size := by rcases hk with rfl | rfl | rfl <;> omega
              exact hW.block _ this
            have HNX : Hid (∀ W, Below w22.drew.heap.size w22.drew W → Calls Tryz.prog 74 #[.pointer (some ⟨AB, 0, none⟩), .pointer (some ⟨HB, 0, none⟩)] W (SetPost notHexP W)) := hid fun W hW => by
              obtain ⟨h1, h2, h3⟩ := HKW.out W ⟨hW.os, hW.tape, hW.output, hW.size, hW.block⟩
              exact nothex_calls W h1 h2 h3
            refine region_anyL (S := fun w' => ∃ x, w' = Wc x) (last := 18) (by kernel_rfl) ?_
            refine anyL_pick [0, 1, 7, 9] (by decide) (by kernel_rfl) (fun _ _ _ _ _ h => h) hS0 (f := 15) rfl (by kernel_rfl) ?_
            show wpQuiet _ _ _ _ [_, _, _, _] _
            repeat go_big_quiet_step (fail)
            refine wpQuiet_nil ?_
            refine anyL_facts [2, 3, 4, 5, 6, 8, 10, 11, 12, 13, 14, 15, 16] [16] 2 [(2, 105), (3, 106), (4, 107), (5, 108), (6, 109), (8, 111), (10, 113), (11, 114), (12, 115), (13, 116), (14, 117), (15, 118), (16, 119)] (tab22 w22.heap.size) (by kernel_rfl) rfl (by decide) (Below.refl w22.drew.heap.size w22.drew) HSB.out ?_ ?_
            · intro k hk o ho val W hBW hd
              have hsW : w22.heap.size ≤ W.heap.size := hBW.size
              simp only [List.mem_cons, List.not_mem_nil, or_false] at hk
              rcases hk with rfl | rfl | rfl | rfl | rfl | rfl | rfl | rfl | rfl | rfl | rfl | rfl | rfl
              · obtain rfl := (Option.some.inj ho).symm
                refine ⟨rfl, ?_⟩
                unfold puts
                simp only [List.foldl_cons, List.foldl_nil]
                go_simp
                go_wp2_with fail
                refine (HPC.out W).mono ?_
                rintro e W' ⟨u, rfl, ho', hB'⟩
                obtain ⟨A0, c0, rfl, _, _⟩ := list_form ho'.rel
                have HO := hid (own_fresh (base := w22.heap.size) ho' (by omega))
                have HB' := hid hB'
                clear ho' hB'
                go_wp2_with fail
                exact ⟨_, ⟨rfl, rfl, rfl, rfl, rfl, rfl, rfl, rfl, rfl, rfl, rfl, rfl, rfl⟩, HB'.out, _, _, _, rfl, HO.out⟩
              · obtain ⟨A2, n2, c2, e2, h2⟩ := hd 2 (by decide) (by kernel_rfl)
                have hF := FL.lits (e := 76) (r := spansR) (w := W) (b0 := w22.heap.size) (base := w22.heap.size) (css := [[.slice A2 n2 c2]]) (xs := [pctP]) (cells := #[.slice A2 n2 c2]) ⟨h2, trivial⟩ rfl (by omega) (by unfold maxLen; simp)
                have HF := hid (hF.rel (Nat.le_refl _))
                clear hF h2
                obtain rfl := (Option.some.inj ho).symm
                refine ⟨rfl, ?_⟩
                unfold puts
                simp only [List.foldl_cons, List.foldl_nil]
                rw [e2]
                go_simp
                go_wp2_with fail
                exact ⟨_, ⟨e2.symm, rfl, rfl, rfl, rfl, rfl, rfl, rfl, rfl, rfl, rfl, rfl, rfl⟩, (Below.refl _ W).alloc (Nat.le_refl _) _, _, _, _, rfl, HF.out⟩
              · obtain rfl := (Option.some.inj ho).symm
                refine ⟨rfl, ?_⟩
                unfold puts
                simp only [List.foldl_cons, List.foldl_nil]
                go_simp
                go_wp2_with fail
                refine (HCP.out 0 W (okI (by omega))).mono ?_
                rintro e W' ⟨v, rfl, hp', hB'⟩
                obtain ⟨A0, c0, rfl, _, _⟩ := list_form hp'
                have HO := hid (rel_low (q := listR partR) hp' (show w22.heap.size ≤ W.heap.size by omega))
                have HB' := hid hB'
                clear hp' hB'
                unfold tval copyT
                dsimp only
                go_wp2_with fail
                exact ⟨_, ⟨rfl, rfl, rfl, rfl, rfl, rfl, rfl, rfl, rfl, rfl, rfl, rfl, rfl⟩, HB'.out, _, _, _, rfl, HO.out⟩
              · obtain ⟨A4, n4, c4, e4, h4⟩ := hd 4 (by decide) (by kernel_rfl)
                have hF := FL.lits (e := 69) (r := termR) (w := W) (b0 := w22.heap.size) (base := w22.heap.size) (css := [[.int .i64 0, .int .i64 0, .int .i64 21, .int .i64 0, .int .i64 0, .slice A4 n4 c4]]) (xs := [copyT 0 0]) (cells := #[.int .i64 0, .int .i64 0, .int .i64 21, .int .i64 0, .int .i64 0, .slice A4 n4 c4]) ⟨⟨_, rfl, ⟨(okI (by omega) : I64 0), (okI (by omega) : I64 0), (okI (by omega) : I64 21), (okI (by omega) : I64 0), (okI (by omega) : I64 0)⟩, h4⟩, trivial⟩ rfl (by omega) (by unfold maxLen; simp)
                have HF := hid (hF.rel (Nat.le_refl _))
                clear hF h4
                unfold copyT at e4
                dsimp only at e4
                obtain rfl := (Option.some.inj ho).symm
                refine ⟨rfl, ?_⟩
                unfold puts
                simp only [List.foldl_cons, List.foldl_nil]
                rw [e4]
                go_simp
                go_wp2_with fail
                exact ⟨_, ⟨rfl, rfl, e4.symm, rfl, rfl, rfl, rfl, rfl, rfl, rfl, rfl, rfl, rfl⟩, (Below.refl _ W).alloc (Nat.le_refl _) _, _, _, _, rfl, HF.out⟩
              · obtain ⟨A3, n3, c3, e3, h3⟩ := hd 3 (by decide) (by kernel_rfl)
                obtain ⟨A5, n5, c5, e5, h5⟩ := hd 5 (by decide) (by kernel_rfl)
                have H3 := hid h3
                have H5 := hid h5
                clear h3 h5
                obtain rfl := (Option.some.inj ho).symm
                refine ⟨rfl, ?_⟩
                unfold puts
                simp only [List.foldl_cons, List.foldl_nil]
                rw [e3, e5]
                go_simp
                go_wp2_with fail
                exact ⟨_, ⟨rfl, e3.symm, rfl, e5.symm, rfl, rfl, rfl, rfl, rfl, rfl, rfl, rfl, rfl⟩, Below.refl _ W, _, _, _, _, _, _, rfl, H3.out, H5.out⟩
              · obtain rfl := (Option.some.inj ho).symm
                refine ⟨rfl, ?_⟩
                unfold puts
                simp only [List.foldl_cons, List.foldl_nil]
                go_simp
                go_wp2_with fail
                refine (HPC.out W).mono ?_
                rintro e W' ⟨u, rfl, ho', hB'⟩
                obtain ⟨A0, c0, rfl, _, _⟩ := list_form ho'.rel
                have HO := hid (own_fresh (base := w22.heap.size) ho' (by omega))
                have HB' := hid hB'
                clear ho' hB'
                go_wp2_with fail
                exact ⟨_, ⟨rfl, rfl, rfl, rfl, rfl, rfl, rfl, rfl, rfl, rfl, rfl, rfl, rfl⟩, HB'.out, _, _, _, rfl, HO.out⟩
              · obtain rfl := (Option.some.inj ho).symm
                refine ⟨rfl, ?_⟩
                unfold puts
                simp only [List.foldl_cons, List.foldl_nil]
                go_simp
                go_wp2_with fail
                refine (HHC.out W).mono ?_
                rintro e W' ⟨u, rfl, ho', hB'⟩
                obtain ⟨A0, c0, rfl, _, _⟩ := list_form ho'.rel
                have HO := hid (own_fresh (base := w22.heap.size) ho' (by omega))
                have HB' := hid hB'
                clear ho' hB'
                go_wp2_with fail
                exact ⟨_, ⟨rfl, rfl, rfl, rfl, rfl, rfl, rfl, rfl, rfl, rfl, rfl, rfl, rfl⟩, HB'.out, _, _, _, rfl, HO.out⟩
              · obtain ⟨A8, n8, c8, e8, h8⟩ := hd 8 (by decide) (by kernel_rfl)
                obtain ⟨A10, n10, c10, e10, h10⟩ := hd 10 (by decide) (by kernel_rfl)
                have hF := FL.lits (e := 76) (r := spansR) (w := W) (b0 := w22.heap.size) (base := w22.heap.size) (css := [[.slice A8 n8 c8], [.slice A10 n10 c10]]) (xs := [pctP, hexP]) (cells := #[.slice A8 n8 c8, .slice A10 n10 c10]) ⟨h8, h10, trivial⟩ rfl (by omega) (by unfold maxLen; simp)
                have HF := hid (hF.rel (Nat.le_refl _))
                clear hF h8 h10
                obtain rfl := (Option.some.inj ho).symm
                refine ⟨rfl, ?_⟩
                unfold puts
                simp only [List.foldl_cons, List.foldl_nil]
                rw [e8, e10]
                go_simp
                go_wp2_with fail
                exact ⟨_, ⟨rfl, rfl, rfl, rfl, rfl, e8.symm, e10.symm, rfl, rfl, rfl, rfl, rfl, rfl⟩, (Below.refl _ W).alloc (Nat.le_refl _) _, _, _, _, rfl, HF.out⟩
              · obtain rfl := (Option.some.inj ho).symm
                refine ⟨rfl, ?_⟩
                unfold puts
                simp only [List.foldl_cons, List.foldl_nil]
                go_simp
                go_wp2_with fail
                refine (HCP.out 0 W (okI (by omega))).mono ?_
                rintro e W' ⟨v, rfl, hp', hB'⟩
                obtain ⟨A0, c0, rfl, _, _⟩ := list_form hp'
                have HO := hid (rel_low (q := listR partR) hp' (show w22.heap.size ≤ W.heap.size by omega))
                have HB' := hid hB'
                clear hp' hB'
                unfold tval copyT
                dsimp only
                go_wp2_with fail
                exact ⟨_, ⟨rfl, rfl, rfl, rfl, rfl, rfl, rfl, rfl, rfl, rfl, rfl, rfl, rfl⟩, HB'.out, _, _, _, rfl, HO.out⟩
              · obtain rfl := (Option.some.inj ho).symm
                refine ⟨rfl, ?_⟩
                unfold puts
                simp only [List.foldl_cons, List.foldl_nil]
                go_simp
                go_wp2_with fail
                refine (HCP.out 1 W (okI (by omega))).mono ?_
                rintro e W' ⟨v, rfl, hp', hB'⟩
                obtain ⟨A0, c0, rfl, _, _⟩ := list_form hp'
                have HO := hid (rel_low (q := listR partR) hp' (show w22.heap.size ≤ W.heap.size by omega))
                have HB' := hid hB'
                clear hp' hB'
                unfold tval copyT
                dsimp only
                go_wp2_with fail
                exact ⟨_, ⟨rfl, rfl, rfl, rfl, rfl, rfl, rfl, rfl, rfl, rfl, rfl, rfl, rfl⟩, HB'.out, _, _, _, rfl, HO.out⟩
              · obtain ⟨A12, n12, c12, e12, h12⟩ := hd 12 (by decide) (by kernel_rfl)
                obtain ⟨A13, n13, c13, e13, h13⟩ := hd 13 (by decide) (by kernel_rfl)
                have hF := FL.lits (e := 69) (r := termR) (w := W) (b0 := w22.heap.size) (base := w22.heap.size) (css := [[.int .i64 0, .int .i64 0, .int .i64 21, .int .i64 0, .int .i64 0, .slice A12 n12 c12], [.int .i64 0, .int .i64 0, .int .i64 21, .int .i64 0, .int .i64 0, .slice A13 n13 c13]]) (xs := [copyT 0 0, copyT 1 0]) (cells := #[.int .i64 0, .int .i64 0, .int .i64 21, .int .i64 0, .int .i64 0, .slice A12 n12 c12, .int .i64 0, .int .i64 0, .int .i64 21, .int .i64 0, .int .i64 0, .slice A13 n13 c13]) ⟨⟨_, rfl, ⟨(okI (by omega) : I64 0), (okI (by omega) : I64 0), (okI (by omega) : I64 21), (okI (by omega) : I64 0), (okI (by omega) : I64 0)⟩, h12⟩, ⟨_, rfl, ⟨(okI (by omega) : I64 0), (okI (by omega) : I64 0), (okI (by omega) : I64 21), (okI (by omega) : I64 0), (okI (by omega) : I64 0)⟩, h13⟩, trivial⟩ rfl (by omega) (by unfold maxLen; simp)
                have HF := hid (hF.rel (Nat.le_refl _))
                clear hF h12 h13
                unfold copyT at e12 e13
                dsimp only at e12 e13
                obtain rfl := (Option.some.inj ho).symm
                refine ⟨rfl, ?_⟩
                unfold puts
                simp only [List.foldl_cons, List.foldl_nil]
                rw [e12, e13]
                go_simp
                go_wp2_with fail
                exact ⟨_, ⟨rfl, rfl, rfl, rfl, rfl, rfl, rfl, rfl, e12.symm, e13.symm, rfl, rfl, rfl⟩, (Below.refl _ W).alloc (Nat.le_refl _) _, _, _, _, rfl, HF.out⟩
              · obtain ⟨A11, n11, c11, e11, h11⟩ := hd 11 (by decide) (by kernel_rfl)
                obtain ⟨A14, n14, c14, e14, h14⟩ := hd 14 (by decide) (by kernel_rfl)
                have H11 := hid h11
                have H14 := hid h14
                clear h11 h14
                obtain rfl := (Option.some.inj ho).symm
                refine ⟨rfl, ?_⟩
                unfold puts
                simp only [List.foldl_cons, List.foldl_nil]
                rw [e11, e14]
                go_simp
                go_wp2_with fail
                exact ⟨_, ⟨rfl, rfl, rfl, rfl, rfl, rfl, rfl, e11.symm, rfl, rfl, e14.symm, rfl, rfl⟩, Below.refl _ W, _, _, _, _, _, _, rfl, H11.out, H14.out⟩
              · obtain ⟨A6, n6, c6, B6, m6, d6, e6, h6, g6⟩ := hd 6 (by decide) (by kernel_rfl)
                obtain ⟨A15, n15, c15, B15, m15, d15, e15, h15, g15⟩ := hd 15 (by decide) (by kernel_rfl)
                have hF := FL.lits (e := 49) (r := finalR) (w := W) (b0 := w22.heap.size) (base := w22.heap.size) (css := [[.int .i64 0, .slice none 0 0, .slice none 0 0], [.int .i64 0, .slice A6 n6 c6, .slice B6 m6 d6], [.int .i64 0, .slice A15 n15 c15, .slice B15 m15 d15]]) (xs := unurlD.finals) (cells := #[.int .i64 0, .slice none 0 0, .slice none 0 0, .int .i64 0, .slice A6 n6 c6, .slice B6 m6 d6, .int .i64 0, .slice A15 n15 c15, .slice B15 m15 d15]) ⟨⟨_, _, rfl, (okI (by omega) : I64 0), list_nil _ _ _, list_nil _ _ _⟩, ⟨_, _, rfl, (okI (by omega) : I64 0), h6, g6⟩, ⟨_, _, rfl, (okI (by omega) : I64 0), h15, g15⟩, trivial⟩ rfl (by omega) (by unfold maxLen; simp [unurlD])
                have HF := hid (hF.rel (Nat.le_refl _))
                clear hF h6 g6 h15 g15
                obtain rfl := (Option.some.inj ho).symm
                refine ⟨rfl, ?_⟩
                unfold puts
                simp only [List.foldl_cons, List.foldl_nil]
                rw [e6, e15]
                go_simp
                go_wp2_with fail
                exact ⟨_, ⟨rfl, rfl, rfl, rfl, e6.symm, rfl, rfl, rfl, rfl, rfl, rfl, e15.symm, rfl⟩, (Below.refl _ W).alloc (Nat.le_refl _) _, _, _, _, rfl, HF.out⟩
            · intro val W hBW hall
              obtain ⟨_, _, _, e2', _⟩ := hall 2 (by decide)
              obtain ⟨_, _, _, e3', _⟩ := hall 3 (by decide)
              obtain ⟨_, _, _, e4', _⟩ := hall 4 (by decide)
              obtain ⟨_, _, _, e5', _⟩ := hall 5 (by decide)
              obtain ⟨_, _, _, _, _, _, e6', _⟩ := hall 6 (by decide)
              obtain ⟨_, _, _, e8', _⟩ := hall 8 (by decide)
              obtain ⟨_, _, _, e10', _⟩ := hall 10 (by decide)
              obtain ⟨_, _, _, e11', _⟩ := hall 11 (by decide)
              obtain ⟨_, _, _, e12', _⟩ := hall 12 (by decide)
              obtain ⟨_, _, _, e13', _⟩ := hall 13 (by decide)
              obtain ⟨_, _, _, e14', _⟩ := hall 14 (by decide)
              obtain ⟨_, _, _, _, _, _, e15', _⟩ := hall 15 (by decide)
              obtain ⟨Af, nf, cf, e16', hf⟩ := hall 16 (by decide)
              have Hf := hid hf
              clear hall hf
              unfold puts
              simp only [List.foldl_cons, List.foldl_nil]
              rw [e2', e3', e4', e5', e6', e8', e10', e11', e12', e13', e14', e15', e16']
              go_simp
              have hBW2 : Below w22.heap.size w22 W := ⟨hBW.os, hBW.tape, hBW.output, hBW.size, hBW.block⟩
              have hsW := hBW2.size
              have hDW := (hBW2.block _ (by omega)).trans hDt
              have hZW : W.heap[w.heap.size]? = some (.cells #[.int .i64 0, .int .i64 0, .int .i64 0, .int .i64 0, .slice none 0 0, .slice none 0 0] 27) := by
                rw [hBW2.block _ (by have := HN.out; omega), Hkp.out _ (by have := HN.out; omega) (by have := HN.out; omega)]
                exact HW.out.1
              have HFW := hid (HFL.out.later hBW2)
              have HBW := hid (HBp.out.trans (hBW2.mono HBp.out.size))
              have hSW : ∃ x, W = Wc x := HSB.out W hBW
              refine anyL_seg 17 1 (by kernel_rfl) (fun _ _ _ _ _ h => h) hSW (f := 1) rfl (by kernel_rfl) (by kernel_rfl) ?_
              simp only [List.drop_succ_cons, List.drop_zero, List.take_succ_cons, List.take_zero]
              repeat go_big_quiet_step (fail)
              refine wpQuiet_nil ?_
              obtain ⟨f0, f1, f2, f3, f4, f5⟩ := fro6 hDW
              obtain ⟨m0, m1, m2, m3, m4, m5⟩ := six9 hDW
              refine anyL_act (i := 18) (by kernel_rfl) rfl rfl ?_
              intro K hK
              go_wp2_with fail
              refine hK.out _ _ (fun h => absurd rfl h) ?_
              clear hK K
              refine anyL_done (by kernel_rfl) ?_ 0
              obtain ⟨wx, hwx⟩ : ∃ x, x = W.setCell ⟨D, 5, none⟩ (.slice Af nf cf) := ⟨_, rfl⟩
              rw [← hwx]
              have hDx : wx.heap[D]? = some (.cells #[.int .i64 1, .int .i64 1, .int .i64 1, .int .i64 0, .slice Ar L.length cr, .slice Af nf cf] 27) := by rw [hwx]; exact heap_setCell_same W D 5 _ _ _ hDW
              have hox : ∀ k, k ≠ D → wx.heap[k]? = W.heap[k]? := fun k hk => by rw [hwx, heap_setCell_other _ _ _ _ (by simpa using hk)]
              have hsx : wx.heap.size = W.heap.size := by rw [hwx]; simp
              have hBx : Below w.heap.size w wx := by rw [hwx]; exact HBW.out.setCell (p := ⟨D, 5, none⟩) (by have := HN.out; simp only; omega) _
              have hZx := (hox w.heap.size (by have := HN.out; omega)).trans hZW
              have HSX := hid hsx
              clear hwx hSW f0 f1 f2 f3 f4 f5 m0 m1 m2 m3 m4 m5 d0 d1 d2 d3 d4 d5 ab0 hb0 WS HWc Hi0 hne hS0 HSB HNX HKW hsx i0 Wc ι
              obtain ⟨z0, z1, z2, z3, z4, z5⟩ := six9 hZx
              obtain ⟨f0, f1, f2, f3, f4, f5⟩ := fro6 hZx
              obtain ⟨d0, d1, d2, d3, d4, d5⟩ := six9 hDx
              have hDxl := heapLtM hDx
              have hZxl := heapLtM hZx
              go_wp2_with fail
              obtain ⟨ws, hws⟩ : ∃ ws, ws = setS wx w.heap.size (.int .i64 1) (.int .i64 1) (.int .i64 1) (.int .i64 0) (.slice Ar L.length cr) (.slice Af nf cf) := ⟨_, rfl⟩
              have hXs : ws.heap[w.heap.size]? = some (.cells #[.int .i64 1, .int .i64 1, .int .i64 1, .int .i64 0, .slice Ar L.length cr, .slice Af nf cf] 27) := by rw [hws]; exact setS_heap hZx _ _ _ _ _ _
              have hBs : Below w.heap.size w ws := by rw [hws]; exact hBx.set6 (Nat.le_refl _) _ _ _ _ _ _
              have hss : ws.heap.size = W.heap.size := by rw [hws, setS_size]; exact HSX.out
              have hoth : ∀ k, k ≠ w.heap.size → k ≠ D → ws.heap[k]? = W.heap[k]? := fun k h1 h2 => by rw [hws, setS_other _ _ _ _ _ _ _ _ _ h1]; exact hox k h2
              unfold setS at hws
              rw [← hws]
              clear hws z0 z1 z2 z3 z4 z5 f0 f1 f2 f3 f4 f5 d0 d1 d2 d3 d4 d5
              obtain ⟨y0, y1, y2, y3, y4, y5⟩ := six9 hXs
              have hn := HN.out
              have hFs := HFW.out.keep (w' := ws) (Nat.le_refl _) (by omega) (fun g h1 _ => hoth g (by omega) (by omega))
              have hrs := rel_low (q := listR ruleR) (b0 := w.heap.size) (hFs.rel (Nat.le_refl _)) (by omega)
              rw [HLn.out] at hrs
              have hfs : (listR finalR).rel ws (Fresh w.heap.size ws) [.slice Af nf cf] unurlD.finals := (listR finalR).mono (fun p hp => World.cell?_of_block (hoth _ (by have := hp.1; omega) (by have := hp.1; omega))) (fun b hb => ⟨by have := hb.1; omega, by have := hb.2; omega⟩) Hf.out
              exact bodyPost_ret (v := .agg #[.int .i64 1, .int .i64 1, .int .i64 1, .int .i64 0, .slice Ar L.length cr, .slice Af nf cf]) (by simp [results, Tryz.results35, go_sem, y0, y1, y2, y3, y4, y5]) rfl ⟨_, _, rfl, by rw [HLn.out]; exact hrs, hfs, hBs⟩

end Go.Proofs.YthfcbbdghggefaaGreat
