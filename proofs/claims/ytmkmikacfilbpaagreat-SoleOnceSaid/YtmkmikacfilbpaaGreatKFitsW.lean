/-
  The program's term.inner, where the term's numbers and parts are right and the guards have symbols. The program's term.Image and term.Fits, where the guards have symbols.
-/
import Derived.Test.YtmkmikacfilbpaaGreatKVals
namespace Go.Proofs.YtmkmikacfilbpaaGreat
open Go.Proofs Go.Um Go.RowKit
set_option maxHeartbeats 1000000 in
set_option maxRecDepth 100000 in
theorem symbols_calls (w : World) : Calls Tryz.prog 174 #[] w fun e w' => ∃ u, e = .returned u ∧ OwnS 64 w' w.heap.size u symL ∧ Below w.heap.size w w' := by
  have hn := own_new (w := w) (e := 64) (x := ⟨0, 1114111⟩) ⟨⟨by simp, by simp⟩, ⟨by simp, by simp⟩⟩
  go_enter Tryz.func174, Tryz.ntmps174
  go_wp2_with fail
  go_ret
  exact ⟨_, rfl, hn, (Below.refl _ w).alloc (Nat.le_refl _) _⟩
theorem infoSS : (Tryz.prog.info? 65).map (fun i => (i.zero, i.size, i.bytes)) = some (some (.slice none 0 0), 1, 24) := by kernel_rfl
/-- block g holds so many slices; the first k read as the first k of L. -/
def SetRow (w : World) (g n k : Nat) (L : List (List Span)) : Prop :=
  ∃ vals : List Value, vals.length = n ∧ w.heap[g]? = some (.cells vals.toArray 65) ∧ ∀ (j : Nat) (x : List Span), j < k → L[j]? = some x → ∃ v, vals[j]? = some v ∧ spansR.rel w (fun b => b ≠ g ∧ b < w.heap.size) [v] x
theorem SetRow.below {w w' : World} {g n k : Nat} {L : List (List Span)} (h : SetRow w g n k L) (hB : Below w.heap.size w w') : SetRow w' g n k L := by
  obtain ⟨vals, h1, h2, h3⟩ := h
  refine ⟨vals, h1, (hB.block g (heap_lt h2)).trans h2, fun j x hj hx => ?_⟩
  obtain ⟨v, h4, h5⟩ := h3 j x hj hx
  exact ⟨v, h4, spansR.mono (fun p hp => hB.cell hp.2) (fun b hb => ⟨hb.1, Nat.lt_of_lt_of_le hb.2 hB.size⟩) h5⟩
theorem SetRow.put {w : World} {g n k : Nat} {L : List (List Span)} {x : List Span} {u : Value} (h : SetRow w g n k L) (hk : k < n) (hx : L[k]? = some x) (hu : spansR.rel w (fun b => b ≠ g ∧ b < w.heap.size) [u] x) : SetRow (w.setCell ⟨g, k, none⟩ u) g n (k + 1) L := by
  obtain ⟨vals, h1, h2, h3⟩ := h
  have hh := heap_setCell_same w g k vals.toArray 65 u h2
  refine ⟨vals.set k u, by simpa using h1, by rw [hh]; simp, fun j y hj hy => ?_⟩
  have hm : ∀ {z : List Span} {v : Value}, spansR.rel w (fun b => b ≠ g ∧ b < w.heap.size) [v] z → spansR.rel (w.setCell ⟨g, k, none⟩ u) (fun b => b ≠ g ∧ b < (w.setCell ⟨g, k, none⟩ u).heap.size) [v] z := fun hz =>
    spansR.mono (fun p hp => cell_of_heap_eq (heap_setCell_other w ⟨g, k, none⟩ p.block u hp.1)) (fun b hb => ⟨hb.1, by simpa using hb.2⟩) hz
  by_cases hjk : j = k
  · subst hjk
    rw [hx] at hy
    cases hy
    exact ⟨u, List.getElem?_set_self (by omega), hm hu⟩
  · obtain ⟨v, h4, h5⟩ := h3 j y (by omega) hy
    exact ⟨v, by rw [List.getElem?_set_ne (fun e => hjk e.symm)]; exact h4, hm h5⟩
theorem SetRow.rel {w : World} {g n : Nat} {L : List (List Span)} (h : SetRow w g n n L) (hn : n = L.length) (hm : n ≤ maxLen) : (listR spansR).rel w (upto w.heap.size) [.slice (some ⟨g, 0, none⟩) n n] L := by
  obtain ⟨vals, h1, h2, h3⟩ := h
  refine ⟨_, _, _, rfl, hn, Nat.le_refl _, hm, .inr ⟨g, 0, rfl, heap_lt h2, fun i x hx => ?_⟩⟩
  have hi : i < n := by have := (List.getElem?_eq_some_iff.1 hx).1; omega
  obtain ⟨v, h4, h5⟩ := h3 i x hi hx
  refine ⟨[v], spansR.mono (fun _ _ => rfl) (fun b hb => hb.2) h5, fun j u hu => ?_⟩
  cases j with
  | zero =>
    simp at hu
    subst hu
    have hw : spansR.width = 1 := rfl
    rw [hw, show 0 + i * 1 + 0 = i by omega]
    rw [cell_of_row w g i vals.toArray _ _ h2]
    simpa using h4
  | succ j => simp at hu
set_option maxHeartbeats 4000000 in
set_option maxRecDepth 100000 in
theorem inner_calls (t : Term) (v u : Value) (gs : List (List Span)) (w : World) (h : (listR partR).rel w (upto w.heap.size) [v] t.parts) (hs : (listR spansR).rel w (upto w.heap.size) [u] gs) (hn : numbersF t = true)
    (hr : ∀ p ∈ t.parts, rightP p gs.length = true) (hg : goodG gs) (hgl : ∀ g ∈ gs, g.length ≤ 90000) :
    Calls Tryz.prog 165 #[tval t v, u] w fun e w' => ∃ z, e = .returned (.tuple #[z, .bool (okV (valuesF t gs))]) ∧ OwnS 64 w' w.heap.size z (valuesF t gs) ∧ Below w.heap.size w w' := by
  obtain ⟨A, c, rfl, hc, hm⟩ := list_form h
  obtain ⟨A2, c2, rfl, hc2, hm2⟩ := list_form hs
  unfold maxLen at hm hm2
  obtain ⟨iss, his0, hisz, his1, his2⟩ := info_parts infoSS
  have HN := hid fun W (hW : Below w.heap.size w W) => numbers_calls t (.slice A t.parts.length c) W ((listR partR).below h hW hW.size)
  rw [hn] at HN
  have HV := hid fun W U (hW : Below w.heap.size w W) (hU : (listR spansR).rel W (upto W.heap.size) [U] gs) => values_calls t (.slice A t.parts.length c) U gs W ((listR partR).below h hW hW.size) hU hn hr hg.1 (fun g hgm => ⟨(hg.2 g hgm).2.1, by have := hgl g hgm; omega⟩)
  have hmk : ∀ W : World, (Instr.makeSlice 53 (.int .i64 gs.length) (.int .i64 gs.length)).run Tryz.prog W = .ok (.slice (some ⟨W.heap.size, 0, none⟩) gs.length gs.length) (W.alloc (.cells (madeCells (Value.slice none 0 0).cells (gs.length * iss.size)) 65)) :=
    fun W => make_rowN (P := Tryz.prog) 53 65 iss (.slice none 0 0) Tryz.underlying53 his0 hisz .i64 .i64 gs.length gs.length (Nat.le_refl _) (by rw [his2]; have := hg.1; omega) (by have := hg.1; omega) W
  rw [his1] at hmk
  unfold tval at HN HV ⊢
  obtain ⟨tb, td, tk, tu, ts, ps⟩ := t
  dsimp only at HN HV h hr hc ⊢
  have h4 := hg.1
  have h4' : ¬ (4 : Int) < gs.length := by omega
  go_enter Tryz.func165, Tryz.ntmps165
  go_wp2_with fail
  refine (HN.out _ ((Below.refl _ w).alloc (Nat.le_refl _) _)).mono ?_
  rintro e w1 ⟨rfl, hB1⟩
  have hBw1 := ((Below.refl w.heap.size w).alloc (Nat.le_refl _) _).trans (hB1.mono (by simp))
  rw [World.size_alloc] at hB1
  have hbx : w1.heap[w.heap.size]? = some (.cells #[.int .i64 tb, .int .i64 td, .int .i64 tk, .int .i64 tu, .int .i64 ts, .slice A ps.length c] 90) := (hB1.block w.heap.size (by omega)).trans (heap_alloc_new w _)
  have hlt1 := heap_lt hbx
  have hset0 : SetRow (w1.alloc (.cells (madeCells #[.slice none 0 0] gs.length) 65)) w1.heap.size gs.length 0 gs := by
    refine ⟨List.replicate gs.length (.slice none 0 0), by simp, ?_, fun j x hj => absurd hj (by omega)⟩
    rw [heap_alloc_new, ← toList_madeCells_one]
  have hBm : Below w1.heap.size w1 (w1.alloc (.cells (madeCells #[.slice none 0 0] gs.length) 65)) := (Below.refl _ w1).alloc (Nat.le_refl _) _
  go_wp2_with fail
  generalize w1.alloc (.cells (madeCells #[.slice none 0 0] gs.length) 65) = wm at *
  go_loopw [25, 6] (fun vi vb wr => ∃ k : Nat, k ≤ gs.length ∧ vi = .int .i64 k ∧ vb = .bool true ∧ SetRow wr w1.heap.size gs.length k gs ∧ Below w1.heap.size w1 wr) (fun vi _ _ => gs.length - (intOf vi).toNat)
  case atStart => exact ⟨0, Nat.zero_le _, rfl, rfl, hset0, hBm⟩
  case round =>
    obtain ⟨k, hk, rfl, rfl, hset, hB⟩ := hrel
    obtain ⟨wo, hwo⟩ : ∃ wo, wo = wr := ⟨_, rfl⟩
    subst hwo
    have hBw : Below w.heap.size w wo := hBw1.trans (hB.mono hBw1.size)
    by_cases hlt : k < gs.length
    · obtain ⟨g, hgk⟩ := at_lt hlt
      have hlt' : (k : Int) < gs.length := by omega
      have hgg := hg.2 g (List.mem_of_getElem? hgk)
      have hgl2 := hgl g (List.mem_of_getElem? hgk)
      have hsr := (listR spansR).mono (below_cells hBw) (fun _ h => h) hs
      obtain ⟨gb, go, gv, rfl, hgbS, hgr, hcg⟩ := list_at1 rfl hsr hgk
      obtain ⟨A10, c10, rfl, hc10, hm10⟩ := list_form hgr
      have hmeet : meetF g symL = g := meetF_sym hgg.1 hgg.2.1
      have HM := hid fun (W : World) (U : Value) (hW : Below wo.heap.size wo W) (hU : OwnS 64 W wo.heap.size U symL) => Meet_calls g symL (.slice A10 g.length c10) U W (spansR.mono (fun p hp => hW.cell (Nat.lt_of_lt_of_le hp hBw.size)) (fun b hb => Nat.lt_of_lt_of_le hb (Nat.le_trans hBw.size hW.size)) hgr) hU.rel (by omega) (by simp [symL])
      simp only [hmeet] at HM
      have hg0 : (0 : Int) < g.length := by have := List.length_pos_iff.2 hgg.2.2; omega
      have HSET := hid hset
      have HGK := hid hgk
      have hzw : w1.heap.size < wo.heap.size := by obtain ⟨vals, _, h2, _⟩ := hset; exact heap_lt h2
      clear hsr hgr hset hmeet hgk
      go_wp2_with fail
      refine (symbols_calls _).mono ?_
      rintro e w2 ⟨U, rfl, hoU, hB2⟩
      have HM2 := hid (HM.out w2 U hB2 hoU)
      obtain ⟨A11, c11, rfl, hc11, hm11⟩ := list_form hoU.rel
      clear hoU
      go_wp2_with fail
      refine HM2.out.mono ?_
      rintro e w3 ⟨x3, rfl, ho3, hB3⟩
      have hB23 := hB2.trans (hB3.mono hB2.size)
      have hset3 := HSET.out.below hB23
      have hput := hset3.put hlt HGK.out (u := x3) (spansR.mono (fun _ _ => rfl) (fun b hb => hb) (ho3.rel_in fun b hb => ⟨by have := (ho3.1.lt b hb).1; have := hB2.size; omega, (ho3.1.lt b hb).2⟩))
      obtain ⟨A12, c12, rfl, hc12, hm12⟩ := list_form ho3.rel
      have hfz : w3.frozen? ⟨w1.heap.size, k, none⟩ = false := by obtain ⟨vals, _, h2, _⟩ := hset3; exact frozen_of_row w3 _ k _ _ h2
      have hcz : ∃ z, w3.cell? ⟨w1.heap.size, k, none⟩ = some z := by
        obtain ⟨vals, h1, h2, _⟩ := hset3
        rw [cell_of_row w3 w1.heap.size k vals.toArray _ _ h2]
        exact ⟨vals[k]'(by omega), by simp⟩
      obtain ⟨z3, hcz3⟩ := hcz
      have HPUT := hid hput
      have hB3w : Below w1.heap.size w1 w3 := hB.trans (hB23.mono hB.size)
      clear ho3 hset3 hput
      go_wp2_with fail
      refine ⟨⟨k + 1, by omega, by push_cast; rfl, congrArg Value.bool (decide_eq_true (by omega)), HPUT.out, hB3w.setCell (p := ⟨w1.heap.size, k, none⟩) (Nat.le_refl _) _⟩, ?_⟩
      simp [intOf]; omega
    · obtain rfl : k = gs.length := by omega
      have HSET := hid hset
      clear hset
      have hbxo := (hB.block w.heap.size hlt1).trans hbx
      have hpc5 : wo.cell? ⟨w.heap.size, 5, none⟩ = some (.slice A ps.length c) := cell_of_row _ _ 5 _ _ _ hbxo
      go_wp2_with fail
      go_loopw [49] (fun vi wr => ∃ k : Nat, k ≤ ps.length ∧ vi = .int .i64 k ∧ Below wo.heap.size wo wr) (fun vi _ => ps.length - (intOf vi).toNat)
      case atStart => exact ⟨0, Nat.zero_le _, rfl, Below.refl _ _⟩
      case round =>
        obtain ⟨j, hj, rfl, hBj⟩ := hrel
        obtain ⟨wi, hwi⟩ : ∃ wi, wi = wr := ⟨_, rfl⟩
        subst hwi
        have hBwi : Below w.heap.size w wi := hBw.trans (hBj.mono hBw.size)
        by_cases hjl : j < ps.length
        · obtain ⟨p, hp⟩ := at_lt hjl
          have hjl' : (j : Int) < ps.length := by omega
          have hrj := (listR partR).mono (below_cells hBwi) (fun _ h => h) h
          obtain ⟨pb, po, rfl, hbb, p1, p2, p3, p4, hok⟩ := part_at hrj hp
          have hbs : pb < wi.heap.size := Nat.lt_of_lt_of_le hbb hBwi.size
          have HR := hid fun W => Right_calls p gs.length W
          rw [hr p (List.mem_of_getElem? hp)] at HR
          unfold pval at HR
          clear hp hrj
          go_wp2_with fail
          refine (HR.out _).mono ?_
          rintro e w5 ⟨rfl, hB5⟩
          go_wp2_with fail
          refine ⟨⟨j + 1, by omega, by push_cast; rfl, (hBj.alloc hBj.size _).trans (hB5.mono (by simp; have := hBj.size; omega))⟩, ?_⟩
          simp [intOf]; omega
        · obtain rfl : j = ps.length := by omega
          have hbxi := (hBj.block w.heap.size (Nat.lt_of_lt_of_le hlt1 hB.size)).trans hbxo
          have e0 := cell_of_row _ _ 0 _ _ _ hbxi
          have e1 := cell_of_row _ _ 1 _ _ _ hbxi
          have e2 := cell_of_row _ _ 2 _ _ _ hbxi
          have e3 := cell_of_row _ _ 3 _ _ _ hbxi
          have e4 := cell_of_row _ _ 4 _ _ _ hbxi
          have e5 := cell_of_row _ _ 5 _ _ _ hbxi
          simp at e0 e1 e2 e3 e4 e5
          have HV2 := hid (HV.out wi (.slice (some ⟨w1.heap.size, 0, none⟩) gs.length gs.length) hBwi ((HSET.out.below hBj).rel rfl (by unfold maxLen; omega)))
          go_wp2_with fail
          refine HV2.out.mono ?_
          rintro e w6 ⟨z, rfl, ho6, hB6⟩
          obtain ⟨A13, c13, rfl, hc13, hm13⟩ := list_form ho6.rel
          go_wp2_with fail
          go_ret2
          exact ⟨_, rfl, ho6.base hBwi.size, hBwi.trans (hB6.mono hBwi.size)⟩
end Go.Proofs.YtmkmikacfilbpaaGreat
namespace Go.Proofs.YtmkmikacfilbpaaGreat
open Go.Proofs Go.Um Go.RowKit
set_option maxHeartbeats 1000000 in
set_option maxRecDepth 100000 in
theorem tImage_calls (t : Term) (v u : Value) (gs : List (List Span)) (w : World) (h : (listR partR).rel w (upto w.heap.size) [v] t.parts) (hs : (listR spansR).rel w (upto w.heap.size) [u] gs) (hn : numbersF t = true)
    (hr : ∀ p ∈ t.parts, rightP p gs.length = true) (hg : goodG gs) (hgl : ∀ g ∈ gs, g.length ≤ 90000) :
    Calls Tryz.prog 148 #[tval t v, u] w fun e w' => ∃ z, e = .returned (.tuple #[z, .bool (okV (valuesF t gs))]) ∧ (okV (valuesF t gs) = true → OwnS 64 w' w.heap.size z (imageT t gs)) ∧ (∃ A n c, z = .slice A n c) ∧ Below w.heap.size w w' := by
  obtain ⟨A, c, rfl, hc, hm⟩ := list_form h
  obtain ⟨A2, c2, rfl, hc2, hm2⟩ := list_form hs
  obtain ⟨n1, n2, n3, n4, n5⟩ := numbersF_iff.1 hn
  have hbase := smallN_iff.1 n1
  have HI := hid fun W (hW : Below w.heap.size w W) => inner_calls t (.slice A t.parts.length c) (.slice A2 gs.length c2) gs W ((listR partR).below h hW hW.size) ((listR spansR).below hs hW hW.size) hn hr hg hgl
  have hpl := valuesF_plain' n2 gs
  have hIT : Hid (imageT t gs = moveF (imgF (outerT t) (valuesF t gs)) t.base) := hid rfl
  have hv0 := fun hk => (okV_iff hpl).1 hk
  obtain ⟨V, hV⟩ : ∃ V, V = valuesF t gs := ⟨_, rfl⟩
  rw [← hV] at hIT hpl
  simp only [← hV] at HI hv0
  have HV := hid hV
  have hob : bitsF (outerT t) = true := n3
  obtain ⟨OT, hOT⟩ : ∃ OT, OT = outerT t := ⟨_, rfl⟩
  rw [← hOT] at hob hIT
  have HOU : Hid (∀ W, Calls Tryz.prog 118 #[tval t (.slice A t.parts.length c)] W fun e w' => e = .returned (pval OT) ∧ Below W.heap.size W w') := hid fun W => by rw [hOT]; exact outer_calls t _ W
  clear hOT
  clear hV h hs hgl hg hr hn n1 n2 n3 n4 n5
  unfold tval at HI HOU ⊢
  obtain ⟨tb, td, tk, tu, ts, ps⟩ := t
  dsimp only at HI HOU hbase hIT hc ⊢
  go_enter Tryz.func148, Tryz.ntmps148
  go_wp2_with fail
  refine (HI.out _ ((Below.refl _ w).alloc (Nat.le_refl _) _)).mono ?_
  rintro e w1 ⟨z, rfl, ho, hB1⟩
  have hBw1 := ((Below.refl w.heap.size w).alloc (Nat.le_refl _) _).trans (hB1.mono (by simp))
  rw [World.size_alloc] at hB1 ho
  have hbx : w1.heap[w.heap.size]? = some (.cells #[.int .i64 tb, .int .i64 td, .int .i64 tk, .int .i64 tu, .int .i64 ts, .slice A ps.length c] 90) := (hB1.block w.heap.size (by omega)).trans (heap_alloc_new w _)
  have hlt1 := heap_lt hbx
  obtain ⟨A3, c3, rfl, hc3, hm3⟩ := list_form ho.rel
  cases hk : okV V
  · have HK : Hid (okV (valuesF ⟨tb, td, tk, tu, ts, ps⟩ gs) = false) := hid (by rw [← HV.out]; exact hk)
    clear ho hv0
    go_wp2_with fail
    go_ret2
    exact ⟨.slice none 0 0, (by rw [HK.out]; rfl), fun h => (by rw [HK.out] at h; cases h), ⟨_, _, _, rfl⟩, hBw1⟩
  · have HK : Hid (okV (valuesF ⟨tb, td, tk, tu, ts, ps⟩ gs) = true) := hid (by rw [← HV.out]; exact hk)
    have hv1 := hv0 hk
    have hVl : V.length ≤ 2000000 := by
      have := plain_len (n := 1114111) hpl (mem_inB (plain_ne hpl) fun z hz => by have := hv1.2 z hz; omega)
      omega
    have hV0 : ((V.length : Int) == 0) = false := beq_f (by have := List.length_pos_iff.2 hv1.1; omega)
    have HIM := hid fun W (hW : Below w1.heap.size w1 W) => Image_calls OT V (.slice A3 V.length c3) W (spansR.below ho.rel hW hW.size) (by omega) hob
    have him : inB 67108864 (imgF OT V) := mem_inB (plain_ne (imgF_plain _ _)) fun z hz => by
      obtain ⟨x, _, rfl⟩ := (mem_imgF hob).1 hz
      have := valF_nonneg OT x
      have := valF_le hob x
      omega
    have hil := plain_len (n := 67108864) (imgF_plain OT V) him
    have HMV := hid fun (W : World) (z : Value) (hz : OwnS 64 W w1.heap.size z (imgF OT V)) => Move_calls (imgF OT V) tb z W hz.rel (by omega) (by omega)
    clear ho hv0 hv1 hk him hil
    go_wp2_with fail
    obtain ⟨ι, W, ⟨i0, hi0⟩, hW, Wsur⟩ := ext_class w1.drew
    have hne : Nonempty ι := ⟨i0⟩
    have WS := hid Wsur; clear Wsur
    have HW := hid hW; clear hW
    have Hi0 := hid hi0; clear hi0
    refine region_anyL (S := fun w' => ∃ i, w' = W i) (last := 9) (by kernel_rfl) ?_
    have hw1d : w.heap.size < w1.drew.heap.size := hlt1
    have MB : ∀ i, (W i).heap[w.heap.size]? = some (.cells #[.int .i64 tb, .int .i64 td, .int .i64 tk, .int .i64 tu, .int .i64 ts, .slice A ps.length c] 90) := fun i => ((HW.out i).block w.heap.size hw1d).trans hbx
    have M0 : ∀ i, (W i).cell? ⟨w.heap.size, 0, none⟩ = some (.int .i64 tb) := fun i => cell_of_row _ _ 0 _ _ _ (MB i)
    have M1 : ∀ i, (W i).cell? ⟨w.heap.size, 1, none⟩ = some (.int .i64 td) := fun i => cell_of_row _ _ 1 _ _ _ (MB i)
    have M2 : ∀ i, (W i).cell? ⟨w.heap.size, 2, none⟩ = some (.int .i64 tk) := fun i => cell_of_row _ _ 2 _ _ _ (MB i)
    have M3 : ∀ i, (W i).cell? ⟨w.heap.size, 3, none⟩ = some (.int .i64 tu) := fun i => cell_of_row _ _ 3 _ _ _ (MB i)
    have M4 : ∀ i, (W i).cell? ⟨w.heap.size, 4, none⟩ = some (.int .i64 ts) := fun i => cell_of_row _ _ 4 _ _ _ (MB i)
    have M5 : ∀ i, (W i).cell? ⟨w.heap.size, 5, none⟩ = some (.slice A ps.length c) := fun i => cell_of_row _ _ 5 _ _ _ (MB i)
    clear MB
    refine anyL_seg 0 1 (by kernel_rfl) (fun _ _ _ _ _ h => h) ⟨i0, Hi0.out.symm⟩ (f := 8) rfl (by kernel_rfl) (by kernel_rfl) ?_
    simp only [List.drop_zero, List.take_succ_cons, List.take_zero]
    repeat go_big_quiet_step (fail)
    refine wpQuiet_nil ?_
    refine anyL_seg 2 1 (by kernel_rfl) (fun _ _ _ _ _ h => h) ⟨i0, Hi0.out.symm⟩ (f := 7) rfl (by kernel_rfl) (by kernel_rfl) ?_
    simp only [List.drop_succ_cons, List.drop_zero, List.take_succ_cons, List.take_zero]
    repeat go_big_quiet_step (fail)
    refine wpQuiet_nil ?_
    refine anyL_seg 4 2 (by kernel_rfl) (fun _ _ _ _ _ h => h) ⟨i0, Hi0.out.symm⟩ (f := 5) rfl (by kernel_rfl) (by kernel_rfl) ?_
    simp only [List.drop_succ_cons, List.drop_zero, List.take_succ_cons, List.take_zero]
    repeat go_big_quiet_step (fail)
    refine wpQuiet_nil ?_
    refine anyL_act (i := 1) (by kernel_rfl) rfl rfl ?_
    intro K hK
    go_wp2_with fail
    refine (HOU.out _).mono ?_
    rintro e w4 ⟨rfl, hB4⟩
    have hS4 := WS.out i0 w4 (by rw [Hi0.out]; exact hB4)
    have hB4' : Below w1.heap.size w1 w4 := ⟨hB4.os, hB4.tape, hB4.output, hB4.size, hB4.block⟩
    clear hB4
    go_wp2_with fail
    refine hK.out _ _ (fun _ => hS4) ?_
    clear hK K
    obtain ⟨i4, hi4⟩ := hS4
    have Hi4 : Hid (W i4 = w4) := hid hi4.symm; clear hi4
    refine anyL_act (i := 3) (by kernel_rfl) rfl rfl ?_
    intro K hK
    go_wp2_with fail
    refine (HIM.out w4 hB4').mono ?_
    rintro e w5 ⟨x5, rfl, ho5, hB5⟩
    have hS5 := WS.out i4 w5 (by rw [Hi4.out]; exact hB5)
    have hB15 : Below w1.heap.size w1 w5 := hB4'.trans (hB5.mono hB4'.size)
    have HMV2 := hid (HMV.out w5 x5 (ho5.base hB4'.size))
    obtain ⟨A5, c5, rfl, hc5, hm5⟩ := list_form ho5.rel
    clear ho5
    go_wp2_with fail
    refine hK.out _ _ (fun _ => hS5) ?_
    clear hK K
    obtain ⟨i5, hi5⟩ := hS5
    have Hi5 : Hid (W i5 = w5) := hid hi5.symm; clear hi5
    refine anyL_act (i := 6) (by kernel_rfl) rfl rfl ?_
    intro K hK
    go_wp2_with fail
    refine (HMV2.out).mono ?_
    rintro e w6 ⟨x6, rfl, ho6, hB6⟩
    have hS6 := WS.out i5 w6 (by rw [Hi5.out]; exact hB6)
    have hBw6 : Below w.heap.size w w6 := hBw1.trans ((hB15.trans (hB6.mono hB15.size)).mono hBw1.size)
    replace ho6 := ho6.base (Nat.le_trans hBw1.size hB15.size)
    obtain ⟨A6, c6, rfl, hc6, hm6⟩ := list_form ho6.rel
    go_wp2_with fail
    refine hK.out _ _ (fun _ => hS6) ?_
    clear hK K
    refine anyL_seg 7 2 (by kernel_rfl) (fun _ _ _ _ _ h => h) hS6 (f := 0) rfl (by kernel_rfl) (by kernel_rfl) ?_
    simp only [List.drop_succ_cons, List.drop_zero, List.take_succ_cons, List.take_zero]
    repeat go_big_quiet_step (fail)
    refine wpQuiet_nil ?_
    refine anyL_done (by kernel_rfl) ?_ 0
    go_wp2_with fail
    go_ret2
    exact ⟨.slice A6 (moveF (imgF OT V) tb).length c6, (by rw [HK.out]; rfl), fun _ => (by rw [hIT.out]; exact ho6), ⟨_, _, _, rfl⟩, hBw6⟩
/-- does a term fit guards? -/
def fitsF (t : Term) (inn out : Int) (gs : List (List Span)) : Bool := rightF t inn out gs.length && fitsG t (domF out) gs
set_option maxHeartbeats 1000000 in
set_option maxRecDepth 100000 in
theorem Fits_calls (t : Term) (v u : Value) (inn out : Int) (gs : List (List Span)) (w : World) (h : (listR partR).rel w (upto w.heap.size) [v] t.parts) (hs : (listR spansR).rel w (upto w.heap.size) [u] gs) (hg : goodG gs) (hgl : ∀ g ∈ gs, g.length ≤ 90000) :
    Calls Tryz.prog 131 #[tval t v, .int .i64 inn, .int .i64 out, u] w fun e w' => e = .returned (.bool (fitsF t inn out gs)) ∧ Below w.heap.size w w' := by
  obtain ⟨A, c, rfl, hc, hm⟩ := list_form h
  obtain ⟨A2, c2, rfl, hc2, hm2⟩ := list_form hs
  have HR := hid fun W (hW : Below w.heap.size w W) => tRight_calls t (.slice A t.parts.length c) inn out gs.length W ((listR partR).below h hW hW.size)
  have HF : Hid (fitsF t inn out gs = (rightF t inn out gs.length && (okV (valuesF t gs) && (minusF (imageT t gs) (domF out)).isEmpty))) := hid rfl
  cases hr : rightF t inn out gs.length
  · rw [hr] at HR HF
    unfold tval at HR ⊢
    clear h hs
    obtain ⟨tb, td, tk, tu, ts, ps⟩ := t
    dsimp only at HR hc ⊢
    go_enter Tryz.func131, Tryz.ntmps131
    go_wp2_with fail
    refine (HR.out _ ((Below.refl _ w).alloc (Nat.le_refl _) _)).mono ?_
    rintro e w1 ⟨rfl, hB1⟩
    go_wp2_with fail
    go_ret
    exact ⟨by rw [HF.out]; rfl, ((Below.refl w.heap.size w).alloc (Nat.le_refl _) _).trans (hB1.mono (by simp))⟩
  · obtain ⟨r1, r2, r3, r4, r5, r6⟩ := rightF_iff.1 hr
    rw [hr] at HR HF
    have HI := hid fun W (hW : Below w.heap.size w W) => tImage_calls t (.slice A t.parts.length c) (.slice A2 gs.length c2) gs W ((listR partR).below h hW hW.size) ((listR spansR).below hs hW hW.size) r3 (fun p hp => (r4 p hp).1) hg hgl
    have himl : (imageT t gs).length ≤ 1073741824 := by
      have h1 : inB 1073741823 (imageT t gs) := by
        refine mem_inB (plain_ne (moveF_plain _ _)) fun z hz => ?_
        have hb := smallN_iff.1 (numbersF_iff.1 r3).1
        obtain ⟨_, h2⟩ := (mem_moveF (by omega)).1 hz
        obtain ⟨x, _, h3⟩ := (mem_imgF (numbersF_iff.1 r3).2.2.1).1 h2.2
        have h4 := valF_nonneg (outerT t) x
        have h5 := valF_le (numbersF_iff.1 r3).2.2.1 x
        omega
      have := plain_len (n := 1073741823) (moveF_plain _ _) h1
      exact this
    obtain ⟨IM, hIM⟩ : ∃ IM, IM = imageT t gs := ⟨_, rfl⟩
    obtain ⟨ok, hok⟩ : ∃ ok, ok = okV (valuesF t gs) := ⟨_, rfl⟩
    rw [← hIM, ← hok] at HF
    rw [← hIM] at himl
    simp only [← hIM, ← hok] at HI
    have hdl : (domF out).length < 1073741824 := by
      unfold domF; split
      · simp
      · split <;> simp
    clear h hs r1 r2 r3 r4 r5 r6 hr hIM hok hg hgl
    unfold tval at HR HI ⊢
    obtain ⟨tb, td, tk, tu, ts, ps⟩ := t
    dsimp only at HR HI hc ⊢
    go_enter Tryz.func131, Tryz.ntmps131
    go_wp2_with fail
    refine (HR.out _ ((Below.refl _ w).alloc (Nat.le_refl _) _)).mono ?_
    rintro e w1 ⟨rfl, hB1⟩
    have hBw1 := ((Below.refl w.heap.size w).alloc (Nat.le_refl _) _).trans (hB1.mono (by simp))
    rw [World.size_alloc] at hB1
    obtain ⟨c0, c1, c2', c3, c4, c5⟩ := box6 hB1
    go_wp2_with fail
    refine (HI.out _ hBw1).mono ?_
    rintro e w2 ⟨z, rfl, ho, ⟨A3, n3, c3', rfl⟩, hB2⟩
    have hBw2 := hBw1.trans (hB2.mono hBw1.size)
    cases ok
    · go_wp2_with fail
      go_ret
      exact ⟨by rw [HF.out]; rfl, hBw2⟩
    · have ho := ho rfl
      have hrel := ho.rel
      go_wp2_with fail
      refine (Domain_calls out _).mono ?_
      rintro e w3 ⟨u3, rfl, ho3, hB3⟩
      have hWI := Within_calls IM (domF out) (.slice A3 n3 c3') u3 w3 (spansR.below hrel hB3 hB3.size) ho3.rel himl hdl
      obtain ⟨A4, c4', rfl, hc4, hm4⟩ := list_form ho3.rel
      have HWI := hid hWI
      clear hWI ho hrel ho3
      go_wp2_with fail
      refine HWI.out.mono ?_
      rintro e w4 ⟨rfl, hB4⟩
      go_wp2_with fail
      go_ret
      have hBw3 := hBw2.trans (hB3.mono hBw2.size)
      exact ⟨by rw [HF.out]; simp, hBw3.trans (hB4.mono hBw3.size)⟩
end Go.Proofs.YtmkmikacfilbpaaGreat
