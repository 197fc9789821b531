/-
  The program's term.inner, where the term's numbers and parts are right and the guards have symbols. The program's term.Image and term.Fits, where the guards have symbols. The program's desc.writes, desc.rule and desc.head, for any description. The program's desc.rule and desc.head, for any description. The program's desc.head, for any description. The program's desc.cycle: it answers as kahnF does. The program's desc.Where, desc.Check and sole.Sole, for any description.
-/
import Derived.Test.YthfcbbdghggefaaGreatPg
import Derived.Test.YthfcbbdghggefaaGreatPa
namespace Go.Proofs.YthfcbbdghggefaaGreat
open Go.Proofs Go.Um Go.RowKit
set_option maxHeartbeats 1000000 in
set_option maxRecDepth 100000 in
theorem symbols_calls (w : World) : Calls Tryz.prog 156 #[] w fun e w' => ∃ u, e = .returned u ∧ OwnS 75 w' w.heap.size u symL ∧ Below w.heap.size w w' := by
  have hn := own_new (w := w) (e := 75) (x := ⟨0, 1114111⟩) ⟨⟨by simp, by simp⟩, ⟨by simp, by simp⟩⟩
  go_enter Tryz.func156, Tryz.ntmps156
  go_wp2_with fail
  go_ret
  exact ⟨_, rfl, hn, (Below.refl _ w).alloc (Nat.le_refl _) _⟩
theorem infoSS : (Tryz.prog.info? 76).map (fun i => (i.zero, i.size, i.bytes)) = some (some (.slice none 0 0), 1, 24) := by kernel_rfl
/-- block g holds so many slices; the first k read as the first k of L. -/
def SetRow (w : World) (g n k : Nat) (L : List (List Span)) : Prop :=
  ∃ vals : List Value, vals.length = n ∧ w.heap[g]? = some (.cells vals.toArray 76) ∧ ∀ (j : Nat) (x : List Span), j < k → L[j]? = some x → ∃ v, vals[j]? = some v ∧ spansR.rel w (fun b => b ≠ g ∧ b < w.heap.size) [v] x
theorem SetRow.below {w w' : World} {g n k : Nat} {L : List (List Span)} (h : SetRow w g n k L) (hB : Below w.heap.size w w') : SetRow w' g n k L := by
  obtain ⟨vals, h1, h2, h3⟩ := h
  refine ⟨vals, h1, (hB.block g (heap_lt h2)).trans h2, fun j x hj hx => ?_⟩
  obtain ⟨v, h4, h5⟩ := h3 j x hj hx
  exact ⟨v, h4, spansR.mono (fun p hp => hB.cell hp.2) (fun b hb => ⟨hb.1, Nat.lt_of_lt_of_le hb.2 hB.size⟩) h5⟩
theorem SetRow.put {w : World} {g n k : Nat} {L : List (List Span)} {x : List Span} {u : Value} (h : SetRow w g n k L) (hk : k < n) (hx : L[k]? = some x) (hu : spansR.rel w (fun b => b ≠ g ∧ b < w.heap.size) [u] x) : SetRow (w.setCell ⟨g, k, none⟩ u) g n (k + 1) L := by
  obtain ⟨vals, h1, h2, h3⟩ := h
  have hh := heap_setCell_same w g k vals.toArray 76 u h2
  refine ⟨vals.set k u, by simpa using h1, by rw [hh]; simp, fun j y hj hy => ?_⟩
  have hm : ∀ {z : List Span} {v : Value}, spansR.rel w (fun b => b ≠ g ∧ b < w.heap.size) [v] z → spansR.rel (w.setCell ⟨g, k, none⟩ u) (fun b => b ≠ g ∧ b < (w.setCell ⟨g, k, none⟩ u).heap.size) [v] z := fun hz =>
    spansR.mono (fun p hp => cell_of_heap_eq (heap_setCell_other w ⟨g, k, none⟩ p.block u hp.1)) (fun b hb => ⟨hb.1, by simpa using hb.2⟩) hz
  by_cases hjk : j = k
  · subst hjk
    rw [hx] at hy
    cases hy
    exact ⟨u, List.getElem?_set_self (by omega), hm hu⟩
  · obtain ⟨v, h4, h5⟩ := h3 j y (by omega) hy
    exact ⟨v, by rw [List.getElem?_set_ne (fun e => hjk e.symm)]; exact h4, hm h5⟩
theorem SetRow.rel {w : World} {g n : Nat} {L : List (List Span)} (h : SetRow w g n n L) (hn : n = L.length) (hm : n ≤ maxLen) : (listR spansR).rel w (upto w.heap.size) [.slice (some ⟨g, 0, none⟩) n n] L := by
  obtain ⟨vals, h1, h2, h3⟩ := h
  refine ⟨_, _, _, rfl, hn, Nat.le_refl _, hm, .inr ⟨g, 0, rfl, heap_lt h2, fun i x hx => ?_⟩⟩
  have hi : i < n := by have := (List.getElem?_eq_some_iff.1 hx).1; omega
  obtain ⟨v, h4, h5⟩ := h3 i x hi hx
  refine ⟨[v], spansR.mono (fun _ _ => rfl) (fun b hb => hb.2) h5, fun j u hu => ?_⟩
  cases j with
  | zero =>
    simp at hu
    subst hu
    have hw : spansR.width = 1 := rfl
    rw [hw, show 0 + i * 1 + 0 = i by omega]
    rw [cell_of_row w g i vals.toArray _ _ h2]
    simpa using h4
  | succ j => simp at hu
set_option maxHeartbeats 4000000 in
set_option maxRecDepth 100000 in
theorem inner_calls (t : Term) (v u : Value) (gs : List (List Span)) (w : World) (h : (listR partR).rel w (upto w.heap.size) [v] t.parts) (hs : (listR spansR).rel w (upto w.heap.size) [u] gs) (hn : numbersF t = true)
    (hr : ∀ p ∈ t.parts, rightP p gs.length = true) (hg : goodG gs) (hgl : ∀ g ∈ gs, g.length ≤ 90000) :
    Calls Tryz.prog 137 #[tval t v, u] w fun e w' => ∃ z, e = .returned (.tuple #[z, .bool (okV (valuesF t gs))]) ∧ OwnS 75 w' w.heap.size z (valuesF t gs) ∧ Below w.heap.size w w' := by
  obtain ⟨A, c, rfl, hc, hm⟩ := list_form h
  obtain ⟨A2, c2, rfl, hc2, hm2⟩ := list_form hs
  unfold maxLen at hm hm2
  obtain ⟨iss, his0, hisz, his1, his2⟩ := info_parts infoSS
  have HN := hid fun W (hW : Below w.heap.size w W) => numbers_calls t (.slice A t.parts.length c) W ((listR partR).below h hW hW.size)
  rw [hn] at HN
  have HV := hid fun W U (hW : Below w.heap.size w W) (hU : (listR spansR).rel W (upto W.heap.size) [U] gs) => values_calls t (.slice A t.parts.length c) U gs W ((listR partR).below h hW hW.size) hU hn hr hg.1 (fun g hgm => ⟨(hg.2 g hgm).2.1, by have := hgl g hgm; omega⟩)
  have hmk : ∀ W : World, (Instr.makeSlice 43 (.int .i64 gs.length) (.int .i64 gs.length)).run Tryz.prog W = .ok (.slice (some ⟨W.heap.size, 0, none⟩) gs.length gs.length) (W.alloc (.cells (madeCells (Value.slice none 0 0).cells (gs.length * iss.size)) 76)) :=
    fun W => make_rowN (P := Tryz.prog) 43 76 iss (.slice none 0 0) Tryz.underlying43 his0 hisz .i64 .i64 gs.length gs.length (Nat.le_refl _) (by rw [his2]; have := hg.1; omega) (by have := hg.1; omega) W
  rw [his1] at hmk
  unfold tval at HN HV ⊢
  obtain ⟨tb, td, tk, tu, ts, ps⟩ := t
  dsimp only at HN HV h hr hc ⊢
  have h4 := hg.1
  have h4' : ¬ (4 : Int) < gs.length := by omega
  go_enter Tryz.func137, Tryz.ntmps137
  go_wp2_with fail
  refine (HN.out _ ((Below.refl _ w).alloc (Nat.le_refl _) _)).mono ?_
  rintro e w1 ⟨rfl, hB1⟩
  have hBw1 := ((Below.refl w.heap.size w).alloc (Nat.le_refl _) _).trans (hB1.mono (by simp))
  rw [World.size_alloc] at hB1
  have hbx : w1.heap[w.heap.size]? = some (.cells #[.int .i64 tb, .int .i64 td, .int .i64 tk, .int .i64 tu, .int .i64 ts, .slice A ps.length c] 69) := (hB1.block w.heap.size (by omega)).trans (heap_alloc_new w _)
  have hlt1 := heap_lt hbx
  have hset0 : SetRow (w1.alloc (.cells (madeCells #[.slice none 0 0] gs.length) 76)) w1.heap.size gs.length 0 gs := by
    refine ⟨List.replicate gs.length (.slice none 0 0), by simp, ?_, fun j x hj => absurd hj (by omega)⟩
    rw [heap_alloc_new, ← toList_madeCells_one]
  have hBm : Below w1.heap.size w1 (w1.alloc (.cells (madeCells #[.slice none 0 0] gs.length) 76)) := (Below.refl _ w1).alloc (Nat.le_refl _) _
  go_wp2_with fail
  generalize w1.alloc (.cells (madeCells #[.slice none 0 0] gs.length) 76) = wm at *
  go_loopw [25, 6] (fun vi vb wr => ∃ k : Nat, k ≤ gs.length ∧ vi = .int .i64 k ∧ vb = .bool true ∧ SetRow wr w1.heap.size gs.length k gs ∧ Below w1.heap.size w1 wr) (fun vi _ _ => gs.length - (intOf vi).toNat)
  case atStart => exact ⟨0, Nat.zero_le _, rfl, rfl, hset0, hBm⟩
  case round =>
    obtain ⟨k, hk, rfl, rfl, hset, hB⟩ := hrel
    obtain ⟨wo, hwo⟩ : ∃ wo, wo = wr := ⟨_, rfl⟩
    subst hwo
    have hBw : Below w.heap.size w wo := hBw1.trans (hB.mono hBw1.size)
    by_cases hlt : k < gs.length
    · obtain ⟨g, hgk⟩ := at_lt hlt
      have hlt' : (k : Int) < gs.length := by omega
      have hgg := hg.2 g (List.mem_of_getElem? hgk)
      have hgl2 := hgl g (List.mem_of_getElem? hgk)
      have hsr := (listR spansR).mono (below_cells hBw) (fun _ h => h) hs
      obtain ⟨gb, go, gv, rfl, hgbS, hgr, hcg⟩ := list_at1 rfl hsr hgk
      obtain ⟨A10, c10, rfl, hc10, hm10⟩ := list_form hgr
      have hmeet : meetF g symL = g := meetF_sym hgg.1 hgg.2.1
      have HM := hid fun (W : World) (U : Value) (hW : Below wo.heap.size wo W) (hU : OwnS 75 W wo.heap.size U symL) => Meet_calls g symL (.slice A10 g.length c10) U W (spansR.mono (fun p hp => hW.cell (Nat.lt_of_lt_of_le hp hBw.size)) (fun b hb => Nat.lt_of_lt_of_le hb (Nat.le_trans hBw.size hW.size)) hgr) hU.rel (by omega) (by simp [symL])
      simp only [hmeet] at HM
      have hg0 : (0 : Int) < g.length := by have := List.length_pos_iff.2 hgg.2.2; omega
      have HSET := hid hset
      have HGK := hid hgk
      have hzw : w1.heap.size < wo.heap.size := by obtain ⟨vals, _, h2, _⟩ := hset; exact heap_lt h2
      clear hsr hgr hset hmeet hgk
      go_wp2_with fail
      refine (symbols_calls _).mono ?_
      rintro e w2 ⟨U, rfl, hoU, hB2⟩
      have HM2 := hid (HM.out w2 U hB2 hoU)
      obtain ⟨A11, c11, rfl, hc11, hm11⟩ := list_form hoU.rel
      clear hoU
      go_wp2_with fail
      refine HM2.out.mono ?_
      rintro e w3 ⟨x3, rfl, ho3, hB3⟩
      have hB23 := hB2.trans (hB3.mono hB2.size)
      have hset3 := HSET.out.below hB23
      have hput := hset3.put hlt HGK.out (u := x3) (spansR.mono (fun _ _ => rfl) (fun b hb => hb) (ho3.rel_in fun b hb => ⟨by have := (ho3.1.lt b hb).1; have := hB2.size; omega, (ho3.1.lt b hb).2⟩))
      obtain ⟨A12, c12, rfl, hc12, hm12⟩ := list_form ho3.rel
      have hfz : w3.frozen? ⟨w1.heap.size, k, none⟩ = false := by obtain ⟨vals, _, h2, _⟩ := hset3; exact frozen_of_row w3 _ k _ _ h2
      have hcz : ∃ z, w3.cell? ⟨w1.heap.size, k, none⟩ = some z := by
        obtain ⟨vals, h1, h2, _⟩ := hset3
        rw [cell_of_row w3 w1.heap.size k vals.toArray _ _ h2]
        exact ⟨vals[k]'(by omega), by simp⟩
      obtain ⟨z3, hcz3⟩ := hcz
      have HPUT := hid hput
      have hB3w : Below w1.heap.size w1 w3 := hB.trans (hB23.mono hB.size)
      clear ho3 hset3 hput
      go_wp2_with fail
      refine ⟨⟨k + 1, by omega, by push_cast; rfl, congrArg Value.bool (decide_eq_true (by omega)), HPUT.out, hB3w.setCell (p := ⟨w1.heap.size, k, none⟩) (Nat.le_refl _) _⟩, ?_⟩
      simp [intOf]; omega
    · obtain rfl : k = gs.length := by omega
      have HSET := hid hset
      clear hset
      have hbxo := (hB.block w.heap.size hlt1).trans hbx
      have hpc5 : wo.cell? ⟨w.heap.size, 5, none⟩ = some (.slice A ps.length c) := cell_of_row _ _ 5 _ _ _ hbxo
      go_wp2_with fail
      go_loopw [49] (fun vi wr => ∃ k : Nat, k ≤ ps.length ∧ vi = .int .i64 k ∧ Below wo.heap.size wo wr) (fun vi _ => ps.length - (intOf vi).toNat)
      case atStart => exact ⟨0, Nat.zero_le _, rfl, Below.refl _ _⟩
      case round =>
        obtain ⟨j, hj, rfl, hBj⟩ := hrel
        obtain ⟨wi, hwi⟩ : ∃ wi, wi = wr := ⟨_, rfl⟩
        subst hwi
        have hBwi : Below w.heap.size w wi := hBw.trans (hBj.mono hBw.size)
        by_cases hjl : j < ps.length
        · obtain ⟨p, hp⟩ := at_lt hjl
          have hjl' : (j : Int) < ps.length := by omega
          have hrj := (listR partR).mono (below_cells hBwi) (fun _ h => h) h
          obtain ⟨pb, po, rfl, hbb, p1, p2, p3, p4, hok⟩ := part_at hrj hp
          have hbs : pb < wi.heap.size := Nat.lt_of_lt_of_le hbb hBwi.size
          have HR := hid fun W => Right_calls p gs.length W
          rw [hr p (List.mem_of_getElem? hp)] at HR
          unfold pval at HR
          clear hp hrj
          go_wp2_with fail
          refine (HR.out _).mono ?_
          rintro e w5 ⟨rfl, hB5⟩
          go_wp2_with fail
          refine ⟨⟨j + 1, by omega, by push_cast; rfl, (hBj.alloc hBj.size _).trans (hB5.mono (by simp; have := hBj.size; omega))⟩, ?_⟩
          simp [intOf]; omega
        · obtain rfl : j = ps.length := by omega
          have hbxi := (hBj.block w.heap.size (Nat.lt_of_lt_of_le hlt1 hB.size)).trans hbxo
          have e0 := cell_of_row _ _ 0 _ _ _ hbxi
          have e1 := cell_of_row _ _ 1 _ _ _ hbxi
          have e2 := cell_of_row _ _ 2 _ _ _ hbxi
          have e3 := cell_of_row _ _ 3 _ _ _ hbxi
          have e4 := cell_of_row _ _ 4 _ _ _ hbxi
          have e5 := cell_of_row _ _ 5 _ _ _ hbxi
          simp at e0 e1 e2 e3 e4 e5
          have HV2 := hid (HV.out wi (.slice (some ⟨w1.heap.size, 0, none⟩) gs.length gs.length) hBwi ((HSET.out.below hBj).rel rfl (by unfold maxLen; omega)))
          go_wp2_with fail
          refine HV2.out.mono ?_
          rintro e w6 ⟨z, rfl, ho6, hB6⟩
          obtain ⟨A13, c13, rfl, hc13, hm13⟩ := list_form ho6.rel
          go_wp2_with fail
          go_ret2
          exact ⟨_, rfl, ho6.base hBwi.size, hBwi.trans (hB6.mono hBwi.size)⟩
end Go.Proofs.YthfcbbdghggefaaGreat
namespace Go.Proofs.YthfcbbdghggefaaGreat
open Go.Proofs Go.Um Go.RowKit
set_option maxHeartbeats 1000000 in
set_option maxRecDepth 100000 in
theorem tImage_calls (t : Term) (v u : Value) (gs : List (List Span)) (w : World) (h : (listR partR).rel w (upto w.heap.size) [v] t.parts) (hs : (listR spansR).rel w (upto w.heap.size) [u] gs) (hn : numbersF t = true)
    (hr : ∀ p ∈ t.parts, rightP p gs.length = true) (hg : goodG gs) (hgl : ∀ g ∈ gs, g.length ≤ 90000) :
    Calls Tryz.prog 119 #[tval t v, u] w fun e w' => ∃ z, e = .returned (.tuple #[z, .bool (okV (valuesF t gs))]) ∧ (okV (valuesF t gs) = true → OwnS 75 w' w.heap.size z (imageT t gs)) ∧ (∃ A n c, z = .slice A n c) ∧ Below w.heap.size w w' := by
  obtain ⟨A, c, rfl, hc, hm⟩ := list_form h
  obtain ⟨A2, c2, rfl, hc2, hm2⟩ := list_form hs
  obtain ⟨n1, n2, n3, n4, n5⟩ := numbersF_iff.1 hn
  have hbase := smallN_iff.1 n1
  have HI := hid fun W (hW : Below w.heap.size w W) => inner_calls t (.slice A t.parts.length c) (.slice A2 gs.length c2) gs W ((listR partR).below h hW hW.size) ((listR spansR).below hs hW hW.size) hn hr hg hgl
  have hpl := valuesF_plain' n2 gs
  have hIT : Hid (imageT t gs = moveF (imgF (outerT t) (valuesF t gs)) t.base) := hid rfl
  have hv0 := fun hk => (okV_iff hpl).1 hk
  obtain ⟨V, hV⟩ : ∃ V, V = valuesF t gs := ⟨_, rfl⟩
  rw [← hV] at hIT hpl
  simp only [← hV] at HI hv0
  have HV := hid hV
  have hob : bitsF (outerT t) = true := n3
  obtain ⟨OT, hOT⟩ : ∃ OT, OT = outerT t := ⟨_, rfl⟩
  rw [← hOT] at hob hIT
  have HOU : Hid (∀ W, Calls Tryz.prog 107 #[tval t (.slice A t.parts.length c)] W fun e w' => e = .returned (pval OT) ∧ Below W.heap.size W w') := hid fun W => by rw [hOT]; exact outer_calls t _ W
  clear hOT
  clear hV h hs hgl hg hr hn n1 n2 n3 n4 n5
  unfold tval at HI HOU ⊢
  obtain ⟨tb, td, tk, tu, ts, ps⟩ := t
  dsimp only at HI HOU hbase hIT hc ⊢
  go_enter Tryz.func119, Tryz.ntmps119
  go_wp2_with fail
  refine (HI.out _ ((Below.refl _ w).alloc (Nat.le_refl _) _)).mono ?_
  rintro e w1 ⟨z, rfl, ho, hB1⟩
  have hBw1 := ((Below.refl w.heap.size w).alloc (Nat.le_refl _) _).trans (hB1.mono (by simp))
  rw [World.size_alloc] at hB1 ho
  have hbx : w1.heap[w.heap.size]? = some (.cells #[.int .i64 tb, .int .i64 td, .int .i64 tk, .int .i64 tu, .int .i64 ts, .slice A ps.length c] 69) := (hB1.block w.heap.size (by omega)).trans (heap_alloc_new w _)
  have hlt1 := heap_lt hbx
  obtain ⟨A3, c3, rfl, hc3, hm3⟩ := list_form ho.rel
  cases hk : okV V
  · have HK : Hid (okV (valuesF ⟨tb, td, tk, tu, ts, ps⟩ gs) = false) := hid (by rw [← HV.out]; exact hk)
    clear ho hv0
    go_wp2_with fail
    go_ret2
    exact ⟨.slice none 0 0, (by rw [HK.out]; rfl), fun h => (by rw [HK.out] at h; cases h), ⟨_, _, _, rfl⟩, hBw1⟩
  · have HK : Hid (okV (valuesF ⟨tb, td, tk, tu, ts, ps⟩ gs) = true) := hid (by rw [← HV.out]; exact hk)
    have hv1 := hv0 hk
    have hVl : V.length ≤ 2000000 := by
      have := plain_len (n := 1114111) hpl (mem_inB (plain_ne hpl) fun z hz => by have := hv1.2 z hz; omega)
      omega
    have hV0 : ((V.length : Int) == 0) = false := beq_f (by have := List.length_pos_iff.2 hv1.1; omega)
    have HIM := hid fun W (hW : Below w1.heap.size w1 W) => Image_calls OT V (.slice A3 V.length c3) W (spansR.below ho.rel hW hW.size) (by omega) hob
    have him : inB 67108864 (imgF OT V) := mem_inB (plain_ne (imgF_plain _ _)) fun z hz => by
      obtain ⟨x, _, rfl⟩ := (mem_imgF hob).1 hz
      have := valF_nonneg OT x
      have := valF_le hob x
      omega
    have hil := plain_len (n := 67108864) (imgF_plain OT V) him
    have HMV := hid fun (W : World) (z : Value) (hz : OwnS 75 W w1.heap.size z (imgF OT V)) => Move_calls (imgF OT V) tb z W hz.rel (by omega) (by omega)
    clear ho hv0 hv1 hk him hil
    go_wp2_with fail
    obtain ⟨ι, W, ⟨i0, hi0⟩, hW, Wsur⟩ := ext_class w1.drew
    have hne : Nonempty ι := ⟨i0⟩
    have WS := hid Wsur; clear Wsur
    have HW := hid hW; clear hW
    have Hi0 := hid hi0; clear hi0
    refine region_anyL (S := fun w' => ∃ i, w' = W i) (last := 9) (by kernel_rfl) ?_
    have hw1d : w.heap.size < w1.drew.heap.size := hlt1
    have MB : ∀ i, (W i).heap[w.heap.size]? = some (.cells #[.int .i64 tb, .int .i64 td, .int .i64 tk, .int .i64 tu, .int .i64 ts, .slice A ps.length c] 69) := fun i => ((HW.out i).block w.heap.size hw1d).trans hbx
    have M0 : ∀ i, (W i).cell? ⟨w.heap.size, 0, none⟩ = some (.int .i64 tb) := fun i => cell_of_row _ _ 0 _ _ _ (MB i)
    have M1 : ∀ i, (W i).cell? ⟨w.heap.size, 1, none⟩ = some (.int .i64 td) := fun i => cell_of_row _ _ 1 _ _ _ (MB i)
    have M2 : ∀ i, (W i).cell? ⟨w.heap.size, 2, none⟩ = some (.int .i64 tk) := fun i => cell_of_row _ _ 2 _ _ _ (MB i)
    have M3 : ∀ i, (W i).cell? ⟨w.heap.size, 3, none⟩ = some (.int .i64 tu) := fun i => cell_of_row _ _ 3 _ _ _ (MB i)
    have M4 : ∀ i, (W i).cell? ⟨w.heap.size, 4, none⟩ = some (.int .i64 ts) := fun i => cell_of_row _ _ 4 _ _ _ (MB i)
    have M5 : ∀ i, (W i).cell? ⟨w.heap.size, 5, none⟩ = some (.slice A ps.length c) := fun i => cell_of_row _ _ 5 _ _ _ (MB i)
    clear MB
    refine anyL_seg 0 1 (by kernel_rfl) (fun _ _ _ _ _ h => h) ⟨i0, Hi0.out.symm⟩ (f := 8) rfl (by kernel_rfl) (by kernel_rfl) ?_
    simp only [List.drop_zero, List.take_succ_cons, List.take_zero]
    repeat go_big_quiet_step (fail)
    refine wpQuiet_nil ?_
    refine anyL_seg 2 1 (by kernel_rfl) (fun _ _ _ _ _ h => h) ⟨i0, Hi0.out.symm⟩ (f := 7) rfl (by kernel_rfl) (by kernel_rfl) ?_
    simp only [List.drop_succ_cons, List.drop_zero, List.take_succ_cons, List.take_zero]
    repeat go_big_quiet_step (fail)
    refine wpQuiet_nil ?_
    refine anyL_seg 4 2 (by kernel_rfl) (fun _ _ _ _ _ h => h) ⟨i0, Hi0.out.symm⟩ (f := 5) rfl (by kernel_rfl) (by kernel_rfl) ?_
    simp only [List.drop_succ_cons, List.drop_zero, List.take_succ_cons, List.take_zero]
    repeat go_big_quiet_step (fail)
    refine wpQuiet_nil ?_
    refine anyL_act (i := 1) (by kernel_rfl) rfl rfl ?_
    intro K hK
    go_wp2_with fail
    refine (HOU.out _).mono ?_
    rintro e w4 ⟨rfl, hB4⟩
    have hS4 := WS.out i0 w4 (by rw [Hi0.out]; exact hB4)
    have hB4' : Below w1.heap.size w1 w4 := ⟨hB4.os, hB4.tape, hB4.output, hB4.size, hB4.block⟩
    clear hB4
    go_wp2_with fail
    refine hK.out _ _ (fun _ => hS4) ?_
    clear hK K
    obtain ⟨i4, hi4⟩ := hS4
    have Hi4 : Hid (W i4 = w4) := hid hi4.symm; clear hi4
    refine anyL_act (i := 3) (by kernel_rfl) rfl rfl ?_
    intro K hK
    go_wp2_with fail
    refine (HIM.out w4 hB4').mono ?_
    rintro e w5 ⟨x5, rfl, ho5, hB5⟩
    have hS5 := WS.out i4 w5 (by rw [Hi4.out]; exact hB5)
    have hB15 : Below w1.heap.size w1 w5 := hB4'.trans (hB5.mono hB4'.size)
    have HMV2 := hid (HMV.out w5 x5 (ho5.base hB4'.size))
    obtain ⟨A5, c5, rfl, hc5, hm5⟩ := list_form ho5.rel
    clear ho5
    go_wp2_with fail
    refine hK.out _ _ (fun _ => hS5) ?_
    clear hK K
    obtain ⟨i5, hi5⟩ := hS5
    have Hi5 : Hid (W i5 = w5) := hid hi5.symm; clear hi5
    refine anyL_act (i := 6) (by kernel_rfl) rfl rfl ?_
    intro K hK
    go_wp2_with fail
    refine (HMV2.out).mono ?_
    rintro e w6 ⟨x6, rfl, ho6, hB6⟩
    have hS6 := WS.out i5 w6 (by rw [Hi5.out]; exact hB6)
    have hBw6 : Below w.heap.size w w6 := hBw1.trans ((hB15.trans (hB6.mono hB15.size)).mono hBw1.size)
    replace ho6 := ho6.base (Nat.le_trans hBw1.size hB15.size)
    obtain ⟨A6, c6, rfl, hc6, hm6⟩ := list_form ho6.rel
    go_wp2_with fail
    refine hK.out _ _ (fun _ => hS6) ?_
    clear hK K
    refine anyL_seg 7 2 (by kernel_rfl) (fun _ _ _ _ _ h => h) hS6 (f := 0) rfl (by kernel_rfl) (by kernel_rfl) ?_
    simp only [List.drop_succ_cons, List.drop_zero, List.take_succ_cons, List.take_zero]
    repeat go_big_quiet_step (fail)
    refine wpQuiet_nil ?_
    refine anyL_done (by kernel_rfl) ?_ 0
    go_wp2_with fail
    go_ret2
    exact ⟨.slice A6 (moveF (imgF OT V) tb).length c6, (by rw [HK.out]; rfl), fun _ => (by rw [hIT.out]; exact ho6), ⟨_, _, _, rfl⟩, hBw6⟩
/-- does a term fit guards? -/
def fitsF (t : Term) (inn out : Int) (gs : List (List Span)) : Bool := rightF t inn out gs.length && fitsG t (domF out) gs
set_option maxHeartbeats 1000000 in
set_option maxRecDepth 100000 in
theorem Fits_calls (t : Term) (v u : Value) (inn out : Int) (gs : List (List Span)) (w : World) (h : (listR partR).rel w (upto w.heap.size) [v] t.parts) (hs : (listR spansR).rel w (upto w.heap.size) [u] gs) (hg : goodG gs) (hgl : ∀ g ∈ gs, g.length ≤ 90000) :
    Calls Tryz.prog 102 #[tval t v, .int .i64 inn, .int .i64 out, u] w fun e w' => e = .returned (.bool (fitsF t inn out gs)) ∧ Below w.heap.size w w' := by
  obtain ⟨A, c, rfl, hc, hm⟩ := list_form h
  obtain ⟨A2, c2, rfl, hc2, hm2⟩ := list_form hs
  have HR := hid fun W (hW : Below w.heap.size w W) => tRight_calls t (.slice A t.parts.length c) inn out gs.length W ((listR partR).below h hW hW.size)
  have HF : Hid (fitsF t inn out gs = (rightF t inn out gs.length && (okV (valuesF t gs) && (minusF (imageT t gs) (domF out)).isEmpty))) := hid rfl
  cases hr : rightF t inn out gs.length
  · rw [hr] at HR HF
    unfold tval at HR ⊢
    clear h hs
    obtain ⟨tb, td, tk, tu, ts, ps⟩ := t
    dsimp only at HR hc ⊢
    go_enter Tryz.func102, Tryz.ntmps102
    go_wp2_with fail
    refine (HR.out _ ((Below.refl _ w).alloc (Nat.le_refl _) _)).mono ?_
    rintro e w1 ⟨rfl, hB1⟩
    go_wp2_with fail
    go_ret
    exact ⟨by rw [HF.out]; rfl, ((Below.refl w.heap.size w).alloc (Nat.le_refl _) _).trans (hB1.mono (by simp))⟩
  · obtain ⟨r1, r2, r3, r4, r5, r6⟩ := rightF_iff.1 hr
    rw [hr] at HR HF
    have HI := hid fun W (hW : Below w.heap.size w W) => tImage_calls t (.slice A t.parts.length c) (.slice A2 gs.length c2) gs W ((listR partR).below h hW hW.size) ((listR spansR).below hs hW hW.size) r3 (fun p hp => (r4 p hp).1) hg hgl
    have himl : (imageT t gs).length ≤ 1073741824 := by
      have h1 : inB 1073741823 (imageT t gs) := by
        refine mem_inB (plain_ne (moveF_plain _ _)) fun z hz => ?_
        have hb := smallN_iff.1 (numbersF_iff.1 r3).1
        obtain ⟨_, h2⟩ := (mem_moveF (by omega)).1 hz
        obtain ⟨x, _, h3⟩ := (mem_imgF (numbersF_iff.1 r3).2.2.1).1 h2.2
        have h4 := valF_nonneg (outerT t) x
        have h5 := valF_le (numbersF_iff.1 r3).2.2.1 x
        omega
      have := plain_len (n := 1073741823) (moveF_plain _ _) h1
      exact this
    obtain ⟨IM, hIM⟩ : ∃ IM, IM = imageT t gs := ⟨_, rfl⟩
    obtain ⟨ok, hok⟩ : ∃ ok, ok = okV (valuesF t gs) := ⟨_, rfl⟩
    rw [← hIM, ← hok] at HF
    rw [← hIM] at himl
    simp only [← hIM, ← hok] at HI
    have hdl : (domF out).length < 1073741824 := by
      unfold domF; split
      · simp
      · split <;> simp
    clear h hs r1 r2 r3 r4 r5 r6 hr hIM hok hg hgl
    unfold tval at HR HI ⊢
    obtain ⟨tb, td, tk, tu, ts, ps⟩ := t
    dsimp only at HR HI hc ⊢
    go_enter Tryz.func102, Tryz.ntmps102
    go_wp2_with fail
    refine (HR.out _ ((Below.refl _ w).alloc (Nat.le_refl _) _)).mono ?_
    rintro e w1 ⟨rfl, hB1⟩
    have hBw1 := ((Below.refl w.heap.size w).alloc (Nat.le_refl _) _).trans (hB1.mono (by simp))
    rw [World.size_alloc] at hB1
    obtain ⟨c0, c1, c2', c3, c4, c5⟩ := box6 hB1
    go_wp2_with fail
    refine (HI.out _ hBw1).mono ?_
    rintro e w2 ⟨z, rfl, ho, ⟨A3, n3, c3', rfl⟩, hB2⟩
    have hBw2 := hBw1.trans (hB2.mono hBw1.size)
    cases ok
    · go_wp2_with fail
      go_ret
      exact ⟨by rw [HF.out]; rfl, hBw2⟩
    · have ho := ho rfl
      have hrel := ho.rel
      go_wp2_with fail
      refine (Domain_calls out _).mono ?_
      rintro e w3 ⟨u3, rfl, ho3, hB3⟩
      have hWI := Within_calls IM (domF out) (.slice A3 n3 c3') u3 w3 (spansR.below hrel hB3 hB3.size) ho3.rel himl hdl
      obtain ⟨A4, c4', rfl, hc4, hm4⟩ := list_form ho3.rel
      have HWI := hid hWI
      clear hWI ho hrel ho3
      go_wp2_with fail
      refine HWI.out.mono ?_
      rintro e w4 ⟨rfl, hB4⟩
      go_wp2_with fail
      go_ret
      have hBw3 := hBw2.trans (hB3.mono hBw2.size)
      exact ⟨by rw [HF.out]; simp, hBw3.trans (hB4.mono hBw3.size)⟩
end Go.Proofs.YthfcbbdghggefaaGreat
namespace Go.Proofs.YthfcbbdghggefaaGreat
open Go.Proofs Go.Um Go.RowKit
theorem guardOk_iff {s : Int} {g : List Span} : guardOk s g = true ↔ g ≠ [] ∧ g.length ≤ 64 ∧ plain g = true ∧ minusF g (domF s) = [] := by
  unfold guardOk
  cases hg : plain g <;> simp [and_assoc, List.isEmpty_iff]
theorem domF_sym {s z : Int} (h : inSet (domF s) z) : 0 ≤ z ∧ z ≤ 1114111 := by
  unfold domF at h
  split at h
  · simp [inSet, mem] at h; omega
  · split at h
    · simp [inSet, mem] at h; omega
    · exact absurd h.2 mem_nil
theorem guardsF_iff {s : Int} {gs : List (List Span)} : guardsF s gs = true ↔ gs.length ≤ 4 ∧ ∀ g ∈ gs, guardOk s g = true := by
  unfold guardsF
  split
  · constructor
    · intro h; cases h
    · rintro ⟨h, _⟩; omega
  · rw [List.all_eq_true]
    constructor
    · intro h; exact ⟨by omega, h⟩
    · exact fun h => h.2
theorem guardsF_good {s : Int} {gs : List (List Span)} (h : guardsF s gs = true) : goodG gs ∧ ∀ g ∈ gs, g.length ≤ 90000 := by
  obtain ⟨h1, h2⟩ := guardsF_iff.1 h
  refine ⟨⟨h1, fun g hg => ?_⟩, fun g hg => ?_⟩
  · obtain ⟨g1, g2, g3, g4⟩ := guardOk_iff.1 (h2 g hg)
    refine ⟨g3, fun z hz => domF_sym (minusF_nil.1 g4 z ((inSet_plain g3).2 hz)), g1⟩
  · have := (guardOk_iff.1 (h2 g hg)).2.1
    omega
def writesF (inn out : Int) (ts : List Term) (gs : List (List Span)) : Bool := decide (ts.length ≤ 64) && ts.all fun t => fitsF t inn out gs
set_option maxHeartbeats 1000000 in
set_option maxRecDepth 100000 in
theorem writes_calls (inn out a3 a4 : Int) (r f tv gv : Value) (ts : List Term) (gs : List (List Span)) (w : World) (ht : (listR termR).rel w (upto w.heap.size) [tv] ts) (hs : (listR spansR).rel w (upto w.heap.size) [gv] gs) (hg : goodG gs) (hgl : ∀ g ∈ gs, g.length ≤ 90000) :
    Calls Tryz.prog 83 #[.agg #[.int .i64 inn, .int .i64 out, .int .i64 a3, .int .i64 a4, r, f], tv, gv] w fun e w' => e = .returned (.bool (writesF inn out ts gs)) ∧ Below w.heap.size w w' := by
  obtain ⟨A, c, rfl, hc, hm⟩ := list_form ht
  obtain ⟨A2, c2, rfl, hc2, hm2⟩ := list_form hs
  unfold maxLen at hm hm2
  have HF : Hid (writesF inn out ts gs = (decide (ts.length ≤ 64) && ts.all fun t => fitsF t inn out gs)) := hid rfl
  by_cases h64 : 64 < ts.length
  · have h64' : (64 : Int) < ts.length := by omega
    have hF : Hid (writesF inn out ts gs = false) := hid (by rw [HF.out, decide_eq_false (by omega)]; rfl)
    clear h64 ht hs
    go_enter Tryz.func83, Tryz.ntmps83
    go_wp2_with fail
    go_ret
    exact ⟨by rw [hF.out]; rfl, (Below.refl _ _).alloc (Nat.le_refl _) _⟩
  · have h64' : ¬ (64 : Int) < ts.length := by omega
    have hF : Hid (writesF inn out ts gs = ts.all fun t => fitsF t inn out gs) := hid (by rw [HF.out, decide_eq_true (by omega)]; rfl)
    have hbx := heap_alloc_new w (.cells #[.int .i64 inn, .int .i64 out, .int .i64 a3, .int .i64 a4, r, f] 27)
    have hB0 := (Below.refl w.heap.size w).alloc (Nat.le_refl _) (.cells #[.int .i64 inn, .int .i64 out, .int .i64 a3, .int .i64 a4, r, f] 27)
    clear h64 HF
    go_enter Tryz.func83, Tryz.ntmps83
    go_wp2_with fail
    generalize w.alloc (.cells #[.int .i64 inn, .int .i64 out, .int .i64 a3, .int .i64 a4, r, f] 27) = w0 at *
    go_loopw [14] (fun vi wr => ∃ k : Nat, k ≤ ts.length ∧ vi = .int .i64 k ∧ Hid ((ts.drop k).all (fun t => fitsF t inn out gs) = ts.all fun t => fitsF t inn out gs) ∧ Below w0.heap.size w0 wr) (fun vi _ => ts.length - (intOf vi).toNat)
    case atStart => exact ⟨0, Nat.zero_le _, rfl, hid rfl, Below.refl _ _⟩
    case round =>
      obtain ⟨k, hk, rfl, HP, hB⟩ := hrel
      obtain ⟨wo, hwo⟩ : ∃ wo, wo = wr := ⟨_, rfl⟩
      subst hwo
      have hBw : Below w.heap.size w wo := hB0.trans (hB.mono hB0.size)
      by_cases hlt : k < ts.length
      · obtain ⟨t, hx⟩ := at_lt hlt
        have hlt' : (k : Int) < ts.length := by omega
        have hrw := (listR termR).mono (below_cells hBw) (fun _ h => h) ht
        obtain ⟨tb, to, pv, rfl, hbS, t0, t1, t2, t3, t4, t5, hi64, hpr⟩ := term_at hrw hx
        obtain ⟨A3, c3, rfl, hc3, hm3⟩ := list_form hpr
        have hbs : tb < wo.heap.size := Nat.lt_of_lt_of_le hbS hBw.size
        have HFit := hid fun W (hW : Below wo.heap.size wo W) => Fits_calls t (.slice A3 t.parts.length c3) (.slice A2 gs.length c2) inn out gs W ((listR partR).mono (fun p hp => hW.cell (Nat.lt_of_lt_of_le hp hBw.size)) (fun b hb => Nat.lt_of_lt_of_le hb (Nat.le_trans hBw.size hW.size)) hpr) ((listR spansR).below hs (hBw.trans (hW.mono hBw.size)) (Nat.le_trans hBw.size hW.size)) hg hgl
        have HP2 : Hid ((fitsF t inn out gs && (ts.drop (k + 1)).all (fun t => fitsF t inn out gs)) = ts.all fun t => fitsF t inn out gs) := hid (by have := HP.out; rw [drop_cons hx] at this; exact this)
        have hbo := (hB.block w.heap.size (heap_lt hbx)).trans hbx
        have d0 := cell_of_row _ _ 0 _ _ _ hbo
        have d1 := cell_of_row _ _ 1 _ _ _ hbo
        have hwl := heap_lt hbo
        simp at d0 d1
        have d0' : ∀ o1, (wo.alloc o1).cell? ⟨w.heap.size, 0, none⟩ = some (.int .i64 inn) := fun o1 => (((Below.refl wo.heap.size wo).alloc (Nat.le_refl _) o1).cell (p := ⟨w.heap.size, 0, none⟩) hwl).trans d0
        have d1' : ∀ o1, (wo.alloc o1).cell? ⟨w.heap.size, 1, none⟩ = some (.int .i64 out) := fun o1 => (((Below.refl wo.heap.size wo).alloc (Nat.le_refl _) o1).cell (p := ⟨w.heap.size, 1, none⟩) hwl).trans d1
        unfold tval at HFit
        clear hx hrw hpr HP hbo
        cases hfit : fitsF t inn out gs
        · rw [hfit] at HFit HP2
          clear hfit
          go_wp2_with fail
          refine (HFit.out _ ((Below.refl _ wo).alloc (Nat.le_refl _) _)).mono ?_
          rintro e w3 ⟨rfl, hB3⟩
          go_wp2_with fail
          go_ret
          exact ⟨by rw [hF.out, ← HP2.out]; rfl, (hBw.alloc hBw.size _).trans (hB3.mono (by simp; have := hBw.size; omega))⟩
        · rw [hfit] at HFit HP2
          clear hfit
          go_wp2_with fail
          refine (HFit.out _ ((Below.refl _ wo).alloc (Nat.le_refl _) _)).mono ?_
          rintro e w3 ⟨rfl, hB3⟩
          go_wp2_with fail
          refine ⟨⟨k + 1, by omega, by push_cast; rfl, hid (by rw [← HP2.out]; rfl), (hB.alloc hB.size _).trans (hB3.mono (by simp; have := hB.size; omega))⟩, ?_⟩
          simp [intOf]; omega
      · obtain rfl : k = ts.length := by omega
        have HP2 : Hid (true = ts.all fun t => fitsF t inn out gs) := hid (by rw [← HP.out, List.drop_length]; rfl)
        clear HP
        go_wp2_with fail
        go_ret
        exact ⟨by rw [hF.out, ← HP2.out]; rfl, hBw⟩
end Go.Proofs.YthfcbbdghggefaaGreat
namespace Go.Proofs.YthfcbbdghggefaaGreat
open Go.Proofs Go.Um Go.RowKit
/-- is a rule right? -/
def eatF (n : Nat) (e : Int) : Bool := decide ((if n = 0 then (0 : Int) else 1) ≤ e) && decide (e ≤ n)
def ruleF (d : Desc) (r : Rule) : Bool := stateF d.states r.src && stateF d.states r.dst && guardsF d.inn r.guards && eatF r.guards.length r.eat && writesF d.inn d.out r.out r.guards
def headF (d : Desc) : Bool := sortF d.inn && sortF d.out && decide (1 ≤ d.states) && decide (d.states ≤ 1024) && stateF d.states d.start && decide (d.rules.length ≤ 4096) && decide (d.finals.length ≤ 4096)
set_option maxHeartbeats 1000000 in
set_option maxRecDepth 100000 in
theorem rule_calls (d : Desc) (r : Rule) (v u g t : Value) (w : World) (hv : (listR ruleR).rel w (upto w.heap.size) [v] d.rules) (hu : (listR finalR).rel w (upto w.heap.size) [u] d.finals)
    (hg : (listR spansR).rel w (upto w.heap.size) [g] r.guards) (ht : (listR termR).rel w (upto w.heap.size) [t] r.out) :
    Calls Tryz.prog 80 #[.agg #[.int .i64 d.inn, .int .i64 d.out, .int .i64 d.states, .int .i64 d.start, v, u], .agg #[.int .i64 r.src, .int .i64 r.dst, g, .int .i64 r.eat, t]] w fun e w' => e = .returned (.bool (ruleF d r)) ∧ Below w.heap.size w w' := by
  obtain ⟨A1, c1, rfl, hc1, hm1⟩ := list_form hv
  obtain ⟨A2, c2, rfl, hc2, hm2⟩ := list_form hu
  obtain ⟨A3, c3, rfl, hc3, hm3⟩ := list_form hg
  obtain ⟨A4, c4, rfl, hc4, hm4⟩ := list_form ht
  have hs1 := hid fun W => state_calls d.inn d.out d.states d.start (.slice A1 d.rules.length c1) (.slice A2 d.finals.length c2) r.src W
  have hs2 := hid fun W => state_calls d.inn d.out d.states d.start (.slice A1 d.rules.length c1) (.slice A2 d.finals.length c2) r.dst W
  have hgd := hid fun W (hW : Below w.heap.size w W) => guards_calls d.inn r.guards _ W ((listR spansR).mono (below_cells hW) (fun b hb => Nat.lt_of_lt_of_le hb hW.size) hg)
  have HF : Hid (ruleF d r = (stateF d.states r.src && stateF d.states r.dst && guardsF d.inn r.guards && eatF r.guards.length r.eat && writesF d.inn d.out r.out r.guards)) := hid rfl
  cases k1 : stateF d.states r.src
  · rw [k1] at hs1 HF
    clear k1
    have hF : Hid (ruleF d r = false) := hid (by rw [HF.out]; rfl)
    clear hs2 hgd hv hu hg ht HF
    go_enter Tryz.func80, Tryz.ntmps80
    go_wp2_with fail
    refine ((hs1.out _)).mono ?_
    rintro e w1 ⟨rfl, hB1⟩
    have hC1 : Below (w.heap.size + 2) ((w.alloc (.cells #[.int .i64 d.inn, .int .i64 d.out, .int .i64 d.states, .int .i64 d.start, .slice A1 d.rules.length c1, .slice A2 d.finals.length c2] 27)).alloc (.cells #[.int .i64 r.src, .int .i64 r.dst, .slice A3 r.guards.length c3, .int .i64 r.eat, .slice A4 r.out.length c4] 46)) w1 := low hB1 (by simp)
    obtain ⟨⟨p0, p1, p2, p3, p4, p5⟩, ⟨r0, r1, r2, r3, r4⟩⟩ := box65 hC1
    go_wp2_with fail
    go_ret
    exact ⟨by rw [hF.out]; rfl, (((Below.refl w.heap.size w).alloc (Nat.le_refl _) _).alloc (by simp) _).trans (low hC1 (by omega))⟩

  rw [k1] at hs1 HF
  cases k2 : stateF d.states r.dst
  · rw [k2] at hs2 HF
    clear k1 k2
    have hF : Hid (ruleF d r = false) := hid (by rw [HF.out]; rfl)
    clear hgd hv hu hg ht HF
    go_enter Tryz.func80, Tryz.ntmps80
    go_wp2_with fail
    refine ((hs1.out _)).mono ?_
    rintro e w1 ⟨rfl, hB1⟩
    have hC1 : Below (w.heap.size + 2) ((w.alloc (.cells #[.int .i64 d.inn, .int .i64 d.out, .int .i64 d.states, .int .i64 d.start, .slice A1 d.rules.length c1, .slice A2 d.finals.length c2] 27)).alloc (.cells #[.int .i64 r.src, .int .i64 r.dst, .slice A3 r.guards.length c3, .int .i64 r.eat, .slice A4 r.out.length c4] 46)) w1 := low hB1 (by simp)
    obtain ⟨⟨p0, p1, p2, p3, p4, p5⟩, ⟨r0, r1, r2, r3, r4⟩⟩ := box65 hC1
    go_wp2_with fail
    refine ((hs2.out _)).mono ?_
    rintro e w2 ⟨rfl, hB2⟩
    have hz2 := hC1.size
    simp at hz2
    have hC2 := hC1.trans (low hB2 hz2)
    clear p0 p1 p2 p3 p4 p5 r0 r1 r2 r3 r4
    obtain ⟨⟨p0, p1, p2, p3, p4, p5⟩, ⟨r0, r1, r2, r3, r4⟩⟩ := box65 hC2
    go_wp2_with fail
    go_ret
    exact ⟨by rw [hF.out]; rfl, (((Below.refl w.heap.size w).alloc (Nat.le_refl _) _).alloc (by simp) _).trans (low hC2 (by omega))⟩

  rw [k2] at hs2 HF
  cases k3 : guardsF d.inn r.guards
  · rw [k3] at hgd HF
    clear k1 k2 k3
    have hF : Hid (ruleF d r = false) := hid (by rw [HF.out]; rfl)
    clear hv hu hg ht HF
    go_enter Tryz.func80, Tryz.ntmps80
    go_wp2_with fail
    refine ((hs1.out _)).mono ?_
    rintro e w1 ⟨rfl, hB1⟩
    have hC1 : Below (w.heap.size + 2) ((w.alloc (.cells #[.int .i64 d.inn, .int .i64 d.out, .int .i64 d.states, .int .i64 d.start, .slice A1 d.rules.length c1, .slice A2 d.finals.length c2] 27)).alloc (.cells #[.int .i64 r.src, .int .i64 r.dst, .slice A3 r.guards.length c3, .int .i64 r.eat, .slice A4 r.out.length c4] 46)) w1 := low hB1 (by simp)
    obtain ⟨⟨p0, p1, p2, p3, p4, p5⟩, ⟨r0, r1, r2, r3, r4⟩⟩ := box65 hC1
    go_wp2_with fail
    refine ((hs2.out _)).mono ?_
    rintro e w2 ⟨rfl, hB2⟩
    have hz2 := hC1.size
    simp at hz2
    have hC2 := hC1.trans (low hB2 hz2)
    clear p0 p1 p2 p3 p4 p5 r0 r1 r2 r3 r4
    obtain ⟨⟨p0, p1, p2, p3, p4, p5⟩, ⟨r0, r1, r2, r3, r4⟩⟩ := box65 hC2
    go_wp2_with fail
    refine ((hgd.out _ ((((Below.refl w.heap.size w).alloc (Nat.le_refl _) _).alloc (by simp) _).trans (low hC2 (by omega))))).mono ?_
    rintro e w3 ⟨rfl, hB3⟩
    have hz3 := hC2.size
    simp at hz3
    have hC3 := hC2.trans (low hB3 hz3)
    clear p0 p1 p2 p3 p4 p5 r0 r1 r2 r3 r4
    obtain ⟨⟨p0, p1, p2, p3, p4, p5⟩, ⟨r0, r1, r2, r3, r4⟩⟩ := box65 hC3
    go_wp2_with fail
    go_ret
    exact ⟨by rw [hF.out]; rfl, (((Below.refl w.heap.size w).alloc (Nat.le_refl _) _).alloc (by simp) _).trans (low hC3 (by omega))⟩

  have hgood := guardsF_good k3
  rw [k3] at hgd HF
  have HW := hid fun W (hW : Below w.heap.size w W) => writes_calls d.inn d.out d.states d.start (.slice A1 d.rules.length c1) (.slice A2 d.finals.length c2) (.slice A4 r.out.length c4) (.slice A3 r.guards.length c3) r.out r.guards W ((listR termR).mono (below_cells hW) (fun b hb => Nat.lt_of_lt_of_le hb hW.size) ht) ((listR spansR).mono (below_cells hW) (fun b hb => Nat.lt_of_lt_of_le hb hW.size) hg) hgood.1 hgood.2
  clear k1 k2 k3 hgood
  obtain ⟨lo, hlo'⟩ : ∃ lo : Int, lo = if r.guards.length = 0 then (0 : Int) else 1 := ⟨_, rfl⟩
  have hmin : min (r.guards.length : Int) 1 = lo := by rw [hlo']; split <;> omega
  by_cases e1 : r.eat < lo
  · have hF : Hid (ruleF d r = false) := hid (by rw [HF.out, show eatF r.guards.length r.eat = false by unfold eatF; rw [← hlo', decide_eq_false (by omega)]; rfl]; rfl)
    clear hv hu hg ht HF HW hlo'
    go_enter Tryz.func80, Tryz.ntmps80
    go_wp2_with fail
    refine ((hs1.out _)).mono ?_
    rintro e w1 ⟨rfl, hB1⟩
    have hC1 : Below (w.heap.size + 2) ((w.alloc (.cells #[.int .i64 d.inn, .int .i64 d.out, .int .i64 d.states, .int .i64 d.start, .slice A1 d.rules.length c1, .slice A2 d.finals.length c2] 27)).alloc (.cells #[.int .i64 r.src, .int .i64 r.dst, .slice A3 r.guards.length c3, .int .i64 r.eat, .slice A4 r.out.length c4] 46)) w1 := low hB1 (by simp)
    obtain ⟨⟨p0, p1, p2, p3, p4, p5⟩, ⟨r0, r1, r2, r3, r4⟩⟩ := box65 hC1
    go_wp2_with fail
    refine ((hs2.out _)).mono ?_
    rintro e w2 ⟨rfl, hB2⟩
    have hz2 := hC1.size
    simp at hz2
    have hC2 := hC1.trans (low hB2 hz2)
    clear p0 p1 p2 p3 p4 p5 r0 r1 r2 r3 r4
    obtain ⟨⟨p0, p1, p2, p3, p4, p5⟩, ⟨r0, r1, r2, r3, r4⟩⟩ := box65 hC2
    go_wp2_with fail
    refine ((hgd.out _ ((((Below.refl w.heap.size w).alloc (Nat.le_refl _) _).alloc (by simp) _).trans (low hC2 (by omega))))).mono ?_
    rintro e w3 ⟨rfl, hB3⟩
    have hz3 := hC2.size
    simp at hz3
    have hC3 := hC2.trans (low hB3 hz3)
    clear p0 p1 p2 p3 p4 p5 r0 r1 r2 r3 r4
    obtain ⟨⟨p0, p1, p2, p3, p4, p5⟩, ⟨r0, r1, r2, r3, r4⟩⟩ := box65 hC3
    go_wp2_with fail
    go_ret
    exact ⟨by rw [hF.out]; rfl, (((Below.refl w.heap.size w).alloc (Nat.le_refl _) _).alloc (by simp) _).trans (low hC3 (by omega))⟩
  by_cases e2 : r.eat ≤ r.guards.length
  · have e3 : ¬ (r.guards.length : Int) < r.eat := by omega
    have hF : Hid (ruleF d r = writesF d.inn d.out r.out r.guards) := hid (by rw [HF.out, show eatF r.guards.length r.eat = true by unfold eatF; rw [← hlo', decide_eq_true (by omega), decide_eq_true e2]; rfl]; rfl)
    clear hv hu hg ht HF hlo'
    go_enter Tryz.func80, Tryz.ntmps80
    go_wp2_with fail
    refine ((hs1.out _)).mono ?_
    rintro e w1 ⟨rfl, hB1⟩
    have hC1 : Below (w.heap.size + 2) ((w.alloc (.cells #[.int .i64 d.inn, .int .i64 d.out, .int .i64 d.states, .int .i64 d.start, .slice A1 d.rules.length c1, .slice A2 d.finals.length c2] 27)).alloc (.cells #[.int .i64 r.src, .int .i64 r.dst, .slice A3 r.guards.length c3, .int .i64 r.eat, .slice A4 r.out.length c4] 46)) w1 := low hB1 (by simp)
    obtain ⟨⟨p0, p1, p2, p3, p4, p5⟩, ⟨r0, r1, r2, r3, r4⟩⟩ := box65 hC1
    go_wp2_with fail
    refine ((hs2.out _)).mono ?_
    rintro e w2 ⟨rfl, hB2⟩
    have hz2 := hC1.size
    simp at hz2
    have hC2 := hC1.trans (low hB2 hz2)
    clear p0 p1 p2 p3 p4 p5 r0 r1 r2 r3 r4
    obtain ⟨⟨p0, p1, p2, p3, p4, p5⟩, ⟨r0, r1, r2, r3, r4⟩⟩ := box65 hC2
    go_wp2_with fail
    refine ((hgd.out _ ((((Below.refl w.heap.size w).alloc (Nat.le_refl _) _).alloc (by simp) _).trans (low hC2 (by omega))))).mono ?_
    rintro e w3 ⟨rfl, hB3⟩
    have hz3 := hC2.size
    simp at hz3
    have hC3 := hC2.trans (low hB3 hz3)
    clear p0 p1 p2 p3 p4 p5 r0 r1 r2 r3 r4
    obtain ⟨⟨p0, p1, p2, p3, p4, p5⟩, ⟨r0, r1, r2, r3, r4⟩⟩ := box65 hC3
    go_wp2_with fail
    refine ((HW.out _ ((((Below.refl w.heap.size w).alloc (Nat.le_refl _) _).alloc (by simp) _).trans (low hC3 (by omega))))).mono ?_
    rintro e w4 ⟨rfl, hB4⟩
    have hz4 := hC3.size
    simp at hz4
    have hC4 := hC3.trans (low hB4 hz4)
    clear p0 p1 p2 p3 p4 p5 r0 r1 r2 r3 r4
    obtain ⟨⟨p0, p1, p2, p3, p4, p5⟩, ⟨r0, r1, r2, r3, r4⟩⟩ := box65 hC4
    go_wp2_with fail
    go_ret
    exact ⟨by rw [hF.out]; rfl, (((Below.refl w.heap.size w).alloc (Nat.le_refl _) _).alloc (by simp) _).trans (low hC4 (by omega))⟩
  · have e3 : (r.guards.length : Int) < r.eat := by omega
    have hF : Hid (ruleF d r = false) := hid (by rw [HF.out, show eatF r.guards.length r.eat = false by unfold eatF; rw [decide_eq_false e2]; simp]; rfl)
    clear hv hu hg ht HF HW hlo'
    go_enter Tryz.func80, Tryz.ntmps80
    go_wp2_with fail
    refine ((hs1.out _)).mono ?_
    rintro e w1 ⟨rfl, hB1⟩
    have hC1 : Below (w.heap.size + 2) ((w.alloc (.cells #[.int .i64 d.inn, .int .i64 d.out, .int .i64 d.states, .int .i64 d.start, .slice A1 d.rules.length c1, .slice A2 d.finals.length c2] 27)).alloc (.cells #[.int .i64 r.src, .int .i64 r.dst, .slice A3 r.guards.length c3, .int .i64 r.eat, .slice A4 r.out.length c4] 46)) w1 := low hB1 (by simp)
    obtain ⟨⟨p0, p1, p2, p3, p4, p5⟩, ⟨r0, r1, r2, r3, r4⟩⟩ := box65 hC1
    go_wp2_with fail
    refine ((hs2.out _)).mono ?_
    rintro e w2 ⟨rfl, hB2⟩
    have hz2 := hC1.size
    simp at hz2
    have hC2 := hC1.trans (low hB2 hz2)
    clear p0 p1 p2 p3 p4 p5 r0 r1 r2 r3 r4
    obtain ⟨⟨p0, p1, p2, p3, p4, p5⟩, ⟨r0, r1, r2, r3, r4⟩⟩ := box65 hC2
    go_wp2_with fail
    refine ((hgd.out _ ((((Below.refl w.heap.size w).alloc (Nat.le_refl _) _).alloc (by simp) _).trans (low hC2 (by omega))))).mono ?_
    rintro e w3 ⟨rfl, hB3⟩
    have hz3 := hC2.size
    simp at hz3
    have hC3 := hC2.trans (low hB3 hz3)
    clear p0 p1 p2 p3 p4 p5 r0 r1 r2 r3 r4
    obtain ⟨⟨p0, p1, p2, p3, p4, p5⟩, ⟨r0, r1, r2, r3, r4⟩⟩ := box65 hC3
    go_wp2_with fail
    go_ret
    exact ⟨by rw [hF.out]; rfl, (((Below.refl w.heap.size w).alloc (Nat.le_refl _) _).alloc (by simp) _).trans (low hC3 (by omega))⟩
end Go.Proofs.YthfcbbdghggefaaGreat
namespace Go.Proofs.YthfcbbdghggefaaGreat
open Go.Proofs Go.Um Go.RowKit
theorem domF_len {s : Int} : sortF s = decide (0 < (domF s).length) := by
  unfold sortF domF
  by_cases h1 : s = 1
  · subst h1; rfl
  · by_cases h2 : s = 2
    · subst h2; rfl
    · simp [h1, h2]
set_option maxHeartbeats 1000000 in
set_option maxRecDepth 100000 in
theorem head_calls (d : Desc) (v u : Value) (w : World) (hv : (listR ruleR).rel w (upto w.heap.size) [v] d.rules) (hu : (listR finalR).rel w (upto w.heap.size) [u] d.finals) :
    Calls Tryz.prog 79 #[.agg #[.int .i64 d.inn, .int .i64 d.out, .int .i64 d.states, .int .i64 d.start, v, u]] w fun e w' => e = .returned (.bool (headF d)) ∧ Below w.heap.size w w' := by
  obtain ⟨A1, c1, rfl, hc1, hm1⟩ := list_form hv
  obtain ⟨A2, c2, rfl, hc2, hm2⟩ := list_form hu
  have hd1 := hid fun W => Domain_calls d.inn W
  have hd2 := hid fun W => Domain_calls d.out W
  have hs := hid fun W => state_calls d.inn d.out d.states d.start (.slice A1 d.rules.length c1) (.slice A2 d.finals.length c2) d.start W
  have HF : Hid (headF d = (decide (0 < (domF d.inn).length) && decide (0 < (domF d.out).length) && decide (1 ≤ d.states) && decide (d.states ≤ 1024) && stateF d.states d.start && decide (d.rules.length ≤ 4096) && decide (d.finals.length ≤ 4096))) := hid (by unfold headF; rw [domF_len, domF_len])
  clear hv hu
  by_cases e1 : 0 < (domF d.inn).length
  rotate_left
  · have e1' : ¬ (0 : Int) < ((domF d.inn).length : Int) := by omega
    have hF : Hid (headF d = false) := hid (by rw [HF.out, decide_eq_false e1]; rfl)
    clear e1 HF hd2 hs
    go_enter Tryz.func79, Tryz.ntmps79
    go_wp2_with fail
    refine (hd1.out _).mono ?_
    rintro e w1 ⟨x1, rfl, ho1, hB1⟩
    obtain ⟨Aq1, cq1, rfl, _, _⟩ := list_form ho1.rel
    clear ho1
    have hC1 : Below (w.heap.size + 1) (w.alloc (.cells #[.int .i64 d.inn, .int .i64 d.out, .int .i64 d.states, .int .i64 d.start, .slice A1 d.rules.length c1, .slice A2 d.finals.length c2] 27)) w1 := low hB1 (by simp)
    obtain ⟨p0, p1, p2, p3, p4, p5⟩ := box6 hC1
    go_wp2_with fail
    go_ret
    exact ⟨by rw [hF.out]; rfl, ((Below.refl w.heap.size w).alloc (Nat.le_refl _) _).trans (low hC1 (by omega))⟩
  have e1' : (0 : Int) < ((domF d.inn).length : Int) := by omega
  rw [decide_eq_true e1] at HF
  by_cases e2 : 0 < (domF d.out).length
  rotate_left
  · have e2' : ¬ (0 : Int) < ((domF d.out).length : Int) := by omega
    have hF : Hid (headF d = false) := hid (by rw [HF.out, decide_eq_false e2]; rfl)
    clear e1 e2 HF hs
    go_enter Tryz.func79, Tryz.ntmps79
    go_wp2_with fail
    refine (hd1.out _).mono ?_
    rintro e w1 ⟨x1, rfl, ho1, hB1⟩
    obtain ⟨Aq1, cq1, rfl, _, _⟩ := list_form ho1.rel
    clear ho1
    have hC1 : Below (w.heap.size + 1) (w.alloc (.cells #[.int .i64 d.inn, .int .i64 d.out, .int .i64 d.states, .int .i64 d.start, .slice A1 d.rules.length c1, .slice A2 d.finals.length c2] 27)) w1 := low hB1 (by simp)
    obtain ⟨p0, p1, p2, p3, p4, p5⟩ := box6 hC1
    go_wp2_with fail
    refine (hd2.out _).mono ?_
    rintro e w2 ⟨x2, rfl, ho2, hB2⟩
    obtain ⟨Aq2, cq2, rfl, _, _⟩ := list_form ho2.rel
    clear ho2
    clear p0 p1 p2 p3 p4 p5
    have hz2 := hC1.size
    simp at hz2
    have hC2 := hC1.trans (low hB2 hz2)
    obtain ⟨p0, p1, p2, p3, p4, p5⟩ := box6 hC2
    go_wp2_with fail
    go_ret
    exact ⟨by rw [hF.out]; rfl, ((Below.refl w.heap.size w).alloc (Nat.le_refl _) _).trans (low hC2 (by omega))⟩
  have e2' : (0 : Int) < ((domF d.out).length : Int) := by omega
  rw [decide_eq_true e2] at HF
  by_cases e3 : 1 ≤ d.states
  rotate_left
  · have hF : Hid (headF d = false) := hid (by rw [HF.out, decide_eq_false e3]; rfl)
    clear e1 e2 HF hs
    go_enter Tryz.func79, Tryz.ntmps79
    go_wp2_with fail
    refine (hd1.out _).mono ?_
    rintro e w1 ⟨x1, rfl, ho1, hB1⟩
    obtain ⟨Aq1, cq1, rfl, _, _⟩ := list_form ho1.rel
    clear ho1
    have hC1 : Below (w.heap.size + 1) (w.alloc (.cells #[.int .i64 d.inn, .int .i64 d.out, .int .i64 d.states, .int .i64 d.start, .slice A1 d.rules.length c1, .slice A2 d.finals.length c2] 27)) w1 := low hB1 (by simp)
    obtain ⟨p0, p1, p2, p3, p4, p5⟩ := box6 hC1
    go_wp2_with fail
    refine (hd2.out _).mono ?_
    rintro e w2 ⟨x2, rfl, ho2, hB2⟩
    obtain ⟨Aq2, cq2, rfl, _, _⟩ := list_form ho2.rel
    clear ho2
    clear p0 p1 p2 p3 p4 p5
    have hz2 := hC1.size
    simp at hz2
    have hC2 := hC1.trans (low hB2 hz2)
    obtain ⟨p0, p1, p2, p3, p4, p5⟩ := box6 hC2
    go_wp2_with fail
    go_ret
    exact ⟨by rw [hF.out]; rfl, ((Below.refl w.heap.size w).alloc (Nat.le_refl _) _).trans (low hC2 (by omega))⟩
  rw [decide_eq_true e3] at HF
  by_cases e4 : d.states ≤ 1024
  rotate_left
  · have hF : Hid (headF d = false) := hid (by rw [HF.out, decide_eq_false e4]; rfl)
    clear e1 e2 HF hs
    go_enter Tryz.func79, Tryz.ntmps79
    go_wp2_with fail
    refine (hd1.out _).mono ?_
    rintro e w1 ⟨x1, rfl, ho1, hB1⟩
    obtain ⟨Aq1, cq1, rfl, _, _⟩ := list_form ho1.rel
    clear ho1
    have hC1 : Below (w.heap.size + 1) (w.alloc (.cells #[.int .i64 d.inn, .int .i64 d.out, .int .i64 d.states, .int .i64 d.start, .slice A1 d.rules.length c1, .slice A2 d.finals.length c2] 27)) w1 := low hB1 (by simp)
    obtain ⟨p0, p1, p2, p3, p4, p5⟩ := box6 hC1
    go_wp2_with fail
    refine (hd2.out _).mono ?_
    rintro e w2 ⟨x2, rfl, ho2, hB2⟩
    obtain ⟨Aq2, cq2, rfl, _, _⟩ := list_form ho2.rel
    clear ho2
    clear p0 p1 p2 p3 p4 p5
    have hz2 := hC1.size
    simp at hz2
    have hC2 := hC1.trans (low hB2 hz2)
    obtain ⟨p0, p1, p2, p3, p4, p5⟩ := box6 hC2
    go_wp2_with fail
    go_ret
    exact ⟨by rw [hF.out]; rfl, ((Below.refl w.heap.size w).alloc (Nat.le_refl _) _).trans (low hC2 (by omega))⟩
  rw [decide_eq_true e4] at HF
  cases k : stateF d.states d.start
  · rw [k] at hs HF
    have hF : Hid (headF d = false) := hid (by rw [HF.out]; rfl)
    clear e1 e2 HF k
    go_enter Tryz.func79, Tryz.ntmps79
    go_wp2_with fail
    refine (hd1.out _).mono ?_
    rintro e w1 ⟨x1, rfl, ho1, hB1⟩
    obtain ⟨Aq1, cq1, rfl, _, _⟩ := list_form ho1.rel
    clear ho1
    have hC1 : Below (w.heap.size + 1) (w.alloc (.cells #[.int .i64 d.inn, .int .i64 d.out, .int .i64 d.states, .int .i64 d.start, .slice A1 d.rules.length c1, .slice A2 d.finals.length c2] 27)) w1 := low hB1 (by simp)
    obtain ⟨p0, p1, p2, p3, p4, p5⟩ := box6 hC1
    go_wp2_with fail
    refine (hd2.out _).mono ?_
    rintro e w2 ⟨x2, rfl, ho2, hB2⟩
    obtain ⟨Aq2, cq2, rfl, _, _⟩ := list_form ho2.rel
    clear ho2
    clear p0 p1 p2 p3 p4 p5
    have hz2 := hC1.size
    simp at hz2
    have hC2 := hC1.trans (low hB2 hz2)
    obtain ⟨p0, p1, p2, p3, p4, p5⟩ := box6 hC2
    go_wp2_with fail
    refine (hs.out _).mono ?_
    rintro e w3 ⟨rfl, hB3⟩
    clear p0 p1 p2 p3 p4 p5
    have hz3 := hC2.size
    simp at hz3
    have hC3 := hC2.trans (low hB3 hz3)
    obtain ⟨p0, p1, p2, p3, p4, p5⟩ := box6 hC3
    go_wp2_with fail
    go_ret
    exact ⟨by rw [hF.out]; rfl, ((Below.refl w.heap.size w).alloc (Nat.le_refl _) _).trans (low hC3 (by omega))⟩
  rw [k] at hs HF
  clear k
  by_cases e5 : d.rules.length ≤ 4096
  rotate_left
  · have hF : Hid (headF d = false) := hid (by rw [HF.out, decide_eq_false e5]; rfl)
    have e5' : ¬ (d.rules.length : Int) ≤ 4096 := by omega
    clear e1 e2 HF e5
    go_enter Tryz.func79, Tryz.ntmps79
    go_wp2_with fail
    refine (hd1.out _).mono ?_
    rintro e w1 ⟨x1, rfl, ho1, hB1⟩
    obtain ⟨Aq1, cq1, rfl, _, _⟩ := list_form ho1.rel
    clear ho1
    have hC1 : Below (w.heap.size + 1) (w.alloc (.cells #[.int .i64 d.inn, .int .i64 d.out, .int .i64 d.states, .int .i64 d.start, .slice A1 d.rules.length c1, .slice A2 d.finals.length c2] 27)) w1 := low hB1 (by simp)
    obtain ⟨p0, p1, p2, p3, p4, p5⟩ := box6 hC1
    go_wp2_with fail
    refine (hd2.out _).mono ?_
    rintro e w2 ⟨x2, rfl, ho2, hB2⟩
    obtain ⟨Aq2, cq2, rfl, _, _⟩ := list_form ho2.rel
    clear ho2
    clear p0 p1 p2 p3 p4 p5
    have hz2 := hC1.size
    simp at hz2
    have hC2 := hC1.trans (low hB2 hz2)
    obtain ⟨p0, p1, p2, p3, p4, p5⟩ := box6 hC2
    go_wp2_with fail
    refine (hs.out _).mono ?_
    rintro e w3 ⟨rfl, hB3⟩
    clear p0 p1 p2 p3 p4 p5
    have hz3 := hC2.size
    simp at hz3
    have hC3 := hC2.trans (low hB3 hz3)
    obtain ⟨p0, p1, p2, p3, p4, p5⟩ := box6 hC3
    go_wp2_with fail
    go_ret
    exact ⟨by rw [hF.out]; rfl, ((Below.refl w.heap.size w).alloc (Nat.le_refl _) _).trans (low hC3 (by omega))⟩
  rw [decide_eq_true e5] at HF
  have e5' : (d.rules.length : Int) ≤ 4096 := by omega
  by_cases e6 : d.finals.length ≤ 4096
  · have hF : Hid (headF d = true) := hid (by rw [HF.out, decide_eq_true e6]; rfl)
    have e6' : (d.finals.length : Int) ≤ 4096 := by omega
    clear e1 e2 HF e5 e6
    go_enter Tryz.func79, Tryz.ntmps79
    go_wp2_with fail
    refine (hd1.out _).mono ?_
    rintro e w1 ⟨x1, rfl, ho1, hB1⟩
    obtain ⟨Aq1, cq1, rfl, _, _⟩ := list_form ho1.rel
    clear ho1
    have hC1 : Below (w.heap.size + 1) (w.alloc (.cells #[.int .i64 d.inn, .int .i64 d.out, .int .i64 d.states, .int .i64 d.start, .slice A1 d.rules.length c1, .slice A2 d.finals.length c2] 27)) w1 := low hB1 (by simp)
    obtain ⟨p0, p1, p2, p3, p4, p5⟩ := box6 hC1
    go_wp2_with fail
    refine (hd2.out _).mono ?_
    rintro e w2 ⟨x2, rfl, ho2, hB2⟩
    obtain ⟨Aq2, cq2, rfl, _, _⟩ := list_form ho2.rel
    clear ho2
    clear p0 p1 p2 p3 p4 p5
    have hz2 := hC1.size
    simp at hz2
    have hC2 := hC1.trans (low hB2 hz2)
    obtain ⟨p0, p1, p2, p3, p4, p5⟩ := box6 hC2
    go_wp2_with fail
    refine (hs.out _).mono ?_
    rintro e w3 ⟨rfl, hB3⟩
    clear p0 p1 p2 p3 p4 p5
    have hz3 := hC2.size
    simp at hz3
    have hC3 := hC2.trans (low hB3 hz3)
    obtain ⟨p0, p1, p2, p3, p4, p5⟩ := box6 hC3
    go_wp2_with fail
    go_ret
    exact ⟨by rw [hF.out]; rfl, ((Below.refl w.heap.size w).alloc (Nat.le_refl _) _).trans (low hC3 (by omega))⟩
  · have hF : Hid (headF d = false) := hid (by rw [HF.out, decide_eq_false e6]; rfl)
    have e6' : ¬ (d.finals.length : Int) ≤ 4096 := by omega
    have e6'' : decide ((d.finals.length : Int) ≤ 4096) = false := decide_eq_false e6'
    clear e1 e2 HF e5 e6
    go_enter Tryz.func79, Tryz.ntmps79
    go_wp2_with fail
    refine (hd1.out _).mono ?_
    rintro e w1 ⟨x1, rfl, ho1, hB1⟩
    obtain ⟨Aq1, cq1, rfl, _, _⟩ := list_form ho1.rel
    clear ho1
    have hC1 : Below (w.heap.size + 1) (w.alloc (.cells #[.int .i64 d.inn, .int .i64 d.out, .int .i64 d.states, .int .i64 d.start, .slice A1 d.rules.length c1, .slice A2 d.finals.length c2] 27)) w1 := low hB1 (by simp)
    obtain ⟨p0, p1, p2, p3, p4, p5⟩ := box6 hC1
    go_wp2_with fail
    refine (hd2.out _).mono ?_
    rintro e w2 ⟨x2, rfl, ho2, hB2⟩
    obtain ⟨Aq2, cq2, rfl, _, _⟩ := list_form ho2.rel
    clear ho2
    clear p0 p1 p2 p3 p4 p5
    have hz2 := hC1.size
    simp at hz2
    have hC2 := hC1.trans (low hB2 hz2)
    obtain ⟨p0, p1, p2, p3, p4, p5⟩ := box6 hC2
    go_wp2_with fail
    refine (hs.out _).mono ?_
    rintro e w3 ⟨rfl, hB3⟩
    clear p0 p1 p2 p3 p4 p5
    have hz3 := hC2.size
    simp at hz3
    have hC3 := hC2.trans (low hB3 hz3)
    obtain ⟨p0, p1, p2, p3, p4, p5⟩ := box6 hC3
    go_wp2_with fail
    go_ret
    exact ⟨by rw [hF.out]; rfl, ((Below.refl w.heap.size w).alloc (Nat.le_refl _) _).trans (low hC3 (by omega))⟩
end Go.Proofs.YthfcbbdghggefaaGreat
namespace Go.Proofs.YthfcbbdghggefaaGreat
open Go.Proofs Go.Um Go.RowKit
theorem infoSI : (Tryz.prog.info? 73).map (fun i => (i.zero, i.size, i.bytes)) = some (some (.slice none 0 0), 1, 24) := by kernel_rfl
theorem ints_in {w : World} {base : Nat} {v : Value} {zs : List Int} {S : Nat → Prop} (h : w.ownsRow base 3 1 v zs.length (zs.map (Value.int .i64))) (hz : ∀ z ∈ zs, I64 z) (hS : ∀ g, v.ownBlock = some g → S g) : (listR intR).rel w S [v] zs := by
  have e : zs.map (Value.int .i64) = zs.flatMap (fun z => [Value.int .i64 z]) := by
    clear h hz
    induction zs with
    | nil => rfl
    | cons z zs ih => simp [ih]
  rw [e] at h
  exact own_list (r := intR) (enc := fun z => [Value.int .i64 z]) h hS fun x hx => ⟨rfl, rfl, hz x hx⟩
theorem own_shape {w : World} {base : Nat} {e : TypeId} {size n : Nat} {v : Value} {xs : List Value} (h : w.ownsRow base e size v n xs) : ∃ A c, v = .slice A n c := by
  rcases h.2 with ⟨rfl, rfl⟩ | ⟨g, cap, cur, h1, _⟩
  · exact ⟨_, _, rfl⟩
  · exact ⟨_, _, h1⟩
set_option maxHeartbeats 1000000 in
set_option maxRecDepth 100000 in
theorem cycle_calls (d : Desc) (v u : Value) (w : World) (n : Nat) (hv : (listR ruleR).rel w (upto w.heap.size) [v] d.rules) (hn : d.states = n) (hn1 : n ≤ 1024) (hl : d.rules.length ≤ 4096)
    (hr : ∀ r ∈ d.rules, (0 ≤ r.src ∧ r.src < d.states) ∧ 0 ≤ r.dst ∧ r.dst < d.states) :
    Calls Tryz.prog 84 #[.agg #[.int .i64 d.inn, .int .i64 d.out, .int .i64 d.states, .int .i64 d.start, v, u]] w fun e w' => e = .returned (.bool (kahnF (edgesF d.rules) n)) ∧ Below w.heap.size w w' := by
  obtain ⟨A1, c1, rfl, hc1, hm1⟩ := list_form hv
  unfold maxLen at hm1
  obtain ⟨iss, his0, hisz, his1, his2⟩ := info_parts infoSI
  obtain ⟨inf3, hi3, hy0, hy1, hy2⟩ := info_parts info3
  have hmk : ∀ W : World, (Instr.makeSlice 86 (.int .i64 n) (.int .i64 n)).run Tryz.prog W = .ok (.slice (some ⟨W.heap.size, 0, none⟩) n n) (W.alloc (.cells (madeCells (Value.slice none 0 0).cells (n * iss.size)) 73)) :=
    fun W => make_rowN (P := Tryz.prog) 86 73 iss (.slice none 0 0) Tryz.underlying86 his0 hisz .i64 .i64 n n (Nat.le_refl _) (by rw [his2]; omega) (by omega) W
  rw [his1] at hmk
  have hmk2 : ∀ W : World, (Instr.makeSlice 73 (.int .i64 n) (.int .i64 n)).run Tryz.prog W = .ok (.slice (some ⟨W.heap.size, 0, none⟩) n n) (W.alloc (.cells (madeCells (Value.int .i64 0).cells (n * inf3.size)) 3)) :=
    fun W => make_rowN (P := Tryz.prog) 73 3 inf3 (.int .i64 0) Tryz.underlying73 hi3 hy0 .i64 .i64 n n (Nat.le_refl _) (by rw [hy2]; omega) (by omega) W
  rw [hy1] at hmk2
  rw [hn] at hr ⊢
  have HR := hid hr
  clear hr
  go_enter Tryz.func84, Tryz.ntmps84
  go_wp2_with fail
  have hR0 : OwnRows (((w.alloc (.cells #[.int .i64 d.inn, .int .i64 d.out, .int .i64 n, .int .i64 d.start, .slice A1 d.rules.length c1, u] 27)).alloc (.cells (madeCells #[.slice none 0 0] n) 73)).alloc (.cells (madeCells #[.int .i64 0] n) 3)) (w.heap.size + 1) (w.heap.size + 3) 3 73 n (fun s => toF (edgesF (d.rules.take 0)) s) := by
    refine ⟨List.replicate n (.slice none 0 0), by simp, ?_, fun s v hv => ?_, fun s s' v v' g _ hv _ hg => ?_⟩
    · rw [Below.heap_alloc _ _ _ (by simp)]
      rw [show w.heap.size + 1 = (w.alloc (.cells #[.int .i64 d.inn, .int .i64 d.out, .int .i64 n, .int .i64 d.start, .slice A1 d.rules.length c1, u] 27)).heap.size by simp, heap_alloc_new, ← toList_madeCells_one]
    · obtain ⟨_, rfl⟩ := List.mem_replicate.1 (List.mem_of_getElem? hv)
      exact World.ownsRow_nil _ _ _ _
    · obtain ⟨_, rfl⟩ := List.mem_replicate.1 (List.mem_of_getElem? hv)
      cases hg
  have hI0 : InRow (((w.alloc (.cells #[.int .i64 d.inn, .int .i64 d.out, .int .i64 n, .int .i64 d.start, .slice A1 d.rules.length c1, u] 27)).alloc (.cells (madeCells #[.slice none 0 0] n) 73)).alloc (.cells (madeCells #[.int .i64 0] n) 3)) (w.heap.size + 2) 3 n (innF (edgesF (d.rules.take 0))) := by
    show _ = some (Obj.cells (inVals n (fun _ => 0)).toArray _ _)
    rw [show w.heap.size + 2 = ((w.alloc (.cells #[.int .i64 d.inn, .int .i64 d.out, .int .i64 n, .int .i64 d.start, .slice A1 d.rules.length c1, u] 27)).alloc (.cells (madeCells #[.slice none 0 0] n) 73)).heap.size by simp, heap_alloc_new, inVals_zero, ← toList_madeCells_one]
  have hX0 : (((w.alloc (.cells #[.int .i64 d.inn, .int .i64 d.out, .int .i64 n, .int .i64 d.start, .slice A1 d.rules.length c1, u] 27)).alloc (.cells (madeCells #[.slice none 0 0] n) 73)).alloc (.cells (madeCells #[.int .i64 0] n) 3)).heap[w.heap.size]? = some (.cells #[.int .i64 d.inn, .int .i64 d.out, .int .i64 n, .int .i64 d.start, .slice A1 d.rules.length c1, u] 27) := by
    rw [Below.heap_alloc _ _ _ (by simp; omega), Below.heap_alloc _ _ _ (by simp), heap_alloc_new]
  have hB0 : Below w.heap.size w (((w.alloc (.cells #[.int .i64 d.inn, .int .i64 d.out, .int .i64 n, .int .i64 d.start, .slice A1 d.rules.length c1, u] 27)).alloc (.cells (madeCells #[.slice none 0 0] n) 73)).alloc (.cells (madeCells #[.int .i64 0] n) 3)) := ((((Below.refl _ w).alloc (Nat.le_refl _) _).alloc (by simp) _).alloc (by simp; omega) _)
  have hS0 : (((w.alloc (.cells #[.int .i64 d.inn, .int .i64 d.out, .int .i64 n, .int .i64 d.start, .slice A1 d.rules.length c1, u] 27)).alloc (.cells (madeCells #[.slice none 0 0] n) 73)).alloc (.cells (madeCells #[.int .i64 0] n) 3)).heap.size = w.heap.size + 3 := by simp
  generalize (((w.alloc (.cells #[.int .i64 d.inn, .int .i64 d.out, .int .i64 n, .int .i64 d.start, .slice A1 d.rules.length c1, u] 27)).alloc (.cells (madeCells #[.slice none 0 0] n) 73)).alloc (.cells (madeCells #[.int .i64 0] n) 3)) = wm at *
  go_loopw [23] (fun vi wr => ∃ k : Nat, k ≤ d.rules.length ∧ vi = .int .i64 k ∧ OwnRows wr (w.heap.size + 1) (w.heap.size + 3) 3 73 n (fun s => toF (edgesF (d.rules.take k)) s) ∧ InRow wr (w.heap.size + 2) 3 n (innF (edgesF (d.rules.take k))) ∧
      wr.heap[w.heap.size]? = some (.cells #[.int .i64 d.inn, .int .i64 d.out, .int .i64 n, .int .i64 d.start, .slice A1 d.rules.length c1, u] 27) ∧ Below w.heap.size w wr ∧ w.heap.size + 3 ≤ wr.heap.size) (fun vi _ => d.rules.length - (intOf vi).toNat)
  case atStart => exact ⟨0, Nat.zero_le _, rfl, hR0, hI0, hX0, hB0, by omega⟩
  case round =>
    clear hR0 hI0 hX0 hB0 hS0
    obtain ⟨k, hk, rfl, hR, hI, hX, hB, hS⟩ := hrel
    obtain ⟨wo, hwo⟩ : ∃ wo, wo = wr := ⟨_, rfl⟩
    subst hwo
    have hrw := (listR ruleR).mono (below_cells hB) (fun _ h => h) hv
    by_cases hlt : k < d.rules.length
    · obtain ⟨⟨sx, dx, gx, ex, ox⟩, hx⟩ := at_lt hlt
      obtain ⟨⟨hs0, hs1⟩, hd0, hd1⟩ := HR.out _ (List.mem_of_getElem? hx)
      dsimp only at hs0 hs1 hd0 hd1
      obtain ⟨s, rfl⟩ : ∃ s : Nat, sx = s := ⟨sx.toNat, by omega⟩
      obtain ⟨t, rfl⟩ : ∃ t : Nat, dx = t := ⟨dx.toNat, by omega⟩
      have hsn : s < n := by omega
      have htn : t < n := by omega
      have hlt' : (k : Int) < d.rules.length := by omega
      have HE : Hid (edgesF (d.rules.take (k + 1)) = edgesF (d.rules.take k) ++ (if gx.length = 0 then [((s : Int), (t : Int))] else [])) := hid (by rw [take_snoc hx, edgesF_snoc])
      obtain ⟨b, o, y, z, rfl, hb, q1, q2, q3, q4, q5, q6, hy, hz⟩ := rule_at hrw hx
      obtain ⟨A3, c3, rfl, _, _⟩ := list_form hy
      obtain ⟨A4, c4, rfl, _, _⟩ := list_form hz
      have hbs : b < wo.heap.size := Nat.lt_of_lt_of_le hb hB.size
      have HRr := hid hR
      have HI := hid hI
      have HX := hid hX
      clear hR hI hX hrw hx hy hz q6
      dsimp only at q1 q2 q3 q4 q5
      obtain ⟨wa, hwa⟩ : ∃ wa, wa = wo.alloc (.cells #[.int .i64 s, .int .i64 t, .slice A3 gx.length c3, .int .i64 ex, .slice A4 ox.length c4] 46) := ⟨_, rfl⟩
      by_cases h0 : gx.length = 0
      · have h0' : ((gx.length : Int) == 0) = true := beq_t (by omega)
        have HE2 : Hid (edgesF (d.rules.take (k + 1)) = edgesF (d.rules.take k) ++ [((s : Int), (t : Int))]) := hid (by rw [HE.out, if_pos h0])
        clear HE h0
        obtain ⟨vs, e1, e2, ho, hback⟩ := HRr.out.at hsn
        obtain ⟨A9, c9, rfl⟩ := own_shape ho
        have HO := hid ho
        have HBK := hid hback
        obtain ⟨i1, i2⟩ := HI.out.at htn
        obtain ⟨ib1, ib2⟩ := innF_bounds (edgesF (d.rules.take k)) t
        have hel : (edgesF (d.rules.take k)).length ≤ 4096 := Nat.le_trans (edgesF_len _) (by rw [List.length_take]; omega)
        have htl : (toF (edgesF (d.rules.take k)) s).length ≤ 4096 := Nat.le_trans (toF_len _ _) hel
        obtain ⟨IT, hIT⟩ : ∃ IT, IT = innF (edgesF (d.rules.take k)) t := ⟨_, rfl⟩
        rw [← hIT] at i1 ib1 ib2
        have HIT := hid hIT
        clear ho hback hIT
        have e1a : (wo.alloc (.cells #[.int .i64 s, .int .i64 t, .slice A3 gx.length c3, .int .i64 ex, .slice A4 ox.length c4] 46)).cell? ⟨w.heap.size + 1, s, none⟩ = some _ := (World.cell?_of_block (Below.heap_alloc _ _ _ (by show w.heap.size + 1 < _; omega))).trans e1
        have hwa := heap_alloc_new wo (.cells #[.int .i64 s, .int .i64 t, .slice A3 gx.length c3, .int .i64 ex, .slice A4 ox.length c4] 46)
        go_wp2_with fail
        obtain ⟨ι, W, ⟨i0, hi0⟩, hW, Wsur⟩ := held_class (wo.alloc (.cells #[.int .i64 s, .int .i64 t, .slice A3 gx.length c3, .int .i64 ex, .slice A4 ox.length c4] 46)).drew (fun g => g = wo.heap.size ∨ g = w.heap.size + 1)
        have hne : Nonempty ι := ⟨i0⟩
        have g1 : ∀ i, (W i).cell? ⟨wo.heap.size, 0, none⟩ = some (.int .i64 s) := fun i => (World.cell?_of_block (a := ⟨wo.heap.size, 0, none⟩) (hW i _ (.inl rfl))).trans (cell_of_row (wo.alloc (.cells #[.int .i64 s, .int .i64 t, .slice A3 gx.length c3, .int .i64 ex, .slice A4 ox.length c4] 46)) _ 0 _ _ _ hwa)
        have g2 : ∀ i, (W i).cell? ⟨wo.heap.size, 1, none⟩ = some (.int .i64 t) := fun i => (World.cell?_of_block (a := ⟨wo.heap.size, 1, none⟩) (hW i _ (.inl rfl))).trans (cell_of_row (wo.alloc (.cells #[.int .i64 s, .int .i64 t, .slice A3 gx.length c3, .int .i64 ex, .slice A4 ox.length c4] 46)) _ 1 _ _ _ hwa)
        have g3 : ∀ i, (W i).cell? ⟨w.heap.size + 1, s, none⟩ = some _ := fun i => (World.cell?_of_block (a := ⟨w.heap.size + 1, s, none⟩) (hW i _ (.inr rfl))).trans e1a
        have WS := hid Wsur; clear Wsur
        have HW := hid hW; clear hW
        have Hi0 := hid hi0; clear hi0
        refine region_anyL (S := fun w' => ∃ i, w' = W i) (last := 13) (by kernel_rfl) ?_
        refine anyL_seg 0 10 (by kernel_rfl) (fun _ _ _ _ _ h => h) ⟨i0, Hi0.out.symm⟩ (f := 4) rfl (by kernel_rfl) (by kernel_rfl) ?_
        simp only [List.drop_zero, List.take_succ_cons, List.take_zero]
        repeat go_big_quiet_step (fail)
        refine wpQuiet_nil ?_
        refine anyL_act (i := 10) (by kernel_rfl) rfl rfl ?_
        intro K hK
        go_wp2_with fail
        have hS1 : ∃ i, ((wo.alloc (.cells #[.int .i64 s, .int .i64 t, .slice A3 gx.length c3, .int .i64 ex, .slice A4 ox.length c4] 46)).alloc (.cells #[.int .i64 t] 3)).drew = W i := WS.out _ (fun g hg => Below.heap_alloc _ _ _ (by rcases hg with rfl | rfl <;> (simp <;> omega)))
        refine hK.out _ _ (fun _ => hS1) ?_
        clear hK K
        refine anyL_act (i := 11) (by kernel_rfl) rfl rfl ?_
        intro K hK
        have hoa := (HO.out.alloc (.cells #[.int .i64 s, .int .i64 t, .slice A3 gx.length c3, .int .i64 ex, .slice A4 ox.length c4] 46)).alloc (.cells #[.int .i64 t] 3)
        refine act_append_at _ _ 73 rfl (w.heap.size + 3) 3 inf3 (.int .i64 0) 1 8 Tryz.underlying73 hi3 hy0 hy1 hy2 rfl (by decide) (.slice A9 (toF (edgesF (d.rules.take k)) s).length c9) _ _ rfl (ownsRow_drew hoa) ⟨wo.heap.size + 1, 0, none⟩ 1 1 [.int .i64 t] rfl rfl (news_at (w := wo.alloc (.cells #[.int .i64 s, .int .i64 t, .slice A3 gx.length c3, .int .i64 ex, .slice A4 ox.length c4] 46)) (cs := #[_]) (by simp)) (by simp [Value.oneCell']) (by unfold maxLen; omega) (by omega) (by simp; omega) ?_
        intro v' w1 hown' hgrow hnil hloc
        have hGb : w.heap.size + 1 < w.heap.size + 3 := by omega
        have hdr : ((wo.alloc (.cells #[.int .i64 s, .int .i64 t, .slice A3 gx.length c3, .int .i64 ex, .slice A4 ox.length c4] 46)).alloc (.cells #[.int .i64 t] 3)).grownBy ((wo.alloc (.cells #[.int .i64 s, .int .i64 t, .slice A3 gx.length c3, .int .i64 ex, .slice A4 ox.length c4] 46)).alloc (.cells #[.int .i64 t] 3)).drew (Value.slice A9 (toF (edgesF (d.rules.take k)) s).length c9).ownBlock := ⟨rfl, rfl, rfl, Nat.le_refl _, fun _ _ _ => rfl⟩
        have hgr : wo.grownBy w1 (Value.slice A9 (toF (edgesF (d.rules.take k)) s).length c9).ownBlock := (((World.grownBy_alloc wo (.cells #[.int .i64 s, .int .i64 t, .slice A3 gx.length c3, .int .i64 ex, .slice A4 ox.length c4] 46) _).trans (World.grownBy_alloc _ (.cells #[.int .i64 t] 3) _)).trans hdr).trans hgrow
        have hnw : OwnRows (w1.setCell ⟨w.heap.size + 1, s, none⟩ v') (w.heap.size + 1) (w.heap.size + 3) 3 73 n (fun r => toF (edgesF (d.rules.take (k + 1))) r) := by
          have := HBK.out w1 v' t hgr hown' (hloc.imp id fun e => ⟨_, e, by simp; omega⟩) (by omega)
          rw [HE2.out]
          have he : (fun r : Nat => toF (edgesF (d.rules.take k) ++ [((s : Int), (t : Int))]) r) = fun r : Nat => if r = s then toF (edgesF (d.rules.take k)) s ++ [(t : Int)] else toF (edgesF (d.rules.take k)) r := by
            funext r
            rw [toF_snoc]
            by_cases hrs : r = s
            · subst hrs; simp
            · rw [if_neg (by omega), if_neg hrs]
          rw [he]
          exact this
        have hlow := fun g hg => ((HO.out.lt g hg).1)
        have hin1 : InRow w1 (w.heap.size + 2) 3 n (innF (edgesF (d.rules.take k))) := HI.out.carry (hgr.block _ (by omega) (fun e => by have := hlow _ e.symm; omega))
        have hbx1 : w1.heap[w.heap.size]? = _ := (hgr.block _ (by omega) (fun e => by have := hlow _ e.symm; omega)).trans HX.out
        have hB1 : Below (w.heap.size + 3) wo w1 := (Below.refl _ wo).grown hgr (by omega) (fun j hj => hlow j hj)
        have e1b : w1.cell? ⟨w.heap.size + 1, s, none⟩ = some _ := (hB1.cell (p := ⟨w.heap.size + 1, s, none⟩) (by show w.heap.size + 1 < _; omega)).trans e1
        have e2b : w1.frozen? ⟨w.heap.size + 1, s, none⟩ = false := (hB1.frozen (p := ⟨w.heap.size + 1, s, none⟩) (by show w.heap.size + 1 < _; omega)).trans e2
        have hS2 : ∃ i, w1 = W i := WS.out _ (fun g hg => by
          have hg2 : some g ≠ (Value.slice A9 (toF (edgesF (d.rules.take k)) s).length c9).ownBlock := fun e => by
            have := HO.out.lt g e.symm
            rcases hg with rfl | rfl <;> omega
          rw [hgrow.block g (by rcases hg with rfl | rfl <;> (simp <;> omega)) hg2]
          exact Below.heap_alloc _ _ _ (by rcases hg with rfl | rfl <;> (simp <;> omega)))
        obtain ⟨A8, c8, rfl⟩ := own_shape hown'
        refine hK.out _ _ (fun _ => hS2) ?_
        clear hK K
        refine anyL_act (i := 12) (by kernel_rfl) rfl rfl ?_
        intro K hK
        go_wp2_with fail
        refine hK.out _ _ (fun _ => hS2) ?_
        clear hK K
        refine anyL_act (i := 13) (by kernel_rfl) rfl rfl ?_
        intro K hK
        go_wp2_with fail
        refine hK.out _ _ (fun h => absurd rfl h) ?_
        clear hK K
        refine anyL_done (by kernel_rfl) ?_ _
        have hr1 : w1.heap[wo.heap.size]? = some (.cells #[.int .i64 s, .int .i64 t, .slice A3 gx.length c3, .int .i64 ex, .slice A4 ox.length c4] 46) := by
          rw [hgrow.block wo.heap.size (by simp; omega) (fun e => by have := (HO.out.lt _ e.symm).2; omega)]
          exact (Below.heap_alloc _ _ _ (by simp)).trans hwa
        have hinz := hin1.carry (heap_setCell_other w1 ⟨w.heap.size + 1, s, none⟩ (w.heap.size + 2) (.slice A8 ((toF (edgesF (d.rules.take k)) s).length + 1) c8) (by show _ ≠ w.heap.size + 1; omega))
        have hbxz := (heap_setCell_other w1 ⟨w.heap.size + 1, s, none⟩ w.heap.size (.slice A8 ((toF (edgesF (d.rules.take k)) s).length + 1) c8) (by show _ ≠ w.heap.size + 1; omega)).trans hbx1
        have hrz := (heap_setCell_other w1 ⟨w.heap.size + 1, s, none⟩ wo.heap.size (.slice A8 ((toF (edgesF (d.rules.take k)) s).length + 1) c8) (by show _ ≠ w.heap.size + 1; omega)).trans hr1
        have hBz : Below w.heap.size w (w1.setCell ⟨w.heap.size + 1, s, none⟩ (.slice A8 ((toF (edgesF (d.rules.take k)) s).length + 1) c8)) := (hB.trans (hB1.mono (by omega))).setCell (p := ⟨w.heap.size + 1, s, none⟩) (by show w.heap.size ≤ w.heap.size + 1; omega) _
        have hSz : w.heap.size + 3 ≤ (w1.setCell ⟨w.heap.size + 1, s, none⟩ (.slice A8 ((toF (edgesF (d.rules.take k)) s).length + 1) c8)).heap.size := by have := hB1.size; simp; omega
        clear hr1 hin1 hbx1 hB1 e1b e2b hS1 hS2 hlow hgr hgrow hnil hloc hown' hdr hoa g1 g2 g3 WS HW Hi0 hne i0 W ι HBK HO hwa e1a e1 e2 i1 i2
        generalize w1.setCell ⟨w.heap.size + 1, s, none⟩ (.slice A8 ((toF (edgesF (d.rules.take k)) s).length + 1) c8) = wz at *
        have r1 := cell_of_row _ _ 1 _ _ _ hrz
        obtain ⟨i1, i2⟩ := hinz.at htn
        rw [← HIT.out] at i1
        have hput := hinz.put htn (IT + 1)
        have HPUT : Hid (InRow (wz.setCell ⟨w.heap.size + 2, t, none⟩ (.int .i64 (IT + 1))) (w.heap.size + 2) 3 n (innF (edgesF (d.rules.take (k + 1))))) := hid (by
          have he : innF (edgesF (d.rules.take (k + 1))) = fun x : Int => if x = t then IT + 1 else innF (edgesF (d.rules.take k)) x := by
            funext x
            rw [HE2.out, innF_snoc]
            by_cases hx : x = t
            · subst hx; rw [if_pos rfl, if_pos rfl, ← HIT.out]
            · rw [if_neg hx, if_neg hx]
          rw [he]; exact hput)
        have HNW := hid (hnw.carry (w' := wz.setCell ⟨w.heap.size + 2, t, none⟩ (.int .i64 (IT + 1))) (heap_setCell_other wz _ _ _ (by show _ ≠ w.heap.size + 2; omega)) (fun g hg _ => heap_setCell_other wz _ _ _ (by show _ ≠ w.heap.size + 2; omega)))
        have HBZ := hid hbxz
        clear hput hnw hbxz hrz hinz
        simp at r1
        go_wp2_with fail
        refine ⟨⟨k + 1, by omega, by push_cast; rfl, HNW.out, HPUT.out, (heap_setCell_other wz _ _ _ (by show _ ≠ w.heap.size + 2; omega)).trans HBZ.out, hBz.setCell (by show _ ≤ w.heap.size + 2; omega) _, by simpa using hSz⟩, ?_⟩
        simp [intOf]; omega
      · have h0' : ((gx.length : Int) == 0) = false := beq_f (by omega)
        have HE2 : Hid (edgesF (d.rules.take (k + 1)) = edgesF (d.rules.take k)) := hid (by rw [HE.out, if_neg h0]; simp)
        clear HE h0
        have hBa : Below (w.heap.size + 3) wo (wo.alloc (.cells #[.int .i64 s, .int .i64 t, .slice A3 gx.length c3, .int .i64 ex, .slice A4 ox.length c4] 46)) := (Below.refl _ _).alloc hS _
        have HR2 := hid (HRr.out.carry (hBa.block _ (by omega)) (fun g _ hg => Below.heap_alloc _ _ _ hg))
        have HI2 := hid (HI.out.carry (hBa.block _ (by omega)))
        have HX2 := hid ((hBa.block _ (by omega)).trans HX.out)
        have hBz := hB.trans (hBa.mono (by omega))
        clear hBa HRr HI HX
        go_wp2_with fail
        refine ⟨⟨k + 1, by omega, by push_cast; rfl, by rw [HE2.out]; exact HR2.out, by rw [HE2.out]; exact HI2.out, HX2.out, hBz, by simp; omega⟩, ?_⟩
        simp [intOf]; omega
    · obtain rfl : k = d.rules.length := by omega
      obtain ⟨E, hE⟩ : ∃ E, E = edgesF d.rules := ⟨_, rfl⟩
      rw [List.take_length, ← hE] at hR hI
      have HR2 := hid hR
      have HI2 := hid hI
      have HX2 := hid hX
      have HE := hid hE
      have hsz : w.heap.size < wo.heap.size := by omega
      clear hR hI hX hrw hE hlt
      go_wp2_with fail
      go_loopw [7, 54] (fun vt vi wr => ∃ (i : Nat) (xs : List Int), i ≤ n ∧ vi = .int .i64 i ∧ xs = todoF E i ∧ QAt wr wo.heap.size vt xs ∧ Below wo.heap.size wo wr) (fun _ vi _ => n - (intOf vi).toNat)
      case atStart => exact ⟨0, [], Nat.zero_le _, rfl, rfl, QAt.nil _ _, Below.refl _ _⟩
      case round =>
        obtain ⟨i, xs, hi, rfl, hxs, hq, hBi⟩ := hrel
        obtain ⟨wi, hwi⟩ : ∃ wi, wi = wr := ⟨_, rfl⟩
        subst hwi
        have HXS := hid hxs
        clear hxs
        by_cases hlt : i < n
        · obtain ⟨i1, i2⟩ := HI2.out.at hlt
          replace i1 := (hBi.cell (p := ⟨w.heap.size + 2, i, none⟩) (by show w.heap.size + 2 < _; omega)).trans i1
          obtain ⟨IT, hIT⟩ : ∃ IT, IT = innF E i := ⟨_, rfl⟩
          rw [← hIT] at i1
          have hxl : xs.length ≤ n := by
            rw [HXS.out]; unfold todoF
            have := List.length_filter_le (fun t => decide (innF E t = 0)) ((List.range i).map fun k : Nat => (k : Int))
            simp at this; omega
          have HST : Hid (todoF E (i + 1) = todoF E i ++ (if IT = 0 then [(i : Int)] else [])) := hid (by
            unfold todoF
            rw [List.range_succ, List.map_append, List.filter_append, hIT]
            by_cases h0 : innF E i = 0 <;> simp [h0])
          clear hIT i2
          have hlt' : (i : Int) < n := by omega
          by_cases h0 : IT = 0
          · subst h0
            have HST2 : Hid (todoF E (i + 1) = todoF E i ++ [(i : Int)]) := hid (by rw [HST.out, if_pos rfl])
            clear HST
            go_wp2_with (at_builtin; refine Hid.out ?_)
            refine hid ?_
            refine wpList_append_q _ rfl _ _ 73 rfl 3 inf3 Tryz.underlying73 hi3 hy0 hy1 hy2 rfl ((hq.carry (w' := wi.alloc (.cells #[.int .i64 i] 3)) (by simp) (fun g _ hg => Below.heap_alloc _ _ _ hg))) (by have := hBi.size; simp; omega) (by omega) ⟨wi.heap.size, 0, none⟩ 1 i rfl (cell_of_row _ _ 0 _ _ _ (heap_alloc_new wi _)) rfl ?_
            intro v' w1 hq1 hB1
            obtain ⟨A8, c8, rfl, hc8, hm8⟩ := hq1.len
            go_wp2_with fail
            refine ⟨⟨i + 1, xs ++ [(i : Int)], by omega, by push_cast; rfl, by rw [HST2.out, ← HXS.out], by have := hq1; simp only [List.length_append, List.length_singleton] at this; exact this, hBi.trans (((Below.refl _ wi).alloc hBi.size _).trans hB1)⟩, ?_⟩
            simp [intOf]; omega
          · have h0' : (IT == 0) = false := beq_f h0
            go_wp2_with fail
            refine ⟨⟨i + 1, xs, by omega, by push_cast; rfl, ?_, hq, hBi⟩, ?_⟩
            · rw [HST.out, if_neg h0, ← HXS.out]; simp
            simp [intOf]; omega
        · obtain rfl : i = n := by omega
          have hE2 : ∀ e ∈ E, (0 ≤ e.1 ∧ e.1 < i) ∧ 0 ≤ e.2 ∧ e.2 < i := fun e he => by
            obtain ⟨r, h1, _, rfl⟩ := mem_edgesF (HE.out ▸ he : e ∈ edgesF d.rules)
            exact HR.out r h1
          have hel : E.length ≤ 4096 := by have := edgesF_len d.rules; rw [← HE.out] at this; omega
          have HE2 := hid hE2
          have hxl : xs.length ≤ i := by
            rw [HXS.out]; unfold todoF
            have := List.length_filter_le (fun t => decide (innF E t = 0)) ((List.range i).map fun k : Nat => (k : Int))
            simp at this; omega
          obtain ⟨A8, c8, rfl, hc8, hm8⟩ := hq.len
          have hG0 : wo.grownBy wi (some (w.heap.size + 2)) := ⟨hBi.os, hBi.tape, hBi.output, hBi.size, fun g hg _ => hBi.block g hg⟩
          have hI0 := HI2.out.carry (hBi.block (w.heap.size + 2) (by omega))
          have hK0 : KahnI E i [] (innF E) xs := by rw [HXS.out]; exact kahn_start E i
          have HW0 : Hid (kahnGo E (i + 1) (innF E) xs 0 = kahnGo E (i + 1) (innF E) (todoF E i) 0) := hid (by rw [HXS.out])
          clear hE2 hlt HXS
          go_wp2_with fail
          go_loopw [7, 10] (fun vt vd wr => ∃ (P todo : List Int) (inn : Int → Int), vd = .int .i64 P.length ∧ P.length ≤ i ∧ KahnI E i P inn todo ∧ InRow wr (w.heap.size + 2) 3 i inn ∧ QAt wr wo.heap.size vt todo ∧ kahnGo E (i + 1 - P.length) inn todo P.length = kahnGo E (i + 1) (innF E) (todoF E i) 0 ∧ wo.grownBy wr (some (w.heap.size + 2))) (fun _ vd _ => i - (intOf vd).toNat)
          case atStart => exact ⟨[], xs, innF E, rfl, Nat.zero_le _, hK0, hI0, hq, HW0.out, hG0⟩
          case round =>
            clear hK0 hI0 hq hG0 HW0
            obtain ⟨P, todo, inn, rfl, hPl, hK, hI, hq, hgo, hG⟩ := hrel
            obtain ⟨w4, hw4⟩ : ∃ w4, w4 = wr := ⟨_, rfl⟩
            subst hw4
            have HK := hid hK
            have HI := hid hI
            have HGO := hid hgo
            have HG := hid hG
            have hs4 := hG.size
            clear hK hI hgo hG
            obtain ⟨plen, hpl⟩ : ∃ plen, plen = P.length := ⟨_, rfl⟩
            rw [← hpl]
            cases todo with
            | nil =>
              obtain ⟨A8, c8, rfl, hc8, hm8⟩ := hq.len
              have hbx := (HG.out.block w.heap.size (by omega) (by simp)).trans HX2.out
              have p2 := cell_of_row _ _ 2 _ _ _ hbx
              have hBe : Below w.heap.size w w4 := hB.grown HG.out (by omega) (fun j hj => by cases hj; omega)
              have HF : Hid (decide (plen < i) = kahnF (edgesF d.rules) i) := hid (by
                have := HGO.out
                rw [kahnGo_nil] at this
                unfold kahnF
                rw [← HE.out, ← this, ← hpl])
              simp at p2
              rw [← hpl] at hPl
              clear hpl hbx
              go_wp2_with fail
              go_ret
              exact ⟨by rw [← HF.out]; rfl, hBe⟩
            | cons s todo =>
              obtain ⟨hs0, hs1⟩ := HK.out.rng s (by simp)
              obtain ⟨s, rfl⟩ : ∃ s' : Nat, s = s' := ⟨s.toNat, by omega⟩
              have hsn : s < i := by omega
              have hroom := HK.out.room
              obtain ⟨hcnt, hinb⟩ := HK.out.counts
              have hinb' : ∀ t, inn t ≤ 4096 := fun t => Int.le_trans (hinb t) (by omega)
              have HBD := hid (fun j => fold_bounds (todo := todo) hcnt hinb' j)
              clear hcnt hinb hinb'
              obtain ⟨g, off, cap, rfl, hcl, hcm, hc0, hq2⟩ := hq.front
              unfold maxLen at hcm
              clear hq
              obtain ⟨vs, e1, e2, ho, _⟩ := HR2.out.at hsn
              have hlow := ho.lt
              have e1b : w4.cell? ⟨w.heap.size + 1, s, none⟩ = some vs := (World.cell?_of_block (a := ⟨w.heap.size + 1, s, none⟩) (HG.out.block (w.heap.size + 1) (by omega) (by simp))).trans e1
              obtain ⟨TS, hTS⟩ : ∃ TS, TS = toF E s := ⟨_, rfl⟩
              rw [← hTS] at ho HBD
              have htl : TS.length ≤ 4096 := by rw [hTS]; exact Nat.le_trans (toF_len _ _) hel
              have hts : ∀ t ∈ TS, 0 ≤ t ∧ t < i := fun t ht => (HE2.out _ (mem_toF (hTS ▸ ht))).2
              have hrow := ints_in (S := fun b => w.heap.size + 3 ≤ b ∧ b < wo.heap.size) ho (fun z hz => by have := hts z hz; exact ⟨by omega, by omega⟩) hlow
              obtain ⟨A7, c7, rfl, hc7, hm7⟩ := list_form hrow
              have HTS := hid hTS
              have HTM := hid hts
              clear ho hlow e1 e2 hts hTS
              have HST := hid (HK.out.step (fun e he => (HE2.out e he).2))
              rw [← HTS.out] at HST
              have HFO : Hid ((inn, todo) = (TS.take 0).foldl takeT (inn, todo)) := hid rfl
              have hplr : plen + todo.length + 1 ≤ i := by rw [hpl]; exact hroom
              clear hroom
              go_wp2_with fail
              all_goals
                go_loopw [7, 81] (fun vt vi wr => ∃ (j : Nat) (ij : Int → Int) (tj : List Int), j ≤ TS.length ∧ vi = .int .i64 j ∧ (ij, tj) = (TS.take j).foldl takeT (inn, todo) ∧ InRow wr (w.heap.size + 2) 3 i ij ∧ QAt wr wo.heap.size vt tj ∧ wo.grownBy wr (some (w.heap.size + 2))) (fun _ vi _ => TS.length - (intOf vi).toNat)
                case atStart => exact ⟨0, inn, todo, Nat.zero_le _, rfl, HFO.out, HI.out, by simpa only [*, if_true, if_false] using hq2, HG.out⟩
                case round =>
                  clear hq2 HFO
                  obtain ⟨j, ij, tj, hj, rfl, hfo, hIj, hqj, hGj⟩ := hrel
                  obtain ⟨w5, hw5⟩ : ∃ w5, w5 = wr := ⟨_, rfl⟩
                  subst hw5
                  have hs5 := hGj.size
                  obtain ⟨A6, c6, rfl, hc6, hm6⟩ := hqj.len
                  by_cases hlt : j < TS.length
                  · obtain ⟨t, htj⟩ := at_lt hlt
                    obtain ⟨ht0, ht1⟩ := HTM.out t (List.mem_of_getElem? htj)
                    obtain ⟨t, rfl⟩ : ∃ t' : Nat, t = t' := ⟨t.toNat, by omega⟩
                    have htn : t < i := by omega
                    obtain ⟨b, o, ds, rfl, ⟨hb1, hb2⟩, ⟨rfl, _⟩, hcell⟩ := list_at hrow htj
                    have c1 : wo.cell? ⟨b, o + j, none⟩ = some (.int .i64 t) := by simpa [intR] using hcell 0 _ rfl
                    have c2 : w5.cell? ⟨b, o + j, none⟩ = some (.int .i64 t) := (World.cell?_of_block (a := ⟨b, o + j, none⟩) (hGj.block b hb2 (by simp; omega))).trans c1
                    clear c1 hcell
                    have hlt' : (j : Int) < TS.length := by omega
                    have hbd := HBD.out j
                    rw [← hfo] at hbd
                    obtain ⟨hb0, hbl⟩ := hbd
                    obtain ⟨hb3, hb4⟩ := hb0 t
                    dsimp only at hb3 hb4 hbl
                    obtain ⟨i1, i2⟩ := hIj.at htn
                    obtain ⟨IT, hIT⟩ : ∃ IT, IT = ij t := ⟨_, rfl⟩
                    rw [← hIT] at i1 hb3 hb4
                    have HSN : Hid ((fun x => if x = (t : Int) then IT - 1 else ij x, if IT - 1 = 0 then tj ++ [(t : Int)] else tj) = (TS.take (j + 1)).foldl takeT (inn, todo)) := hid (by rw [fold_snoc htj, ← hfo, takeT_two, hIT])
                    have HPUT := hid (hIj.put htn (IT - 1))
                    have hqz := hqj.carry (w' := w5.setCell ⟨w.heap.size + 2, t, none⟩ (.int .i64 (IT - 1))) (by simp) (fun g hg _ => heap_setCell_other w5 _ _ _ (by show _ ≠ w.heap.size + 2; omega))
                    have hGz := hid (hGj.trans (grown_setCell w5 (w.heap.size + 2) t (.int .i64 (IT - 1))))
                    clear hfo hIj hqj hGj hIT hb0 hrow
                    by_cases hz : IT = 1
                    · subst hz
                      clear hb3 hb4
                      have HSN2 : Hid ((fun x => if x = (t : Int) then (1 : Int) - 1 else ij x, tj ++ [(t : Int)]) = (TS.take (j + 1)).foldl takeT (inn, todo)) := hid (by rw [← HSN.out]; simp)
                      clear HSN
                      go_wp2_with (at_builtin; refine Hid.out ?_)
                      refine hid ?_
                      refine wpList_append_q _ rfl _ _ 73 rfl 3 inf3 Tryz.underlying73 hi3 hy0 hy1 hy2 rfl (base := wo.heap.size) (hqz.carry (w' := (w5.setCell ⟨w.heap.size + 2, t, none⟩ (.int .i64 (1 - 1))).alloc (.cells #[.int .i64 t] 3)) (by simp) (fun g _ hg => Below.heap_alloc _ _ _ hg)) (by simp; omega) (by omega) ⟨w5.heap.size, 0, none⟩ 1 t rfl (by have := cell_of_row _ _ 0 _ _ _ (heap_alloc_new (w5.setCell ⟨w.heap.size + 2, t, none⟩ (.int .i64 (1 - 1))) (.cells #[.int .i64 t] 3)); simpa using this) rfl ?_
                      intro v' w6 hq6 hB6
                      obtain ⟨A5, c5, rfl, hc5, hm5⟩ := hq6.len
                      have hBz6 : Below wo.heap.size (w5.setCell ⟨w.heap.size + 2, t, none⟩ (.int .i64 (1 - 1))) w6 := (((Below.refl _ _).alloc (by simp; omega) _).trans hB6)
                      have HI6 := hid (HPUT.out.carry (hBz6.block (w.heap.size + 2) (by omega)))
                      have HG6 := hid (grown_low hGz.out hBz6)
                      have HQ6 : Hid (QAt w6 wo.heap.size (.slice A5 (tj.length + 1) c5) (tj ++ [(t : Int)])) := hid (by have := hq6; simp only [List.length_append, List.length_singleton] at this; exact this)
                      clear hBz6 hB6 hq6 HPUT hGz hqz
                      go_wp2_with fail
                      refine ⟨⟨j + 1, _, _, by omega, by push_cast; rfl, HSN2.out, HI6.out, HQ6.out, HG6.out⟩, ?_⟩
                      simp [intOf]; omega
                    · have hz' : (IT - 1 == 0) = false := beq_f (by omega)
                      go_wp2_with fail
                      refine ⟨⟨j + 1, _, _, by omega, by push_cast; rfl, HSN.out, HPUT.out, by rw [if_neg (by omega)]; exact hqz, hGz.out⟩, ?_⟩
                      simp [intOf]; omega
                  · obtain rfl : j = TS.length := by omega
                    have HGO2 : Hid (kahnGo E (i + 1 - (P ++ [(s : Int)]).length) ij tj (P ++ [(s : Int)]).length = kahnGo E (i + 1) (innF E) (todoF E i) 0) := hid (by
                      rw [← HGO.out]
                      have h1 : i + 1 - P.length = (i - P.length) + 1 := by omega
                      have h2 : i + 1 - (P ++ [(s : Int)]).length = i - P.length := by simp only [List.length_append, List.length_singleton]; omega
                      rw [List.take_length, HTS.out] at hfo
                      rw [h1, h2, kahnGo, ← hfo]
                      simp)
                    have HST2 : Hid (KahnI E i (P ++ [(s : Int)]) ij tj) := hid (by
                      have := HST.out
                      rw [List.take_length] at hfo
                      rw [← hfo] at this
                      exact this)
                    have HP : Hid (plen = P.length) := hid hpl
                    clear hpl hfo hlt hrow
                    go_wp2_with fail
                    refine ⟨⟨P ++ [(s : Int)], tj, ij, by rw [List.length_append, ← HP.out]; push_cast; rfl, by rw [List.length_append, ← HP.out]; simp; omega, HST2.out, hIj, hqj, HGO2.out, hGj⟩, ?_⟩
                    have hpp := HP.out
                    simp [intOf]; omega
end Go.Proofs.YthfcbbdghggefaaGreat
namespace Go.Proofs.YthfcbbdghggefaaGreat
open Go.Proofs Go.Um Go.RowKit
def finalF (d : Desc) (f : Final) : Bool := stateF d.states f.src && guardsF d.inn f.guards && writesF d.inn d.out f.out f.guards
def whereF (d : Desc) : Int × Int := if headF d then (match d.rules.findIdx? (fun r => !ruleF d r) with
  | some i => (2, i)
  | none => match d.finals.findIdx? (fun f => !finalF d f) with
    | some i => (3, i)
    | none => if kahnF (edgesF d.rules) d.states.toNat then (4, 0) else (0, 0)) else (1, 0)
theorem findIdx_at {α : Type} {p : α → Bool} : ∀ {l : List α} {k : Nat} {x : α}, (∀ y ∈ l.take k, p y = false) → l[k]? = some x → p x = true → l.findIdx? p = some k := by
  intro l
  induction l with
  | nil => intro k x _ h; simp at h
  | cons a r ih =>
    intro k x h1 h2 h3
    cases k with
    | zero =>
      simp at h2
      subst h2
      simp [List.findIdx?_cons, h3]
    | succ k =>
      have ha : p a = false := h1 a (by simp)
      have := ih (k := k) (x := x) (fun y hy => h1 y (by simp [hy])) (by simpa using h2) h3
      simp [List.findIdx?_cons, ha, this]
theorem findIdx_none {α : Type} {p : α → Bool} {l : List α} (h : ∀ y ∈ l, p y = false) : l.findIdx? p = none := by
  rw [List.findIdx?_eq_none_iff]
  exact h
theorem six {W : World} {b : Nat} {x0 x1 x2 x3 x4 x5 : Value} {t : TypeId} (h : W.heap[b]? = some (.cells #[x0, x1, x2, x3, x4, x5] t)) :
    W.cell? ⟨b, 0, none⟩ = some x0 ∧ W.cell? ⟨b, 1, none⟩ = some x1 ∧ W.cell? ⟨b, 2, none⟩ = some x2 ∧ W.cell? ⟨b, 3, none⟩ = some x3 ∧ W.cell? ⟨b, 4, none⟩ = some x4 ∧ W.cell? ⟨b, 5, none⟩ = some x5 :=
  ⟨cell_of_row _ _ 0 _ _ _ h, cell_of_row _ _ 1 _ _ _ h, cell_of_row _ _ 2 _ _ _ h, cell_of_row _ _ 3 _ _ _ h, cell_of_row _ _ 4 _ _ _ h, cell_of_row _ _ 5 _ _ _ h⟩
theorem three {W : World} {b : Nat} {x0 x1 x2 : Value} {t : TypeId} (h : W.heap[b]? = some (.cells #[x0, x1, x2] t)) :
    W.cell? ⟨b, 0, none⟩ = some x0 ∧ W.cell? ⟨b, 1, none⟩ = some x1 ∧ W.cell? ⟨b, 2, none⟩ = some x2 :=
  ⟨cell_of_row _ _ 0 _ _ _ h, cell_of_row _ _ 1 _ _ _ h, cell_of_row _ _ 2 _ _ _ h⟩
set_option maxHeartbeats 1000000 in
set_option maxRecDepth 100000 in
theorem Where_calls (d : Desc) (v u : Value) (w : World) (hv : (listR ruleR).rel w (upto w.heap.size) [v] d.rules) (hu : (listR finalR).rel w (upto w.heap.size) [u] d.finals) :
    Calls Tryz.prog 45 #[.agg #[.int .i64 d.inn, .int .i64 d.out, .int .i64 d.states, .int .i64 d.start, v, u]] w fun e w' => e = .returned (.tuple #[.int .i64 (whereF d).1, .int .i64 (whereF d).2]) ∧ Below w.heap.size w w' := by
  have HH := hid fun W (hW : Below w.heap.size w W) => head_calls d v u W ((listR ruleR).below hv hW hW.size) ((listR finalR).below hu hW hW.size)
  have HRU := hid fun W x g t (hW : Below w.heap.size w W) (hg : (listR spansR).rel w (upto w.heap.size) [g] x.guards) (ht : (listR termR).rel w (upto w.heap.size) [t] x.out) => rule_calls d x v u g t W ((listR ruleR).below hv hW hW.size) ((listR finalR).below hu hW hW.size) ((listR spansR).below hg hW hW.size) ((listR termR).below ht hW hW.size)
  have HCY := hid fun W n (hW : Below w.heap.size w W) => cycle_calls d v u W n ((listR ruleR).below hv hW hW.size)
  obtain ⟨A1, c1, rfl, hc1, hm1⟩ := list_form hv
  obtain ⟨A2, c2, rfl, hc2, hm2⟩ := list_form hu
  unfold maxLen at hm1 hm2
  have hX0 := heap_alloc_new w (.cells #[.int .i64 d.inn, .int .i64 d.out, .int .i64 d.states, .int .i64 d.start, .slice A1 d.rules.length c1, .slice A2 d.finals.length c2] 27)
  have hB0 : Below w.heap.size w (w.alloc (.cells #[.int .i64 d.inn, .int .i64 d.out, .int .i64 d.states, .int .i64 d.start, .slice A1 d.rules.length c1, .slice A2 d.finals.length c2] 27)) := (Below.refl _ w).alloc (Nat.le_refl _) _
  cases kh : headF d
  · have HF : Hid (whereF d = (1, 0)) := hid (by unfold whereF; rw [kh]; rfl)
    rw [kh] at HH
    clear kh hX0 hB0
    go_enter Tryz.func45, Tryz.ntmps45
    go_wp2_with fail
    refine (HH.out _ ((Below.refl _ w).alloc (Nat.le_refl _) _)).mono ?_
    rintro e w1 ⟨rfl, hB1⟩
    go_wp2_with fail
    go_ret2
    exact ⟨by rw [HF.out]; rfl, ((Below.refl _ w).alloc (Nat.le_refl _) _).trans (low hB1 (by simp))⟩
  have HWF : Hid (whereF d = match d.rules.findIdx? (fun r => !ruleF d r) with
    | some i => (2, (i : Int))
    | none => match d.finals.findIdx? (fun f => !finalF d f) with
      | some i => (3, (i : Int))
      | none => if kahnF (edgesF d.rules) d.states.toNat then (4, 0) else (0, 0)) := hid (by unfold whereF; rw [kh]; rfl)
  rw [kh] at HH
  have hst : 1 ≤ d.states ∧ d.states ≤ 1024 ∧ d.rules.length ≤ 4096 ∧ d.finals.length ≤ 4096 := by
    unfold headF at kh
    simp only [Bool.and_eq_true, decide_eq_true_eq] at kh
    exact ⟨kh.1.1.1.1.2, kh.1.1.1.2, kh.1.2, kh.2⟩
  obtain ⟨hst1, hst2, hst3, hst4⟩ := hst
  clear kh
  go_enter Tryz.func45, Tryz.ntmps45
  go_wp2_with fail
  refine (HH.out _ ((Below.refl _ w).alloc (Nat.le_refl _) _)).mono ?_
  rintro e w1 ⟨rfl, hB1⟩
  have hBw1 := hB0.trans (low hB1 hB0.size)
  have hX1 := (hB1.block w.heap.size (by simp)).trans hX0
  have hs1 : w.heap.size < w1.heap.size := heap_lt hX1
  obtain ⟨p0, p1, p2, p3, p4, p5⟩ := six hX1
  clear hX0 hB0
  go_wp2_with fail
  clear p0 p1 p2 p3 p4 p5
  go_loopw [14] (fun vi wr => ∃ k : Nat, k ≤ d.rules.length ∧ vi = .int .i64 k ∧ (∀ r ∈ d.rules.take k, ruleF d r = true) ∧ Below w.heap.size w wr ∧ wr.heap[w.heap.size]? = some (.cells #[.int .i64 d.inn, .int .i64 d.out, .int .i64 d.states, .int .i64 d.start, .slice A1 d.rules.length c1, .slice A2 d.finals.length c2] 27)) (fun vi _ => d.rules.length - (intOf vi).toNat)
  case atStart => exact ⟨0, Nat.zero_le _, rfl, by simp, hBw1, hX1⟩
  case round =>
    clear hBw1 hX1 hs1 hB1
    obtain ⟨k, hk, rfl, hall, hB, hX⟩ := hrel
    obtain ⟨wr0, hwr⟩ : ∃ wr0, wr0 = wr := ⟨_, rfl⟩
    subst hwr
    have hs0 : w.heap.size < wr0.heap.size := heap_lt hX
    have HB := hid hB
    have HX := hid hX
    obtain ⟨p0, p1, p2, p3, p4, p5⟩ := six hX
    by_cases hlt : k < d.rules.length
    · obtain ⟨⟨sx, dx, gx, ex, ox⟩, hx⟩ := at_lt hlt
      obtain ⟨b, o, y, z, rfl, hb, q1, q2, q3, q4, q5, _, hy, hz⟩ := rule_at hv hx
      have HRX := hid fun W (hW : Below w.heap.size w W) => HRU.out W ⟨sx, dx, gx, ex, ox⟩ y z hW hy hz
      obtain ⟨A3, c3, rfl, _, _⟩ := list_form hy
      obtain ⟨A4, c4, rfl, _, _⟩ := list_form hz
      replace q1 := (hB.cell (p := ⟨b, o + k * 5, none⟩) hb).trans q1
      replace q2 := (hB.cell (p := ⟨b, o + k * 5 + 1, none⟩) hb).trans q2
      replace q3 := (hB.cell (p := ⟨b, o + k * 5 + 2, none⟩) hb).trans q3
      replace q4 := (hB.cell (p := ⟨b, o + k * 5 + 3, none⟩) hb).trans q4
      replace q5 := (hB.cell (p := ⟨b, o + k * 5 + 4, none⟩) hb).trans q5
      dsimp only at q1 q2 q3 q4 q5
      have hlt' : (k : Int) < d.rules.length := by omega
      have HXK := hid hx
      have HALL := hid hall
      have hbs : b < wr0.heap.size := Nat.lt_of_lt_of_le hb hB.size
      clear hx hall hB hX hy hz hv hu
      cases kr : ruleF d ⟨sx, dx, gx, ex, ox⟩
      · have HF : Hid (whereF d = (2, (k : Int))) := hid (by
          rw [HWF.out, findIdx_at (k := k) (fun y hy => by rw [HALL.out y hy]; rfl) HXK.out (by rw [kr]; rfl)])
        rw [kr] at HRX
        clear kr
        go_wp2_with fail
        refine (HRX.out _ (HB.out.alloc HB.out.size _)).mono ?_
        rintro e w2 ⟨rfl, hB2⟩
        go_wp2_with fail
        go_ret2
        exact ⟨by rw [HF.out]; rfl, (HB.out.alloc HB.out.size _).trans (low hB2 (by simp; omega))⟩
      · have HALL2 : Hid (∀ r ∈ d.rules.take (k + 1), ruleF d r = true) := hid fun r hr => by
          rw [take_snoc HXK.out] at hr
          rcases List.mem_append.1 hr with hr | hr
          · exact HALL.out r hr
          · simp at hr; subst hr; exact kr
        rw [kr] at HRX
        clear kr HALL HXK
        go_wp2_with fail
        refine (HRX.out _ (HB.out.alloc HB.out.size _)).mono ?_
        rintro e w2 ⟨rfl, hB2⟩
        have hX2 := (hB2.block w.heap.size (by simp; omega)).trans ((Below.heap_alloc _ _ _ hs0).trans HX.out)
        have HX2 := hid hX2
        clear hX2
        go_wp2_with fail
        refine ⟨⟨k + 1, by omega, by push_cast; rfl, HALL2.out, (HB.out.alloc HB.out.size _).trans (low hB2 (by simp; omega)), HX2.out⟩, ?_⟩
        simp [intOf]; omega
    · obtain rfl : k = d.rules.length := by omega
      rw [List.take_length] at hall
      have HALLR := hid hall
      have HWF2 : Hid (whereF d = match d.finals.findIdx? (fun f => !finalF d f) with
          | some i => (3, (i : Int))
          | none => if kahnF (edgesF d.rules) d.states.toNat then (4, 0) else (0, 0)) := hid (by
        rw [HWF.out, findIdx_none (fun y hy => by rw [hall y hy]; rfl)])
      clear hall hB hX hlt HRU HH
      go_wp2_with fail
      clear p0 p1 p2 p3 p4 p5
      go_loopw [28] (fun vi wr => ∃ k : Nat, k ≤ d.finals.length ∧ vi = .int .i64 k ∧ (∀ r ∈ d.finals.take k, finalF d r = true) ∧ Below w.heap.size w wr ∧ wr.heap[w.heap.size]? = some (.cells #[.int .i64 d.inn, .int .i64 d.out, .int .i64 d.states, .int .i64 d.start, .slice A1 d.rules.length c1, .slice A2 d.finals.length c2] 27)) (fun vi _ => d.finals.length - (intOf vi).toNat)
      case atStart => exact ⟨0, Nat.zero_le _, rfl, by simp, HB.out, HX.out⟩
      case round =>
        clear HB HX hs0
        obtain ⟨k, hk, rfl, hall, hB, hX⟩ := hrel
        obtain ⟨wr0, hwr⟩ : ∃ wr0, wr0 = wr := ⟨_, rfl⟩
        subst hwr
        have hs0 : w.heap.size < wr0.heap.size := heap_lt hX
        have HB := hid hB
        have HX := hid hX
        obtain ⟨p0, p1, p2, p3, p4, p5⟩ := six hX
        by_cases hlt : k < d.finals.length
        · obtain ⟨⟨sx, gx, ox⟩, hx⟩ := at_lt hlt
          obtain ⟨b, o, y, z, rfl, hb, q1, q2, q3, _, hy, hz⟩ := final_at hu hx
          have HST := hid fun W => state_calls d.inn d.out d.states d.start (.slice A1 d.rules.length c1) (.slice (some ⟨b, o, none⟩) d.finals.length c2) sx W
          have HGD := hid fun W (hW : Below w.heap.size w W) => guards_calls d.inn gx y W ((listR spansR).below hy hW hW.size)
          have HWR := hid fun (hg : goodG gx) (hgl : ∀ g ∈ gx, g.length ≤ 90000) W (hW : Below w.heap.size w W) => writes_calls d.inn d.out d.states d.start (.slice A1 d.rules.length c1) (.slice (some ⟨b, o, none⟩) d.finals.length c2) z y ox gx W ((listR termR).below hz hW hW.size) ((listR spansR).below hy hW hW.size) hg hgl
          obtain ⟨A3, c3, rfl, _, _⟩ := list_form hy
          obtain ⟨A4, c4, rfl, _, _⟩ := list_form hz
          replace q1 := (hB.cell (p := ⟨b, o + k * 3, none⟩) hb).trans q1
          replace q2 := (hB.cell (p := ⟨b, o + k * 3 + 1, none⟩) hb).trans q2
          replace q3 := (hB.cell (p := ⟨b, o + k * 3 + 2, none⟩) hb).trans q3
          dsimp only at q1 q2 q3
          have hlt' : (k : Int) < d.finals.length := by omega
          have HXK := hid hx
          have HALL0 := hid hall
          have hbs : b < wr0.heap.size := Nat.lt_of_lt_of_le hb hB.size
          have HBAD : Hid (finalF d ⟨sx, gx, ox⟩ = false → whereF d = (3, (k : Int))) := hid fun hf => by
            rw [HWF2.out, findIdx_at (k := k) (fun y hy => by rw [hall y hy]; rfl) hx (by rw [hf]; rfl)]
          have HF0 : Hid (finalF d ⟨sx, gx, ox⟩ = (stateF d.states sx && guardsF d.inn gx && writesF d.inn d.out ox gx)) := hid rfl
          clear hx hall hB hX hy hz hv hu HCY
          cases k1 : stateF d.states sx
          · rw [k1] at HST HF0
            have HF := hid (HBAD.out (by rw [HF0.out]; rfl))
            clear k1 HGD HWR
            go_wp2_with fail
            refine (HST.out _).mono ?_
            rintro e w1 ⟨rfl, hB1⟩
            have hD1 : Below (wr0.heap.size + 1) (wr0.alloc (.cells #[.int .i64 sx, .slice A3 gx.length c3, .slice A4 ox.length c4] 49)) w1 := low hB1 (by simp)
            obtain ⟨p0, p1, p2, p3, p4, p5⟩ := six ((hD1.block w.heap.size (by omega)).trans ((Below.heap_alloc _ _ _ (by omega)).trans HX.out))
            obtain ⟨r0, r1, r2⟩ := three ((hD1.block wr0.heap.size (by omega)).trans (heap_alloc_new wr0 _))
            go_wp2_with fail
            go_ret2
            exact ⟨by rw [HF.out]; rfl, (HB.out.trans ((((Below.refl _ wr0).alloc (Nat.le_refl _) _).trans (low hD1 (by omega))).mono HB.out.size))⟩
          rw [k1] at HST HF0
          cases k2 : guardsF d.inn gx
          · rw [k2] at HGD HF0
            have HF := hid (HBAD.out (by rw [HF0.out]; rfl))
            clear k1 k2 HWR
            go_wp2_with fail
            refine (HST.out _).mono ?_
            rintro e w1 ⟨rfl, hB1⟩
            have hD1 : Below (wr0.heap.size + 1) (wr0.alloc (.cells #[.int .i64 sx, .slice A3 gx.length c3, .slice A4 ox.length c4] 49)) w1 := low hB1 (by simp)
            obtain ⟨p0, p1, p2, p3, p4, p5⟩ := six ((hD1.block w.heap.size (by omega)).trans ((Below.heap_alloc _ _ _ (by omega)).trans HX.out))
            obtain ⟨r0, r1, r2⟩ := three ((hD1.block wr0.heap.size (by omega)).trans (heap_alloc_new wr0 _))
            go_wp2_with fail
            refine (HGD.out _ (HB.out.trans ((((Below.refl _ wr0).alloc (Nat.le_refl _) _).trans (low hD1 (by omega))).mono HB.out.size))).mono ?_
            rintro e w2 ⟨rfl, hB2⟩
            have hz2 := hD1.size
            simp at hz2
            have hD2 := hD1.trans (low hB2 hz2)
            clear p0 p1 p2 p3 p4 p5 r0 r1 r2
            obtain ⟨p0, p1, p2, p3, p4, p5⟩ := six ((hD2.block w.heap.size (by omega)).trans ((Below.heap_alloc _ _ _ (by omega)).trans HX.out))
            obtain ⟨r0, r1, r2⟩ := three ((hD2.block wr0.heap.size (by omega)).trans (heap_alloc_new wr0 _))
            go_wp2_with fail
            go_ret2
            exact ⟨by rw [HF.out]; rfl, (HB.out.trans ((((Below.refl _ wr0).alloc (Nat.le_refl _) _).trans (low hD2 (by omega))).mono HB.out.size))⟩
          have hgood := guardsF_good k2
          replace HWR := hid (HWR.out hgood.1 hgood.2)
          rw [k2] at HGD HF0
          cases k3 : writesF d.inn d.out ox gx
          · rw [k3] at HWR HF0
            have HF := hid (HBAD.out (by rw [HF0.out]; rfl))
            clear k1 k2 k3 hgood
            go_wp2_with fail
            refine (HST.out _).mono ?_
            rintro e w1 ⟨rfl, hB1⟩
            have hD1 : Below (wr0.heap.size + 1) (wr0.alloc (.cells #[.int .i64 sx, .slice A3 gx.length c3, .slice A4 ox.length c4] 49)) w1 := low hB1 (by simp)
            obtain ⟨p0, p1, p2, p3, p4, p5⟩ := six ((hD1.block w.heap.size (by omega)).trans ((Below.heap_alloc _ _ _ (by omega)).trans HX.out))
            obtain ⟨r0, r1, r2⟩ := three ((hD1.block wr0.heap.size (by omega)).trans (heap_alloc_new wr0 _))
            go_wp2_with fail
            refine (HGD.out _ (HB.out.trans ((((Below.refl _ wr0).alloc (Nat.le_refl _) _).trans (low hD1 (by omega))).mono HB.out.size))).mono ?_
            rintro e w2 ⟨rfl, hB2⟩
            have hz2 := hD1.size
            simp at hz2
            have hD2 := hD1.trans (low hB2 hz2)
            clear p0 p1 p2 p3 p4 p5 r0 r1 r2
            obtain ⟨p0, p1, p2, p3, p4, p5⟩ := six ((hD2.block w.heap.size (by omega)).trans ((Below.heap_alloc _ _ _ (by omega)).trans HX.out))
            obtain ⟨r0, r1, r2⟩ := three ((hD2.block wr0.heap.size (by omega)).trans (heap_alloc_new wr0 _))
            go_wp2_with fail
            refine (HWR.out _ (HB.out.trans ((((Below.refl _ wr0).alloc (Nat.le_refl _) _).trans (low hD2 (by omega))).mono HB.out.size))).mono ?_
            rintro e w3 ⟨rfl, hB3⟩
            have hz3 := hD2.size
            simp at hz3
            have hD3 := hD2.trans (low hB3 hz3)
            clear p0 p1 p2 p3 p4 p5 r0 r1 r2
            obtain ⟨p0, p1, p2, p3, p4, p5⟩ := six ((hD3.block w.heap.size (by omega)).trans ((Below.heap_alloc _ _ _ (by omega)).trans HX.out))
            obtain ⟨r0, r1, r2⟩ := three ((hD3.block wr0.heap.size (by omega)).trans (heap_alloc_new wr0 _))
            go_wp2_with fail
            go_ret2
            exact ⟨by rw [HF.out]; rfl, (HB.out.trans ((((Below.refl _ wr0).alloc (Nat.le_refl _) _).trans (low hD3 (by omega))).mono HB.out.size))⟩
          have HALL : Hid (∀ r ∈ d.finals.take (k + 1), finalF d r = true) := hid fun r hr => by
            rw [take_snoc HXK.out] at hr
            rcases List.mem_append.1 hr with hr | hr
            · exact HALL0.out r hr
            · simp at hr; subst hr; rw [HF0.out, k3]; rfl
          rw [k3] at HWR
          clear k1 k2 k3 hgood HALL0 HBAD HF0
          go_wp2_with fail
          refine (HST.out _).mono ?_
          rintro e w1 ⟨rfl, hB1⟩
          have hD1 : Below (wr0.heap.size + 1) (wr0.alloc (.cells #[.int .i64 sx, .slice A3 gx.length c3, .slice A4 ox.length c4] 49)) w1 := low hB1 (by simp)
          obtain ⟨p0, p1, p2, p3, p4, p5⟩ := six ((hD1.block w.heap.size (by omega)).trans ((Below.heap_alloc _ _ _ (by omega)).trans HX.out))
          obtain ⟨r0, r1, r2⟩ := three ((hD1.block wr0.heap.size (by omega)).trans (heap_alloc_new wr0 _))
          go_wp2_with fail
          refine (HGD.out _ (HB.out.trans ((((Below.refl _ wr0).alloc (Nat.le_refl _) _).trans (low hD1 (by omega))).mono HB.out.size))).mono ?_
          rintro e w2 ⟨rfl, hB2⟩
          have hz2 := hD1.size
          simp at hz2
          have hD2 := hD1.trans (low hB2 hz2)
          clear p0 p1 p2 p3 p4 p5 r0 r1 r2
          obtain ⟨p0, p1, p2, p3, p4, p5⟩ := six ((hD2.block w.heap.size (by omega)).trans ((Below.heap_alloc _ _ _ (by omega)).trans HX.out))
          obtain ⟨r0, r1, r2⟩ := three ((hD2.block wr0.heap.size (by omega)).trans (heap_alloc_new wr0 _))
          go_wp2_with fail
          refine (HWR.out _ (HB.out.trans ((((Below.refl _ wr0).alloc (Nat.le_refl _) _).trans (low hD2 (by omega))).mono HB.out.size))).mono ?_
          rintro e w3 ⟨rfl, hB3⟩
          have hz3 := hD2.size
          simp at hz3
          have hD3 := hD2.trans (low hB3 hz3)
          clear p0 p1 p2 p3 p4 p5 r0 r1 r2
          obtain ⟨p0, p1, p2, p3, p4, p5⟩ := six ((hD3.block w.heap.size (by omega)).trans ((Below.heap_alloc _ _ _ (by omega)).trans HX.out))
          obtain ⟨r0, r1, r2⟩ := three ((hD3.block wr0.heap.size (by omega)).trans (heap_alloc_new wr0 _))
          go_wp2_with fail
          refine ⟨⟨k + 1, by omega, by push_cast; rfl, HALL.out, (HB.out.trans ((((Below.refl _ wr0).alloc (Nat.le_refl _) _).trans (low hD3 (by omega))).mono HB.out.size)), (hD3.block w.heap.size (by omega)).trans ((Below.heap_alloc _ _ _ (by omega)).trans HX.out)⟩, ?_⟩
          simp [intOf]; omega
        · obtain rfl : k = d.finals.length := by omega
          rw [List.take_length] at hall
          have HW3 : Hid (whereF d = if kahnF (edgesF d.rules) d.states.toNat then (4, 0) else (0, 0)) := hid (by
            rw [HWF2.out, findIdx_none (fun y hy => by rw [hall y hy]; rfl)])
          have HC := hid (HCY.out wr0 d.states.toNat hB (by omega) (by omega) hst3 (fun r hr => by
            have := HALLR.out r hr
            unfold ruleF stateF at this
            simp only [Bool.and_eq_true, decide_eq_true_eq] at this
            exact ⟨this.1.1.1.1, this.1.1.1.2⟩))
          clear hall hlt hB hX
          cases hk : kahnF (edgesF d.rules) d.states.toNat
          · rw [hk] at HC HW3
            clear hk
            go_wp2_with fail
            refine HC.out.mono ?_
            rintro e w2 ⟨rfl, hB2⟩
            go_wp2_with fail
            go_ret2
            exact ⟨by rw [HW3.out]; rfl, HB.out.trans (low hB2 HB.out.size)⟩
          · rw [hk] at HC HW3
            clear hk
            go_wp2_with fail
            refine HC.out.mono ?_
            rintro e w2 ⟨rfl, hB2⟩
            go_wp2_with fail
            go_ret2
            exact ⟨by rw [HW3.out]; rfl, HB.out.trans (low hB2 HB.out.size)⟩
set_option maxHeartbeats 1000000 in
theorem Check_calls (d : Desc) (v u : Value) (w : World) (hv : (listR ruleR).rel w (upto w.heap.size) [v] d.rules) (hu : (listR finalR).rel w (upto w.heap.size) [u] d.finals) :
    Calls Tryz.prog 13 #[.agg #[.int .i64 d.inn, .int .i64 d.out, .int .i64 d.states, .int .i64 d.start, v, u]] w fun e w' => e = .returned (.int .i64 (if (whereF d).1 = 0 then 0 else 2)) ∧ Below w.heap.size w w' := by
  have HH := hid fun W (hW : Below w.heap.size w W) => Where_calls d v u W ((listR ruleR).below hv hW hW.size) ((listR finalR).below hu hW hW.size)
  obtain ⟨A1, c1, rfl, hc1, hm1⟩ := list_form hv
  obtain ⟨A2, c2, rfl, hc2, hm2⟩ := list_form hu
  clear hv hu
  obtain ⟨a, ha⟩ : ∃ a, a = (whereF d).1 := ⟨_, rfl⟩
  obtain ⟨b, hb⟩ : ∃ b, b = (whereF d).2 := ⟨_, rfl⟩
  rw [← ha, ← hb] at HH
  rw [← ha]
  clear ha hb
  by_cases h0 : a = 0
  · subst h0
    go_enter Tryz.func13, Tryz.ntmps13
    go_wp2_with fail
    refine (HH.out _ ((Below.refl _ w).alloc (Nat.le_refl _) _)).mono ?_
    rintro e w1 ⟨rfl, hB1⟩
    go_wp2_with fail
    go_ret
    exact ⟨rfl, ((Below.refl _ w).alloc (Nat.le_refl _) _).trans (low hB1 (by simp))⟩
  · have hf : Hid ((if a = 0 then (0 : Int) else 2) = 2) := hid (if_neg h0)
    rw [hf.out]
    have h0' : (a == 0) = false := beq_f h0
    go_enter Tryz.func13, Tryz.ntmps13
    go_wp2_with fail
    refine (HH.out _ ((Below.refl _ w).alloc (Nat.le_refl _) _)).mono ?_
    rintro e w1 ⟨rfl, hB1⟩
    go_wp2_with fail
    go_ret
    exact ⟨rfl, ((Below.refl _ w).alloc (Nat.le_refl _) _).trans (low hB1 (by simp))⟩
theorem whereF_ok {d : Desc} : (whereF d).1 = 0 ↔ headF d = true ∧ (∀ r ∈ d.rules, ruleF d r = true) ∧ (∀ f ∈ d.finals, finalF d f = true) ∧ kahnF (edgesF d.rules) d.states.toNat = false := by
  unfold whereF
  cases headF d
  · simp
  simp only [if_true]
  by_cases hr : ∀ r ∈ d.rules, ruleF d r = true
  · rw [findIdx_none (fun y hy => by rw [hr y hy]; rfl)]
    by_cases hf : ∀ f ∈ d.finals, finalF d f = true
    · rw [findIdx_none (fun y hy => by rw [hf y hy]; rfl)]
      cases kahnF (edgesF d.rules) d.states.toNat
      · simp; exact ⟨hr, hf⟩
      · simp
    · cases h : d.finals.findIdx? (fun f => !finalF d f) with
      | none =>
        rw [List.findIdx?_eq_none_iff] at h
        exact absurd (fun f hm => by have := h f hm; simpa using this) hf
      | some i => simp [hf]
  · cases h : d.rules.findIdx? (fun r => !ruleF d r) with
    | none =>
      rw [List.findIdx?_eq_none_iff] at h
      exact absurd (fun r hm => by have := h r hm; simpa using this) hr
    | some i => simp [hr]
theorem right_bd {d : Desc} (h : (whereF d).1 = 0) : d.rules.length ≤ 4096 ∧ d.finals.length ≤ 4096 ∧ ∀ o ∈ optsD d, guardsF d.inn o.guards = true := by
  obtain ⟨h1, h2, h3, _⟩ := whereF_ok.1 h
  unfold headF at h1
  simp only [Bool.and_eq_true, decide_eq_true_eq] at h1
  refine ⟨h1.1.2, h1.2, fun o ho => ?_⟩
  unfold optsD at ho
  rcases List.mem_append.1 ho with ho | ho
  · obtain ⟨r, hr, rfl⟩ := List.mem_map.1 ho
    have := h2 r hr
    unfold ruleF at this
    simp only [Bool.and_eq_true] at this
    exact this.1.1.2
  · obtain ⟨f, hf, rfl⟩ := List.mem_map.1 ho
    have := h3 f hf
    unfold finalF at this
    simp only [Bool.and_eq_true] at this
    exact this.1.2
def soleS (d : Desc) : Value := if (whereF d).1 = 0 then .tuple #[.bool (outerS (optsD d) 0 (optsD d)).isNone, .int .i64 0] else .tuple #[.bool false, .int .i64 2]
set_option maxHeartbeats 1000000 in
theorem Sole_calls (d : Desc) (v u : Value) (w : World) (hv : (listR ruleR).rel w (upto w.heap.size) [v] d.rules) (hu : (listR finalR).rel w (upto w.heap.size) [u] d.finals) :
    Calls Tryz.prog 36 #[.agg #[.int .i64 d.inn, .int .i64 d.out, .int .i64 d.states, .int .i64 d.start, v, u]] w fun e w' => e = .returned (soleS d) ∧ Below w.heap.size w w' := by
  have HH := hid fun W (hW : Below w.heap.size w W) => Check_calls d v u W ((listR ruleR).below hv hW hW.size) ((listR finalR).below hu hW hW.size)
  have HC := hid fun (h0 : (whereF d).1 = 0) W (hW : Below w.heap.size w W) => Clash_calls d v u W ((listR ruleR).below hv hW hW.size) ((listR finalR).below hu hW hW.size) d.inn d.out d.states d.start (by have := (right_bd h0).1; omega) (by have := (right_bd h0).2.1; omega) (fun o ho g hg => by have := (guardsF_good ((right_bd h0).2.2 o ho)).2 g hg; omega)
  obtain ⟨A1, c1, rfl, hc1, hm1⟩ := list_form hv
  obtain ⟨A2, c2, rfl, hc2, hm2⟩ := list_form hu
  clear hv hu
  have hX0 := heap_alloc_new w (.cells #[.int .i64 d.inn, .int .i64 d.out, .int .i64 d.states, .int .i64 d.start, .slice A1 d.rules.length c1, .slice A2 d.finals.length c2] 27)
  by_cases h0 : (whereF d).1 = 0
  · have HF : Hid (soleS d = .tuple #[.bool (outerS (optsD d) 0 (optsD d)).isNone, .int .i64 0]) := hid (if_pos h0)
    rw [if_pos h0] at HH
    replace HC := hid (HC.out h0)
    clear h0
    unfold clashS at HC
    cases ho : outerS (optsD d) 0 (optsD d) with
    | none =>
      rw [ho] at HC HF
      clear ho
      go_enter Tryz.func36, Tryz.ntmps36
      go_wp2_with fail
      refine (HH.out _ ((Below.refl _ w).alloc (Nat.le_refl _) _)).mono ?_
      rintro e w1 ⟨rfl, hB1⟩
      obtain ⟨p0, p1, p2, p3, p4, p5⟩ := six ((hB1.block w.heap.size (by simp)).trans hX0)
      clear hX0
      go_wp2_with fail
      refine (HC.out _ (((Below.refl _ w).alloc (Nat.le_refl _) _).trans (low hB1 (by simp)))).mono ?_
      rintro e w2 ⟨rfl, hB2⟩
      go_wp2_with fail
      go_ret2
      exact ⟨by rw [HF.out]; rfl, (((Below.refl _ w).alloc (Nat.le_refl _) _).trans (low hB1 (by simp))).trans (low hB2 (by have := hB1.size; simp at this; omega))⟩
    | some p =>
      obtain ⟨i, k⟩ := p
      rw [ho] at HC HF
      clear ho
      go_enter Tryz.func36, Tryz.ntmps36
      go_wp2_with fail
      refine (HH.out _ ((Below.refl _ w).alloc (Nat.le_refl _) _)).mono ?_
      rintro e w1 ⟨rfl, hB1⟩
      obtain ⟨p0, p1, p2, p3, p4, p5⟩ := six ((hB1.block w.heap.size (by simp)).trans hX0)
      clear hX0
      go_wp2_with fail
      refine (HC.out _ (((Below.refl _ w).alloc (Nat.le_refl _) _).trans (low hB1 (by simp)))).mono ?_
      rintro e w2 ⟨rfl, hB2⟩
      go_wp2_with fail
      go_ret2
      exact ⟨by rw [HF.out]; rfl, (((Below.refl _ w).alloc (Nat.le_refl _) _).trans (low hB1 (by simp))).trans (low hB2 (by have := hB1.size; simp at this; omega))⟩
  · have HF : Hid (soleS d = .tuple #[.bool false, .int .i64 2]) := hid (if_neg h0)
    rw [if_neg h0] at HH
    clear h0 HC hX0
    go_enter Tryz.func36, Tryz.ntmps36
    go_wp2_with fail
    refine (HH.out _ ((Below.refl _ w).alloc (Nat.le_refl _) _)).mono ?_
    rintro e w1 ⟨rfl, hB1⟩
    go_wp2_with fail
    go_ret2
    exact ⟨by rw [HF.out]; rfl, ((Below.refl _ w).alloc (Nat.le_refl _) _).trans (low hB1 (by simp))⟩
end Go.Proofs.YthfcbbdghggefaaGreat
