/-
  The reference's inner values of scalars, and of both.
-/
import Derived.Test.YtflllgbjlfpgcaaKRinnA
import Derived.Test.YtflllgbjlfpgcaaKRnorm
namespace Go.Proofs.Ytflllgbjlfpgcaa
open Go.RowKit Go.Um Go.Proofs
set_option maxHeartbeats 3000000 in
set_option maxRecDepth 100000 in
theorem RInner2_calls (t : Term) (inn : Int) (hh : inn = 2) (gs : List (List Span)) (v u : Value) (w : World) (hp : (listR partR).rel w (upto w.heap.size) [v] t.parts) (hs : (listR spansR).rel w (upto w.heap.size) [u] gs)
    (hn : numbersF t = true) (hr : ∀ p ∈ t.parts, rightP p gs.length = true) (hg : goodG gs) (hgl : ∀ g ∈ gs, g.length ≤ 90000) (hw : ∀ p ∈ t.parts, p = wholeP p.at_) (hlen : t.parts.length ≤ 1) :
    Calls Try.prog 47 #[tval t v, .int .i64 inn, u] w fun e w' => InnerPost t gs w e w' := by
  obtain ⟨A, c, rfl, hc, hm⟩ := list_form hp
  obtain ⟨A2, c2, rfl, hc2, hm2⟩ := list_form hs
  unfold maxLen at hm hm2
  have hi1 : (inn == 1) = false := beq_f (by omega)
  have hi2 : (inn == 2) = true := beq_t hh
  clear hh
  obtain ⟨_, hsum, _, _, hpl⟩ := numbersF_iff.1 hn
  have hsb := smallN_iff.1 hsum
  clear hn hsum
  by_cases hl1 : t.parts.length = 1
  · obtain ⟨p, hp1⟩ : ∃ p, t.parts = [p] := List.length_eq_one_iff.1 hl1
    have hpm : p ∈ t.parts := by rw [hp1]; simp
    obtain ⟨hp0, hpn, hpb⟩ := rightP_iff.1 (hr p hpm)
    obtain ⟨k, hk⟩ : ∃ k : Nat, k = p.at_.toNat := ⟨_, rfl⟩
    have hkp : p.at_ = (k : Int) := by omega
    have hkl : k < gs.length := by omega
    obtain ⟨g, hgk⟩ := at_lt hkl
    have hgm := List.mem_of_getElem? hgk
    obtain ⟨hgp, hgs, hgn⟩ := hg.2 g hgm
    obtain ⟨hIR, hne⟩ := innerR_one hp1 (hw p hpm) hp0 (by rw [← hk]; exact hgk) hgp hgs hgn hsb
    have hglen := hgl g hgm
    obtain ⟨l, hl⟩ : ∃ l, l = moveF g t.sum := ⟨_, rfl⟩
    rw [← hl] at hIR hne
    have hll : l.length ≤ 90000 := by
      rw [hl]; unfold moveF
      split
      · simp
      · have h1 := normF_length ((normF g).map (addN t.sum))
        have h2 := normF_length g
        rw [List.length_map] at h1
        omega
    have hlp : plain l = true := by rw [hl]; exact moveF_plain _ _
    have hl0 : 0 < l.length := by
      rcases l with _ | ⟨q, r⟩
      · exact absurd rfl hne
      · simp
    obtain ⟨x, hx⟩ := at_lt (xs := l) (i := 0) hl0
    obtain ⟨y, hy⟩ := at_lt (xs := l) (i := l.length - 1) (by omega)
    have hhx := headLo_get hx
    have hhy := lastHi_get hy
    have HNG : Hid (normF g = g) := hid (normF_id hgp)
    have HL := hid hl
    have HIR := hid hIR
    have hX0 : (w.alloc (.cells #[.int .i64 t.base, .int .i64 t.drop, .int .i64 t.take, .int .i64 t.up, .int .i64 t.sum, .slice A t.parts.length c] 60)).heap[w.heap.size]? = some (.cells #[.int .i64 t.base, .int .i64 t.drop, .int .i64 t.take, .int .i64 t.up, .int .i64 t.sum, .slice A t.parts.length c] 60) := heap_alloc_new _ _
    have hB0 : Below w.heap.size w (w.alloc (.cells #[.int .i64 t.base, .int .i64 t.drop, .int .i64 t.take, .int .i64 t.up, .int .i64 t.sum, .slice A t.parts.length c] 60)) := (Below.refl _ w).alloc (Nat.le_refl _) _
    have hl1' : (t.parts.length : Int) = 1 := by omega
    have hl1b : ((t.parts.length : Int) == 1) = true := beq_t hl1'
    have hp00 : t.parts[0]? = some p := by rw [hp1]; rfl
    have hpos : (0 : Int) < t.parts.length := by omega
    unfold tval
    clear hl1 hl1' hp1 hIR hl hpb hgn hw hgl hlen hne hr hpl hgs
    go_enter Try.func47, Try.ntmps47
    go_wp2_with fail
    generalize w.alloc (.cells #[.int .i64 t.base, .int .i64 t.drop, .int .i64 t.take, .int .i64 t.up, .int .i64 t.sum, .slice A t.parts.length c] 60) = w0 at *
    have hs0 := hB0.size
    have hXl := heap_lt hX0
    obtain ⟨x1, x2, x3, x4, x5, x6⟩ := six'' hX0
    have hrp := (listR partR).mono (below_cells hB0) (fun _ h => h) hp
    have hrg := (listR spansR).mono (below_cells hB0) (fun _ h => h) hs
    obtain ⟨pb, po, rfl, hpbl, p1, _, _, _, _⟩ := part_at hrp hp00
    obtain ⟨b1, o1, y1, rfl, hb1, hy1, hcg⟩ := list_at1 rfl hrg hgk
    obtain ⟨A3, c3, rfl, hc3, hm3⟩ := list_form hy1
    rw [hkp] at p1
    clear hkp hk
    have hpb' : pb < w0.heap.size := Nat.lt_of_lt_of_le hpbl hs0
    have hb1' : b1 < w0.heap.size := Nat.lt_of_lt_of_le hb1 hs0
    have hkl' : (k : Int) < gs.length := by omega
    have p1' : w0.cell? ⟨pb, po, none⟩ = some (.int .i64 k) := by simpa using p1
    have HN := hid fun W (hW : Below w0.heap.size w0 W) => RNorm_calls g (.slice A3 g.length c3) W (spansR.mono (fun q hq => hW.cell (Nat.lt_of_lt_of_le hq hs0)) (fun q hq => Nat.lt_of_lt_of_le hq (Nat.le_trans hs0 hW.size)) hy1) (by omega)
    clear hrp hrg hy1 p1 hp00 hkl hgk
    go_wp2_with fail
    obtain ⟨ι, W, ⟨i0, hi0⟩, hW, Wsur⟩ := ext_class w0.drew
    have hne : Nonempty ι := ⟨i0⟩
    have WS := hid Wsur; clear Wsur
    have HW := hid hW; clear hW
    have Hi0 := hid hi0; clear hi0
    have g1 : ∀ i, (W i).cell? ⟨w.heap.size, 4, none⟩ = _ := fun i => ((HW.out i).cell (p := ⟨w.heap.size, 4, none⟩) hXl).trans x5
    have g2 : ∀ i, (W i).cell? ⟨w.heap.size, 5, none⟩ = _ := fun i => ((HW.out i).cell (p := ⟨w.heap.size, 5, none⟩) hXl).trans x6
    have g3 : ∀ i, (W i).cell? ⟨pb, po, none⟩ = some (.int .i64 k) := fun i => ((HW.out i).cell (p := ⟨pb, po, none⟩) hpb').trans p1'
    have g4 : ∀ i, (W i).cell? ⟨b1, o1 + k, none⟩ = _ := fun i => ((HW.out i).cell (p := ⟨b1, o1 + k, none⟩) hb1').trans hcg
    refine region_anyL (S := fun w' => ∃ i, w' = W i) (last := 13) (by kernel_rfl) ?_
    refine anyL_seg 0 8 (by kernel_rfl) (fun _ _ _ _ _ h => h) ⟨i0, Hi0.out.symm⟩ (f := 5) rfl (by kernel_rfl) (by kernel_rfl) ?_
    simp only [List.drop_zero, List.take_succ_cons, List.take_zero]
    repeat go_big_quiet_step (fail)
    refine wpQuiet_nil ?_
    refine anyL_seg 9 2 (by kernel_rfl) (fun _ _ _ _ _ h => h) ⟨i0, Hi0.out.symm⟩ (f := 3) rfl (by kernel_rfl) (by kernel_rfl) ?_
    simp only [List.drop_succ_cons, List.drop_zero, List.take_succ_cons, List.take_zero]
    repeat go_big_quiet_step (fail)
    refine wpQuiet_nil ?_
    refine anyL_act (i := 8) (by kernel_rfl) rfl rfl ?_
    intro K hK
    go_wp2_with fail
    refine (HN.out _ (Below.refl _ w0).drew).mono ?_
    rintro e w4 ⟨u4, rfl, ho4, hB4⟩
    have hS4 : ∃ i, w4 = W i := WS.out i0 _ (by rw [Hi0.out]; exact hB4)
    rw [HNG.out] at ho4
    have HM := hid (RMove_calls g t.sum u4 w4 ho4.rel (by omega) hsb)
    rw [← HL.out] at HM
    obtain ⟨A4, c4, rfl, _, _⟩ := list_form ho4.rel
    go_wp2_with fail
    refine hK.out _ _ (fun _ => hS4) ?_
    clear hK K
    refine anyL_act (i := 11) (by kernel_rfl) rfl rfl ?_
    intro K hK
    go_wp2_with fail
    refine HM.out.mono ?_
    rintro e w5 ⟨u5, rfl, ho5, hB5⟩
    have hS5 : ∃ i, w5 = W i := by
      obtain ⟨i1, hi1'⟩ := hS4
      exact WS.out i1 _ (by rw [← hi1']; exact hB5)
    obtain ⟨A5, c5, rfl, hc5, hm5⟩ := list_form ho5.rel
    unfold maxLen at hm5
    go_wp2_with fail
    refine hK.out _ _ (fun _ => hS5) ?_
    clear hK K
    refine anyL_seg 12 1 (by kernel_rfl) (fun _ _ _ _ _ h => h) hS5 (f := 0) rfl (by kernel_rfl) (by kernel_rfl) ?_
    simp only [List.drop_succ_cons, List.drop_zero, List.take_succ_cons, List.take_zero]
    repeat go_big_quiet_step (fail)
    refine wpQuiet_nil ?_
    refine anyL_done (by kernel_rfl) ?_ 0
    have hB4' : Below w.heap.size w w4 := hB0.trans (show Below w.heap.size w0 w4 from ⟨hB4.os, hB4.tape, hB4.output, hB4.size, fun q hq => hB4.block q (Nat.lt_of_lt_of_le hq hs0)⟩)
    have hs04 : w0.heap.size ≤ w4.heap.size := hB4.size
    have HBW5 := hid (hB4'.trans (hB5.mono (Nat.le_trans hs0 hs04)))
    have HO5 : Hid (OwnS 46 w5 w.heap.size (.slice A5 l.length c5) l) := hid (OwnS.base ho5 (Nat.le_trans hs0 hs04))
    obtain ⟨bb, oo, rfl, hbb, r1, _, _, _⟩ := span_at ho5.rel hx
    obtain ⟨bb', oo', hA', _, _, r2, _, _⟩ := span_at ho5.rel hy
    simp only [Option.some.injEq, Addr.mk.injEq, and_true] at hA'
    obtain ⟨rfl, rfl⟩ := hA'
    obtain ⟨m, hm9⟩ : ∃ m : Nat, m = l.length - 1 := ⟨_, rfl⟩
    rw [← hm9] at r2
    have hml : (l.length : Int) - 1 = (m : Int) := by omega
    have hml2 : (m : Int) < l.length := by omega
    have r1' : w5.cell? ⟨bb, oo, none⟩ = some (.int .i64 x.lo) := by simpa using r1
    have hxm := ho5.2 x (List.mem_of_getElem? hx)
    have hym := ho5.2 y (List.mem_of_getElem? hy)
    clear hS4 hS5 g1 g2 g3 g4 WS HW Hi0 hne i0 W ι ho4 ho5 hB4 hB5 hB4' HM HN r1 hm9 hx hy x1 x2 x3 x4 x5 x6 hX0 hB0 hcg p1'
    have hok : okV l = (decide (0 ≤ x.lo) && decide (y.hi ≤ 1114111)) := by
      unfold okV
      rw [hhx, hhy]
      have : l.isEmpty = false := by rw [List.isEmpty_eq_false_iff]; rintro rfl; simp at hl0
      rw [this]; rfl
    rw [hok] at HIR
    clear hok hhx hhy
    by_cases hx0 : 0 ≤ x.lo
    · rw [decide_eq_true hx0] at HIR
      by_cases hy0 : y.hi ≤ 1114111
      · rw [decide_eq_true hy0] at HIR
        go_wp2_with fail
        go_quiet (fail)
        go_wp2_with fail
        go_ret2
        exact ⟨_, l, true, rfl, HIR.out, fun _ => ⟨HO5.out, by omega⟩, ⟨_, _, _, rfl⟩, below_drewN HBW5.out _⟩
      · rw [decide_eq_false hy0] at HIR
        have hy0' : decide (y.hi ≤ 1114111) = false := decide_eq_false hy0
        go_wp2_with fail
        go_quiet (fail)
        go_wp2_with fail
        go_ret2
        exact ⟨_, l, false, rfl, HIR.out, fun _ => ⟨HO5.out, by omega⟩, ⟨_, _, _, rfl⟩, below_drewN HBW5.out _⟩
    · rw [decide_eq_false hx0] at HIR
      have hx0' : decide (0 ≤ x.lo) = false := decide_eq_false hx0
      go_wp2_with fail
      go_quiet (fail)
      go_wp2_with fail
      go_ret2
      exact ⟨_, l, false, rfl, HIR.out, fun _ => ⟨HO5.out, by omega⟩, ⟨_, _, _, rfl⟩, below_drewN HBW5.out _⟩
  · have hp0 : t.parts = [] := List.eq_nil_of_length_eq_zero (by omega)
    have hl1b : ((t.parts.length : Int) == 1) = false := beq_f (by omega)
    have HRI := hid hr
    have HG := hid hg
    have HP0 := hid hp0
    have ho1 : ((w.alloc (.cells #[.int .i64 t.base, .int .i64 t.drop, .int .i64 t.take, .int .i64 t.up, .int .i64 t.sum, .slice A t.parts.length c] 60)).alloc (.cells #[.int .i64 t.sum] 3)).ownsInts (w.alloc (.cells #[.int .i64 t.base, .int .i64 t.drop, .int .i64 t.take, .int .i64 t.up, .int .i64 t.sum, .slice A t.parts.length c] 60)).heap.size 3 .i64 (.slice (some ⟨(w.alloc (.cells #[.int .i64 t.base, .int .i64 t.drop, .int .i64 t.take, .int .i64 t.up, .int .i64 t.sum, .slice A t.parts.length c] 60)).heap.size, 0, none⟩) 1 1) [t.sum] := own_one _ _ (WalkArith.wf_i64 ⟨by omega, by omega⟩)
    have hrow0 := intsR ho1
    have hB0 : Below w.heap.size w ((w.alloc (.cells #[.int .i64 t.base, .int .i64 t.drop, .int .i64 t.take, .int .i64 t.up, .int .i64 t.sum, .slice A t.parts.length c] 60)).alloc (.cells #[.int .i64 t.sum] 3)) := ((Below.refl _ w).alloc (Nat.le_refl _) _).alloc (by simp) _
    rw [show (w.alloc (.cells #[.int .i64 t.base, .int .i64 t.drop, .int .i64 t.take, .int .i64 t.up, .int .i64 t.sum, .slice A t.parts.length c] 60)).heap.size = w.heap.size + 1 by simp] at hrow0
    clear ho1 hr hg hgl hw hp0
    unfold tval
    go_enter Try.func47, Try.ntmps47
    go_wp2_with fail
    generalize (w.alloc (.cells #[.int .i64 t.base, .int .i64 t.drop, .int .i64 t.take, .int .i64 t.up, .int .i64 t.sum, .slice A t.parts.length c] 60)).alloc (.cells #[.int .i64 t.sum] 3) = wo at *
    go_loop [9, 10] (fun vn va => ∃ k : Nat, k ≤ gs.length ∧ vn = .slice (some ⟨w.heap.size + 1, 0, none⟩) 1 1 ∧ va = .int .i64 k ∧ NowL t gs k [t.sum]) (fun _ va => gs.length - (intOf va).toNat)
    case atStart => exact ⟨0, Nat.zero_le _, rfl, rfl, nowL_zero hsb⟩
    case round =>
      obtain ⟨k, hk, rfl, rfl, hnow⟩ := hrel
      have HNOW := hid hnow
      by_cases hlt : k < gs.length
      · obtain ⟨g, hgk⟩ := at_lt hlt
        have hlt' : (k : Int) < gs.length := by omega
        have hgg := HG.out.2 g (List.mem_of_getElem? hgk)
        have HE : Hid (∃ j' : Nat, j' ≤ gs.length ∧ Value.slice (some ⟨w.heap.size + 1, 0, none⟩) 1 1 = .slice (some ⟨w.heap.size + 1, 0, none⟩) 1 1 ∧ Value.int .i64 ((k : Int) + 1) = .int .i64 j' ∧ NowL t gs j' [t.sum]) := hid ⟨k + 1, by omega, rfl, by push_cast; rfl, nowL_skip hgk ⟨_, headLo_mem hgg.1 hgg.2.2⟩ (by rw [HP0.out]; rfl) hnow⟩
        clear hnow HNOW hgg hgk hlt
        go_wp2_with fail
        go_loop [11, 12, 13] (fun vo vs vx => vo = .slice none 0 0 ∧ vs = .bool false ∧ vx = .int .i64 0) (fun _ _ _ => 0)
        case atStart => exact ⟨rfl, rfl, rfl⟩
        case round =>
          obtain ⟨rfl, rfl, rfl⟩ := hrel
          go_wp2_with fail
          first
            | (refine ⟨HE.out, ?_⟩; simp [intOf]; omega)
            | (go_simp; refine ⟨by simpa using HE.out, ?_⟩; simp [intOf]; omega)
      · obtain rfl : k = gs.length := by omega
        have hB := hB0
        have HB := hid hB0
        have hsw := hB0.size
        obtain ⟨l, hl⟩ : ∃ l, l = [t.sum] := ⟨_, rfl⟩
        rw [← hl] at hnow hrow0
        have hx : l[0]? = some t.sum := by rw [hl]; rfl
        have hl1 : l.length = 1 := by rw [hl]; rfl
        have hy : l[l.length - 1]? = some t.sum := by rw [hl]; rfl
        have HEND := hid (innerR_end HRI.out HG.out hnow hx hy)
        obtain ⟨x, hxe⟩ : ∃ x, x = t.sum := ⟨_, rfl⟩
        obtain ⟨y, hye⟩ : ∃ y, y = x := ⟨_, rfl⟩
        have hxo : I64 t.sum := ⟨by omega, by omega⟩
        have hrow := hrow0
        obtain ⟨bb, oo, v1, hA1, hbb, ⟨hv1, _⟩, hcx⟩ := list_at1 rfl hrow hx
        simp only [Option.some.injEq, Addr.mk.injEq, and_true] at hA1
        obtain ⟨rfl, rfl⟩ := hA1
        simp only [List.cons.injEq, and_true] at hv1
        subst hv1
        have hcx' : wo.cell? ⟨w.heap.size + 1, 0, none⟩ = some (.int .i64 t.sum) := by simpa [intR] using hcx
        have HSP := hid fun W (hW : Below wo.heap.size wo W) => Spans_calls l (.slice (some ⟨w.heap.size + 1, 0, none⟩) 1 1) W ((listR intR).below hrow hW hW.size) (by omega) (fun z hz => hnow.2.2 z hz)
        have hlb : l.length ≤ 2228223 := by omega
        clear hrow hrow0 hB hlt hx hy hcx hnow HNOW hxe hye x y hB0 hl
        by_cases hx0 : 0 ≤ t.sum
        · have hy0 : t.sum ≤ 1114111 := hsb.2
          have HR : Hid (InnerR t gs (spansF l) true) := hid (by have := HEND.out; rw [decide_eq_true hx0, decide_eq_true hy0] at this; exact this)
          clear HEND
          go_wp2_with fail
          obtain ⟨ι, W, ⟨i0, hi0⟩, hW, Wsur⟩ := ext_class wo.drew
          have hne : Nonempty ι := ⟨i0⟩
          have WS := hid Wsur; clear Wsur
          have HW := hid hW; clear hW
          have Hi0 := hid hi0; clear hi0
          have g1 : ∀ i, (W i).cell? ⟨w.heap.size + 1, 0, none⟩ = some (.int .i64 t.sum) := fun i => ((HW.out i).cell (p := ⟨w.heap.size + 1, 0, none⟩) hbb).trans hcx'
          have g2 : ∀ i, (W i).cell? ⟨w.heap.size + 1, 0, none⟩ = some (.int .i64 t.sum) := fun i => ((HW.out i).cell (p := ⟨w.heap.size + 1, 0, none⟩) hbb).trans hcx'
          refine region_anyL (S := fun w' => ∃ i, w' = W i) (last := 17) (by kernel_rfl) ?_
          refine anyL_seg 0 1 (by kernel_rfl) (fun _ _ _ _ _ h => h) ⟨i0, Hi0.out.symm⟩ (f := 16) rfl (by kernel_rfl) (by kernel_rfl) ?_
          simp only [List.drop_zero, List.take_succ_cons, List.take_zero]
          repeat go_big_quiet_step (fail)
          refine wpQuiet_nil ?_
          refine anyL_seg 2 4 (by kernel_rfl) (fun _ _ _ _ _ h => h) ⟨i0, Hi0.out.symm⟩ (f := 12) rfl (by kernel_rfl) (by kernel_rfl) ?_
          simp only [List.drop_succ_cons, List.drop_zero, List.take_succ_cons, List.take_zero]
          repeat go_big_quiet_step (fail)
          refine wpQuiet_nil ?_
          refine anyL_act (i := 1) (by kernel_rfl) rfl rfl ?_
          intro K hK
          go_wp2_with fail
          refine (HSP.out _ (Below.refl _ wo).drew).mono ?_
          rintro e w7 ⟨u7, rfl, ho7, hB7⟩
          obtain ⟨A7, c7, rfl, hc7, hm7⟩ := list_form ho7.rel
          have hS7 : ∃ i, w7 = W i := WS.out i0 _ (by rw [Hi0.out]; exact hB7)
          have k1 : w7.cell? ⟨w.heap.size + 1, 0, none⟩ = some (.int .i64 t.sum) := (hB7.cell (p := ⟨w.heap.size + 1, 0, none⟩) hbb).trans hcx'
          have k2 : w7.cell? ⟨w.heap.size + 1, 0, none⟩ = some (.int .i64 t.sum) := (hB7.cell (p := ⟨w.heap.size + 1, 0, none⟩) hbb).trans hcx'
          go_wp2_with fail
          refine hK.out _ _ (fun _ => hS7) ?_
          clear hK K
          refine anyL_seg 6 11 (by kernel_rfl) (fun _ _ _ _ _ h => h) hS7 (f := 0) rfl (by kernel_rfl) (by kernel_rfl) ?_
          simp only [List.drop_succ_cons, List.drop_zero, List.take_succ_cons, List.take_zero]
          repeat go_big_quiet_step (fail)
          refine wpQuiet_nil ?_
          refine anyL_done (by kernel_rfl) ?_ 0
          clear hS7 g1 g2 WS HW Hi0 hne i0 W ι k1 k2
          have hB7w := HB.out.trans (show Below w.heap.size wo w7 from ⟨hB7.os, hB7.tape, hB7.output, hB7.size, fun q hq => hB7.block q (Nat.lt_of_lt_of_le hq hsw)⟩)
          go_wp2_with fail
          go_ret2
          exact ⟨_, _, true, rfl, HR.out, fun _ => ⟨OwnS.base ho7 hsw, Nat.le_trans (spansF_length l) (by omega)⟩, ⟨_, _, _, rfl⟩, hB7w⟩
        · have HR : Hid (InnerR t gs (spansF l) false) := hid (by have := HEND.out; rw [decide_eq_false hx0] at this; exact this)
          have hx0' : decide (0 ≤ t.sum) = false := decide_eq_false hx0
          clear HEND
          go_wp2_with fail
          obtain ⟨ι, W, ⟨i0, hi0⟩, hW, Wsur⟩ := ext_class wo.drew
          have hne : Nonempty ι := ⟨i0⟩
          have WS := hid Wsur; clear Wsur
          have HW := hid hW; clear hW
          have Hi0 := hid hi0; clear hi0
          have g1 : ∀ i, (W i).cell? ⟨w.heap.size + 1, 0, none⟩ = some (.int .i64 t.sum) := fun i => ((HW.out i).cell (p := ⟨w.heap.size + 1, 0, none⟩) hbb).trans hcx'
          have g2 : ∀ i, (W i).cell? ⟨w.heap.size + 1, 0, none⟩ = some (.int .i64 t.sum) := fun i => ((HW.out i).cell (p := ⟨w.heap.size + 1, 0, none⟩) hbb).trans hcx'
          refine region_anyL (S := fun w' => ∃ i, w' = W i) (last := 17) (by kernel_rfl) ?_
          refine anyL_seg 0 1 (by kernel_rfl) (fun _ _ _ _ _ h => h) ⟨i0, Hi0.out.symm⟩ (f := 16) rfl (by kernel_rfl) (by kernel_rfl) ?_
          simp only [List.drop_zero, List.take_succ_cons, List.take_zero]
          repeat go_big_quiet_step (fail)
          refine wpQuiet_nil ?_
          refine anyL_seg 2 4 (by kernel_rfl) (fun _ _ _ _ _ h => h) ⟨i0, Hi0.out.symm⟩ (f := 12) rfl (by kernel_rfl) (by kernel_rfl) ?_
          simp only [List.drop_succ_cons, List.drop_zero, List.take_succ_cons, List.take_zero]
          repeat go_big_quiet_step (fail)
          refine wpQuiet_nil ?_
          refine anyL_act (i := 1) (by kernel_rfl) rfl rfl ?_
          intro K hK
          go_wp2_with fail
          refine (HSP.out _ (Below.refl _ wo).drew).mono ?_
          rintro e w7 ⟨u7, rfl, ho7, hB7⟩
          obtain ⟨A7, c7, rfl, hc7, hm7⟩ := list_form ho7.rel
          have hS7 : ∃ i, w7 = W i := WS.out i0 _ (by rw [Hi0.out]; exact hB7)
          have k1 : w7.cell? ⟨w.heap.size + 1, 0, none⟩ = some (.int .i64 t.sum) := (hB7.cell (p := ⟨w.heap.size + 1, 0, none⟩) hbb).trans hcx'
          have k2 : w7.cell? ⟨w.heap.size + 1, 0, none⟩ = some (.int .i64 t.sum) := (hB7.cell (p := ⟨w.heap.size + 1, 0, none⟩) hbb).trans hcx'
          go_wp2_with fail
          refine hK.out _ _ (fun _ => hS7) ?_
          clear hK K
          refine anyL_seg 6 11 (by kernel_rfl) (fun _ _ _ _ _ h => h) hS7 (f := 0) rfl (by kernel_rfl) (by kernel_rfl) ?_
          simp only [List.drop_succ_cons, List.drop_zero, List.take_succ_cons, List.take_zero]
          repeat go_big_quiet_step (fail)
          refine wpQuiet_nil ?_
          refine anyL_done (by kernel_rfl) ?_ 0
          clear hS7 g1 g2 WS HW Hi0 hne i0 W ι k1 k2
          have hB7w := HB.out.trans (show Below w.heap.size wo w7 from ⟨hB7.os, hB7.tape, hB7.output, hB7.size, fun q hq => hB7.block q (Nat.lt_of_lt_of_le hq hsw)⟩)
          go_wp2_with fail
          go_ret2
          exact ⟨_, _, false, rfl, HR.out, fun _ => ⟨OwnS.base ho7 hsw, Nat.le_trans (spansF_length l) (by omega)⟩, ⟨_, _, _, rfl⟩, hB7w⟩
theorem RInner_calls (t : Term) (inn out : Int) (gs : List (List Span)) (v u : Value) (w : World) (hp : (listR partR).rel w (upto w.heap.size) [v] t.parts) (hs : (listR spansR).rel w (upto w.heap.size) [u] gs)
    (hr : rightF t inn out gs.length = true) (hg : goodG gs) (hgl : ∀ g ∈ gs, g.length ≤ 90000) (hby : inn = 1 → ∀ g ∈ gs, ∀ z, mem g z → z ≤ 255) :
    Calls Try.prog 47 #[tval t v, .int .i64 inn, u] w fun e w' => InnerPost t gs w e w' := by
  obtain ⟨hi, _, hn, hpr, hlen, _⟩ := rightF_iff.1 hr
  have hrp : ∀ p ∈ t.parts, rightP p gs.length = true := fun p hp' => (hpr p hp').1
  rcases hi with h1 | h2
  · exact RInner1_calls t inn h1 gs v u w hp hs hn hrp hg (hby h1)
  · exact RInner2_calls t inn h2 gs v u w hp hs hn hrp hg hgl (fun p hp' => (hpr p hp').2 h2) (hlen h2)
end Go.Proofs.Ytflllgbjlfpgcaa
