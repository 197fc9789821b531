/-
  A term's value of a window: term.Value.
-/
import Derived.Test.YtmkmikacfilbpaaGreatRunP
import Derived.Test.YtmkmikacfilbpaaGreatRwC
namespace Go.Proofs.YtmkmikacfilbpaaGreat
open Go.RowKit Go.Um Go.Proofs
theorem six9W {W : World} {b : Nat} {x0 x1 x2 x3 x4 x5 : Value} {t : TypeId} (h : W.heap[b]? = some (.cells #[x0, x1, x2, x3, x4, x5] t)) :
    W.cell? ⟨b, 0, none⟩ = some x0 ∧ W.cell? ⟨b, 1, none⟩ = some x1 ∧ W.cell? ⟨b, 2, none⟩ = some x2 ∧ W.cell? ⟨b, 3, none⟩ = some x3 ∧ W.cell? ⟨b, 4, none⟩ = some x4 ∧ W.cell? ⟨b, 5, none⟩ = some x5 :=
  ⟨cell_of_row _ _ 0 _ _ _ h, cell_of_row _ _ 1 _ _ _ h, cell_of_row _ _ 2 _ _ _ h, cell_of_row _ _ 3 _ _ _ h, cell_of_row _ _ 4 _ _ _ h, cell_of_row _ _ 5 _ _ _ h⟩
theorem four9W {W : World} {b : Nat} {x0 x1 x2 x3 : Value} {t : TypeId} (h : W.heap[b]? = some (.cells #[x0, x1, x2, x3] t)) :
    W.cell? ⟨b, 0, none⟩ = some x0 ∧ W.cell? ⟨b, 1, none⟩ = some x1 ∧ W.cell? ⟨b, 2, none⟩ = some x2 ∧ W.cell? ⟨b, 3, none⟩ = some x3 :=
  ⟨cell_of_row _ _ 0 _ _ _ h, cell_of_row _ _ 1 _ _ _ h, cell_of_row _ _ 2 _ _ _ h, cell_of_row _ _ 3 _ _ _ h⟩
theorem sumV_snoc (l : List Part) (p : Part) (f : Int → Int) : sumV (l ++ [p]) f = sumV l f + valF p (f p.at_) := by simp [sumV]
theorem sumV_bd {l : List Part} (h : ∀ p ∈ l, bitsF p = true) (f : Int → Int) : 0 ≤ sumV l f ∧ sumV l f ≤ 67108864 * l.length := by
  induction l with
  | nil => simp [sumV]
  | cons p l ih =>
    have h1 := ih fun q hq => h q (List.mem_cons_of_mem _ hq)
    have h2 := valF_nonneg p (f p.at_)
    have h3 := valF_le (h p List.mem_cons_self) (f p.at_)
    have e : sumV (p :: l) f = valF p (f p.at_) + sumV l f := rfl
    rw [e, List.length_cons]
    push_cast
    omega
set_option maxHeartbeats 2000000 in
set_option maxRecDepth 100000 in
theorem tValue_calls (t : Term) (v u : Value) (win : List Int) (w : World) (h : (listR partR).rel w (upto w.heap.size) [v] t.parts) (hu : wordR.rel w (upto w.heap.size) [u] win) (hw : ∀ x ∈ win, 0 ≤ x ∧ x ≤ 1114111) (hp : ∀ p ∈ t.parts, rightP p win.length = true) (hn : numbersF t = true)
    (hi : 0 ≤ t.sum + sumV t.parts (fun q => win.getD q.toNat 0) ∧ t.sum + sumV t.parts (fun q => win.getD q.toNat 0) ≤ 1114111) :
    Calls Tryz.prog 91 #[tval t v, u] w fun e w' => e = .returned (.tuple #[.int .i64 (tvalF t win), .bool true]) ∧ Below w.heap.size w w' := by
  obtain ⟨n1, n2, n3, n4, n5⟩ := numbersF_iff.1 hn
  rw [smallN_iff] at n1 n2
  have HR := hid fun p (hp : rightP p win.length = true) W => (show Calls Tryz.prog 116 #[pval p, .int .i64 win.length] W (fun e w' => e = .returned (.bool true) ∧ Below W.heap.size W w') from by have := Right_calls p win.length W; rwa [hp] at this)
  have HV := hid fun p x W (hb : bitsF p = true) (h0 : 0 ≤ x) (h1 : x ≤ 1114111) => (show Calls Tryz.prog 117 #[pval p, .int .i64 x] W (fun e w' => e = .returned (.tuple #[.int .i64 (valF p x), .bool true]) ∧ Below W.heap.size W w') from by have := Value_calls p x W; rwa [if_pos ⟨hb, h0, by omega⟩] at this)
  obtain ⟨A, c, rfl, hc, hm⟩ := list_form h
  obtain ⟨B, d, rfl, hd, hm2⟩ := list_form hu
  unfold maxLen at hm hm2
  have HO := hid fun W => outer_calls t (.slice A t.parts.length c) W
  have hob : bitsF (outerT t) = true := n3
  obtain ⟨I, hI⟩ : ∃ I, I = t.sum + sumV t.parts (fun q => win.getD q.toNat 0) := ⟨_, rfl⟩
  rw [← hI] at hi
  have HVo := hid fun W => HV.out (outerT t) I W hob hi.1 hi.2
  have hT : tvalF t win = t.base + valF (outerT t) I := by rw [hI]; rfl
  rw [hT]
  obtain ⟨O, hO⟩ : ∃ O, O = valF (outerT t) I := ⟨_, rfl⟩
  have hO0 := valF_nonneg (outerT t) I
  have hO1 := valF_le hob I
  rw [← hO] at HVo hO0 hO1
  rw [← hO]
  have hpb : ∀ p ∈ t.parts, bitsF p = true := fun p hpm => (rightP_iff.1 (hp p hpm)).2.2
  have HI := hid hI
  clear hO hT hI n3 n4 hn hob
  unfold tval at HO ⊢
  unfold pval outerT at HO
  unfold pval outerT at HVo
  dsimp only at HO HVo
  obtain ⟨tb, td, tk, tu, ts, tp⟩ := t
  dsimp only at *
  obtain ⟨w1, hw1⟩ : ∃ w1, w1 = w.alloc (.cells #[.int .i64 tb, .int .i64 td, .int .i64 tk, .int .i64 tu, .int .i64 ts, .slice A tp.length c] 90) := ⟨_, rfl⟩
  have hX1 : w1.heap[w.heap.size]? = some (.cells #[.int .i64 tb, .int .i64 td, .int .i64 tk, .int .i64 tu, .int .i64 ts, .slice A tp.length c] 90) := by rw [hw1]; exact heap_alloc_new w _
  have hB1 : Below w.heap.size w w1 := by rw [hw1]; exact (Below.refl _ w).alloc (Nat.le_refl _) _
  have hBW := below_cells hB1
  have hp1 : (listR partR).rel w1 (upto w.heap.size) [.slice A tp.length c] tp := (listR partR).mono (fun p hp => hB1.cell hp) (fun _ h => h) h
  have hu1 : wordR.rel w1 (upto w.heap.size) [.slice B win.length d] win := wordR.mono (fun p hp => hB1.cell hp) (fun _ h => h) hu
  have HX1 := hid hX1
  have HB1 := hid hB1
  have HP := hid hp1
  have HU := hid hu1
  have HW := hid hw
  have HPR := hid hp
  have HPB := hid hpb
  have hsz1 : w.heap.size < w1.heap.size := heapLtW hX1
  obtain ⟨x0, x1, x2, x3, x4, x5⟩ := six9W hX1
  clear h hu hp1 hu1 hBW hw hp hpb hB1 hX1
  go_enter Tryz.func91, Tryz.ntmps91
  go_wp2_with fail
  rw [← hw1]
  clear hw1
  go_loop [17] (fun vi => ∃ k : Nat, k ≤ win.length ∧ vi = .int .i64 k) (fun vi => win.length - (intOf vi).toNat)
  case atStart => exact ⟨0, Nat.zero_le _, rfl⟩
  case round =>
    obtain ⟨k, hk, rfl⟩ := hrel
    by_cases hlt : k < win.length
    · have hlt' : (k : Int) < win.length := by omega
      obtain ⟨x, hx⟩ := at_lt hlt
      obtain ⟨b1, o1, rfl, hb1, hcx, _⟩ := rune_at HU.out hx
      obtain ⟨e1, e2⟩ := HW.out x (List.mem_of_getElem? hx)
      have e1' : ¬ x < 0 := by omega
      have e2' : ¬ 1114111 < x := by omega
      clear hx hlt
      go_wp2_with fail
      refine ⟨⟨k + 1, by omega, by go_num⟩, ?_⟩
      simp [intOf]; omega
    · have hlt' : ¬ (k : Int) < win.length := by omega
      clear hlt
      go_wp2_with fail
      go_loopw [8, 33] (fun vs vi wr => ∃ (k : Nat) (z : Int), k ≤ tp.length ∧ vi = .int .i64 k ∧ vs = .int .i64 z ∧ z = ts + sumV (tp.take k) (fun q => win.getD q.toNat 0) ∧ Below wr.heap.size wr wr ∧ Below w1.heap.size w1 wr) (fun _ vi _ => tp.length - (intOf vi).toNat)
      case atStart => exact ⟨0, ts, Nat.zero_le _, rfl, rfl, by simp [sumV], Below.refl _ _, Below.refl _ _⟩
      case round =>
        obtain ⟨k, z, hk, rfl, rfl, hz, _, hB⟩ := hrel
        obtain ⟨wo, hwo⟩ : ∃ wo, wo = wr := ⟨_, rfl⟩
        subst hwo
        have HZ := hid hz
        have hzb : -1114111 ≤ z ∧ z ≤ 1114111 + 67108864 * 4 := by
          have h9 := sumV_bd (l := tp.take k) (fun p hp => HPB.out p (List.mem_of_mem_take hp)) (fun q => win.getD q.toNat 0)
          have h8 := List.length_take_le k tp
          have h7 : ((tp.take k).length : Int) ≤ 4 := by omega
          omega
        obtain ⟨hzb1, hzb2⟩ := hzb
        have hszo := hB.size
        by_cases hlt2 : k < tp.length
        · have hlt2' : (k : Int) < tp.length := by omega
          obtain ⟨p, hpk⟩ := at_lt hlt2
          obtain ⟨b1, o1, rfl, hb1, c0, c1, c2, c3, hok⟩ := part_at HP.out hpk
          have hpm := List.mem_of_getElem? hpk
          have hpr := HPR.out p hpm
          obtain ⟨a1, a2, a3⟩ := rightP_iff.1 hpr
          obtain ⟨n, hna⟩ : ∃ n : Nat, p.at_ = n := ⟨p.at_.toNat, by omega⟩
          have hnl : n < win.length := by omega
          obtain ⟨x, hx⟩ := at_lt hnl
          obtain ⟨wb, wf, rfl, hwb, hcx, hx32⟩ := rune_at HU.out hx
          obtain ⟨e1, e2⟩ := HW.out x (List.mem_of_getElem? hx)
          have hv0 := valF_nonneg p x
          have hv1 := valF_le a3 x
          have HN : Hid (ts + sumV (tp.take (k + 1)) (fun q => win.getD q.toNat 0) = z + valF p x) := hid (by
            rw [List.take_add_one, hpk, Option.toList_some, sumV_snoc, hna, HZ.out]
            have hgx : win.getD (n : Int).toNat 0 = x := by rw [List.getD_eq_getElem?_getD, Int.toNat_natCast, hx]; rfl
            rw [hgx]
            omega)
          have HRx := hid fun W => HR.out p hpr W
          have HVx := hid fun W => HV.out p x W a3 e1 e2
          obtain ⟨g, hg⟩ : ∃ g, g = valF p x := ⟨_, rfl⟩
          rw [← hg] at hv0 hv1 HN HVx
          have hnl' : (n : Int) < win.length := by omega
          obtain ⟨pa, pd, pk, pu⟩ := p
          dsimp only at hna
          subst hna
          unfold pval at HRx HVx
          dsimp only at HRx HVx c0 c1 c2 c3
          have hbl : b1 < w1.heap.size := by omega
          have hwbl : wb < w1.heap.size := by have : wb < w.heap.size := hwb; omega
          replace c0 := (hB.cell (p := ⟨b1, o1 + k * 4, none⟩) hbl).trans c0
          replace c1 := (hB.cell (p := ⟨b1, o1 + k * 4 + 1, none⟩) hbl).trans c1
          replace c2 := (hB.cell (p := ⟨b1, o1 + k * 4 + 2, none⟩) hbl).trans c2
          replace c3 := (hB.cell (p := ⟨b1, o1 + k * 4 + 3, none⟩) hbl).trans c3
          replace hcx := (hB.cell (p := ⟨wb, wf + n, none⟩) hwbl).trans hcx
          have HBo := hid hB
          clear hz hg hpk hpm hpr a1 a2 a3 hx hok hx32 hb1 hwb hlt2 hB hnl
          go_wp2_with fail
          refine (HRx.out _).mono ?_
          rintro e w5 ⟨rfl, hB5⟩
          have hP5 := (hB5.block wo.heap.size (by simp)).trans (heap_alloc_new wo (.cells #[.int .i64 (n : Int), .int .i64 pd, .int .i64 pk, .int .i64 pu] 102))
          obtain ⟨y0, y1, y2, y3⟩ := four9W hP5
          have hB5o : Below wo.heap.size wo w5 := ((Below.refl _ wo).alloc (Nat.le_refl _) (.cells #[.int .i64 (n : Int), .int .i64 pd, .int .i64 pk, .int .i64 pu] 102)).trans (hB5.mono (by simp))
          replace hcx := (hB5o.cell (p := ⟨wb, wf + n, none⟩) (by exact Nat.lt_of_lt_of_le hwbl hszo)).trans hcx
          have HQ : Hid (∀ q, (q = wo.heap.size ∨ q = wb) → q < w5.heap.size) := hid fun q hq => hq.elim (fun h => h ▸ heapLtW hP5) (fun h => by have := hB5o.size; omega)
          clear c0 c1 c2 c3 hB5 hP5
          go_wp2_with fail
          obtain ⟨ι, Wc, ⟨i0, hi0'⟩, hWc, Wsur⟩ := held_class w5.drew (fun q => q = wo.heap.size ∨ q = wb)
          have hne : Nonempty ι := ⟨i0⟩
          have WS := hid Wsur; clear Wsur
          have HWc := hid hWc; clear hWc
          have Hi0 := hid hi0'; clear hi0'
          have q0 : ∀ i, (Wc i).cell? ⟨wo.heap.size, 0, none⟩ = some (.int .i64 (n : Int)) := fun i => (World.cell?_of_block (a := ⟨wo.heap.size, 0, none⟩) (HWc.out i _ (.inl rfl))).trans y0
          have q1 : ∀ i, (Wc i).cell? ⟨wo.heap.size, 1, none⟩ = some (.int .i64 pd) := fun i => (World.cell?_of_block (a := ⟨wo.heap.size, 1, none⟩) (HWc.out i _ (.inl rfl))).trans y1
          have q2 : ∀ i, (Wc i).cell? ⟨wo.heap.size, 2, none⟩ = some (.int .i64 pk) := fun i => (World.cell?_of_block (a := ⟨wo.heap.size, 2, none⟩) (HWc.out i _ (.inl rfl))).trans y2
          have q3 : ∀ i, (Wc i).cell? ⟨wo.heap.size, 3, none⟩ = some (.int .i64 pu) := fun i => (World.cell?_of_block (a := ⟨wo.heap.size, 3, none⟩) (HWc.out i _ (.inl rfl))).trans y3
          have q4 : ∀ i, (Wc i).cell? ⟨wb, wf + n, none⟩ = some (.int .i32 x) := fun i => (World.cell?_of_block (a := ⟨wb, wf + n, none⟩) (HWc.out i _ (.inr rfl))).trans hcx
          refine region_anyL (S := fun w' => ∃ i, w' = Wc i) (last := 13) (by kernel_rfl) ?_
          refine anyL_seg 0 7 (by kernel_rfl) (fun _ _ _ _ _ h => h) ⟨i0, Hi0.out.symm⟩ (f := 6) rfl (by kernel_rfl) (by kernel_rfl) ?_
          simp only [List.drop_zero, List.take_succ_cons, List.take_zero]
          repeat go_big_quiet_step (fail)
          refine wpQuiet_nil ?_
          refine anyL_act (i := 7) (by kernel_rfl) rfl rfl ?_
          intro K hK
          go_wp2_with fail
          refine (HVx.out w5.drew).mono ?_
          rintro e w6 ⟨rfl, hB6⟩
          have hB6w : Below w5.heap.size w5 w6 := ⟨hB6.os, hB6.tape, hB6.output, hB6.size, hB6.block⟩
          have hS6 : ∃ i, w6 = Wc i := WS.out _ (fun q hq => hB6w.block q (HQ.out q hq))
          go_wp2_with fail
          refine hK.out _ _ (fun _ => hS6) ?_
          clear hK K
          refine anyL_seg 8 5 (by kernel_rfl) (fun _ _ _ _ _ h => h) hS6 (f := 0) rfl (by kernel_rfl) (by kernel_rfl) ?_
          simp only [List.drop_succ_cons, List.drop_zero, List.take_succ_cons, List.take_zero]
          repeat go_big_quiet_step (fail)
          refine wpQuiet_nil ?_
          refine anyL_done (by kernel_rfl) ?_ 0
          clear q0 q1 q2 q3 q4 hS6 WS HWc Hi0 hne i0 Wc ι
          have hz5 := hB5o.size
          have HB6 := hid ((HBo.out.trans (hB5o.mono hszo)).trans (hB6w.mono (Nat.le_trans hszo hz5)))
          clear hB6 hB6w hB5o hcx y0 y1 y2 y3
          go_wp2_with fail
          refine ⟨⟨k + 1, z + g, by omega, by go_num, rfl, HN.out.symm, Below.refl _ _, HB6.out⟩, ?_⟩
          simp [intOf]; omega
        · obtain rfl : k = tp.length := by omega
          have hzI : z = I := by rw [HZ.out, List.take_length, HI.out]
          subst hzI
          obtain ⟨hi0, hi1⟩ := hi
          have hi2 : ¬ 1114111 < z := by omega
          have hXo := (hB.block w.heap.size hsz1).trans HX1.out
          have hlo := heapLtW hXo
          obtain ⟨y0, y1, y2, y3, y4, y5⟩ := six9W hXo
          have HXo := hid hXo
          have HBo := hid hB
          clear hz hlt2 hXo hB
          go_wp2_with fail
          refine (HO.out _).mono ?_
          rintro e w5 ⟨rfl, hB5⟩
          have h5s := hB5.size
          have HX5 := hid ((hB5.block w.heap.size (by omega)).trans HXo.out)
          have HB5 := hid (HBo.out.trans (hB5.mono hszo))
          clear hB5 y0 y1 y2 y3 y4 y5
          go_wp2_with fail
          refine (HVo.out _).mono ?_
          rintro e w6 ⟨rfl, hB6⟩
          have hX6 := (hB6.block w.heap.size (by omega)).trans HX5.out
          have hl6 := heapLtW hX6
          obtain ⟨y0, y1, y2, y3, y4, y5⟩ := six9W hX6
          have HB6 := hid (HB1.out.trans ((HB5.out.trans (hB6.mono (Nat.le_trans hszo h5s))).mono (Nat.le_of_lt hsz1)))
          clear hB6 hX6
          go_wp2_with fail
          go_ret2
          exact ⟨rfl, HB6.out⟩
end Go.Proofs.YtmkmikacfilbpaaGreat
