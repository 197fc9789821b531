/-
  The reference's Fits.
-/
import Derived.Test.YtflllgbjlfpgcaaKRinnB
import Derived.Test.YtflllgbjlfpgcaaKRguard
import Derived.Test.YtflllgbjlfpgcaaKMakeX
namespace Go.Proofs.Ytflllgbjlfpgcaa
open Go.RowKit Go.Um Go.Proofs
theorem pw_le21 {n : Int} (h : n ≤ 21) : pw n ≤ 2097152 := pw_mono (m := 21) h
def OutI (wo wr : World) (t : Term) (fr to : Int) (rest T : Bool) (q : Int) : Prop := (outGo t.base (pw t.take) (pw t.up) fr to (to - q + 1).toNat q && rest) = T ∧ fr ≤ q ∧ q ≤ to + 1 ∧ Below wo.heap.size wo wr
set_option maxHeartbeats 6000000 in
set_option maxRecDepth 100000 in
theorem RFits_calls (t : Term) (inn out : Int) (gs : List (List Span)) (v u : Value) (w : World) (hp : (listR partR).rel w (upto w.heap.size) [v] t.parts) (hs : (listR spansR).rel w (upto w.heap.size) [u] gs)
    (hg : goodG gs) (hgl : ∀ g ∈ gs, g.length ≤ 90000) (hby : inn = 1 → ∀ g ∈ gs, ∀ z, mem g z → z ≤ 255) :
    Calls Try.prog 37 #[tval t v, .int .i64 inn, .int .i64 out, u] w fun e w' => e = .returned (.bool (fitsF t inn out gs)) ∧ Below w.heap.size w w' := by
  have HRI := hid fun W (hW : Below w.heap.size w W) => RRight04_calls t inn out gs.length v W ((listR partR).below hp hW hW.size)
  obtain ⟨A, c, rfl, hc, hm⟩ := list_form hp
  obtain ⟨A2, c2, rfl, hc2, hm2⟩ := list_form hs
  unfold maxLen at hm hm2
  have hX0 : (w.alloc (.cells #[.int .i64 t.base, .int .i64 t.drop, .int .i64 t.take, .int .i64 t.up, .int .i64 t.sum, .slice A t.parts.length c] 60)).heap[w.heap.size]? = some (.cells #[.int .i64 t.base, .int .i64 t.drop, .int .i64 t.take, .int .i64 t.up, .int .i64 t.sum, .slice A t.parts.length c] 60) := heap_alloc_new _ _
  have hB0 : Below w.heap.size w (w.alloc (.cells #[.int .i64 t.base, .int .i64 t.drop, .int .i64 t.take, .int .i64 t.up, .int .i64 t.sum, .slice A t.parts.length c] 60)) := (Below.refl _ w).alloc (Nat.le_refl _) _
  cases kr : rightF t inn out gs.length with
  | false =>
    have hF : Hid (fitsF t inn out gs = false) := hid (by unfold fitsF; rw [kr]; rfl)
    rw [kr] at HRI
    unfold tval at HRI ⊢
    clear kr hX0
    go_enter Try.func37, Try.ntmps37
    go_wp2_with fail
    refine (HRI.out _ hB0).mono ?_
    rintro e w1 ⟨rfl, hB1⟩
    go_wp2_with fail
    go_ret
    exact ⟨by rw [hF.out]; rfl, hB0.trans (hB1.mono (by simp))⟩
  | true =>
    rw [kr] at HRI
    obtain ⟨hi, ho, hn, _, _, _⟩ := rightF_iff.1 kr
    have hbt : bitsF (outerT t) = true := (numbersF_iff.1 hn).2.2.1
    have hbi : 0 ≤ t.drop ∧ t.drop ≤ 20 ∧ 1 ≤ t.take ∧ t.take ≤ 21 ∧ 0 ≤ t.up ∧ t.up ≤ 20 ∧ (t.up = 0 ∨ t.take ≤ 6) := bitsF_iff.1 hbt
    obtain ⟨hb1, hb2, hb3, hb4, hb5, hb6, _⟩ := hbi
    have hbs := smallN_iff.1 (numbersF_iff.1 hn).1
    have HBT := hid hbt
    have HIN := hid fun W (hW : Below w.heap.size w W) => RInner_calls t inn out gs _ _ W ((listR partR).below hp hW hW.size) ((listR spansR).below hs hW hW.size) kr hg hgl hby
    have HEQ := hid fun (l : List Span) (ok : Bool) (h : InnerR t gs l ok) => fitsR_eq (inn := inn) (out := out) kr hg h
    unfold tval at HRI HIN ⊢
    clear kr hn hbt
    go_enter Try.func37, Try.ntmps37
    go_wp2_with fail
    refine (HRI.out _ hB0).mono ?_
    rintro e w1 ⟨rfl, hB1⟩
    have hX1 := (hB1.block _ (by simp)).trans hX0
    have hB1w : Below w.heap.size w w1 := hB0.trans (hB1.mono (by simp))
    obtain ⟨x1, x2, x3, x4, x5, x6⟩ := six'' hX1
    have hX1l := heap_lt hX1
    clear hB1 hX0 hB0 HRI
    go_wp2_with fail
    refine (HIN.out _ hB1w).mono ?_
    rintro e w2 ⟨u2, l, ok, rfl, hIR, hou, ⟨A5, n5, c5, rfl⟩, hB2⟩
    have hX2 := (hB2.block _ hX1l).trans hX1
    have hB2w := hB1w.trans (hB2.mono hB1w.size)
    have hX2l := heap_lt hX2
    have HF := hid (HEQ.out l ok hIR)
    clear HIN HEQ x1 x2 x3 x4 x5 x6
    cases ok with
    | false =>
      have hF : Hid (fitsF t inn out gs = false) := hid (by rw [HF.out]; rfl)
      clear hou hIR HF
      go_wp2_with fail
      go_ret
      exact ⟨by rw [hF.out]; rfl, hB2w⟩
    | true =>
      obtain ⟨hO, hll⟩ := hou rfl
      have hnl := (hIR.2 rfl).1
      have hall : ∀ z, mem l z → 0 ≤ z ∧ z ≤ 1114111 := fun z hz => hIR.1.1 rfl z (((hIR.2 rfl).2 z).1 hz)
      have hrel := hO.rel
      obtain ⟨A6, c6, hv6, hc6, hm6⟩ := list_form hrel
      cases hv6
      unfold maxLen at hm6
      clear hou hIR hO
      rcases ho with rfl | rfl
      · have hF : Hid (fitsF t inn 1 gs = outAll t l) := hid (by rw [HF.out]; rfl)
        obtain ⟨T, hT⟩ : ∃ T, T = outAll t l := ⟨_, rfl⟩
        rw [← hT] at hF
        have HT : Hid (l.all (outSpan t) = T) := hid hT.symm
        obtain ⟨x1, x2, x3, x4, x5, x6⟩ := six'' hX2
        have HALL := hid hall
        have HNL := hid hnl
        clear HF hT hall hnl hX1
        go_wp2_with fail
        obtain ⟨ι, W, ⟨i0, hi0⟩, hW, Wsur⟩ := ext_class w2.drew
        have hne : Nonempty ι := ⟨i0⟩
        have HW := hid hW; clear hW
        have Hi0 := hid hi0; clear hi0
        have g1 : ∀ i, (W i).cell? ⟨w.heap.size, 1, none⟩ = some (.int .i64 t.drop) := fun i => ((HW.out i).cell (p := ⟨w.heap.size, 1, none⟩) hX2l).trans x2
        have g2 : ∀ i, (W i).cell? ⟨w.heap.size, 2, none⟩ = some (.int .i64 t.take) := fun i => ((HW.out i).cell (p := ⟨w.heap.size, 2, none⟩) hX2l).trans x3
        have g3 : ∀ i, (W i).cell? ⟨w.heap.size, 3, none⟩ = some (.int .i64 t.up) := fun i => ((HW.out i).cell (p := ⟨w.heap.size, 3, none⟩) hX2l).trans x4
        refine region_anyL (S := fun w' => ∃ i, w' = W i) (last := 12) (by kernel_rfl) ?_
        refine anyL_seg 0 2 (by kernel_rfl) (fun _ _ _ _ _ h => h) ⟨i0, Hi0.out.symm⟩ (f := 10) rfl (by kernel_rfl) (by kernel_rfl) ?_
        simp only [List.drop_zero, List.take_succ_cons, List.take_zero]
        repeat go_big_quiet_step (fail)
        refine wpQuiet_nil ?_
        refine anyL_seg 3 2 (by kernel_rfl) (fun _ _ _ _ _ h => h) ⟨i0, Hi0.out.symm⟩ (f := 8) rfl (by kernel_rfl) (by kernel_rfl) ?_
        simp only [List.drop_succ_cons, List.drop_zero, List.take_succ_cons, List.take_zero]
        repeat go_big_quiet_step (fail)
        refine wpQuiet_nil ?_
        refine anyL_seg 6 2 (by kernel_rfl) (fun _ _ _ _ _ h => h) ⟨i0, Hi0.out.symm⟩ (f := 6) rfl (by kernel_rfl) (by kernel_rfl) ?_
        simp only [List.drop_succ_cons, List.drop_zero, List.take_succ_cons, List.take_zero]
        repeat go_big_quiet_step (fail)
        refine wpQuiet_nil ?_
        refine anyL_act (i := 2) (by kernel_rfl) rfl rfl ?_
        intro K hK
        go_wp2_with fail
        refine (RTwo_calls t.drop (by omega) _).mono ?_
        rintro e w7 ⟨rfl, rfl⟩
        go_wp2_with fail
        refine hK.out _ _ (fun _ => ⟨i0, Hi0.out.symm⟩) ?_
        clear hK K
        refine anyL_act (i := 5) (by kernel_rfl) rfl rfl ?_
        intro K hK
        go_wp2_with fail
        refine (RTwo_calls t.take (by omega) _).mono ?_
        rintro e w7 ⟨rfl, rfl⟩
        go_wp2_with fail
        refine hK.out _ _ (fun _ => ⟨i0, Hi0.out.symm⟩) ?_
        clear hK K
        refine anyL_act (i := 8) (by kernel_rfl) rfl rfl ?_
        intro K hK
        go_wp2_with fail
        refine (RTwo_calls t.up (by omega) _).mono ?_
        rintro e w7 ⟨rfl, rfl⟩
        go_wp2_with fail
        refine hK.out _ _ (fun _ => ⟨i0, Hi0.out.symm⟩) ?_
        clear hK K
        refine anyL_seg 9 3 (by kernel_rfl) (fun _ _ _ _ _ h => h) ⟨i0, Hi0.out.symm⟩ (f := 0) rfl (by kernel_rfl) (by kernel_rfl) ?_
        simp only [List.drop_succ_cons, List.drop_zero, List.take_succ_cons, List.take_zero]
        repeat go_big_quiet_step (fail)
        refine wpQuiet_nil ?_
        refine anyL_done (by kernel_rfl) ?_ 0
        clear g1 g2 g3 HW Hi0 hne i0 W ι Wsur
        have y1 : (w2.drew).cell? ⟨w.heap.size, 0, none⟩ = some (.int .i64 t.base) := x1
        have hrel2 : spansR.rel w2.drew (upto w2.drew.heap.size) [.slice A5 l.length c5] l := hrel
        have hB2d := hB2w.drew
        have hX2d : w.heap.size < w2.drew.heap.size := hX2l
        clear x1 x2 x3 x4 x5 x6 hX2 hrel hB2w hX2l hB2
        generalize w2.drew = w3 at *
        have hd0 := pw_pos t.drop
        have ht0 := pw_pos t.take
        have hu0 := pw_pos t.up
        have hdt := pw_le21 (n := t.drop) (by omega)
        have htt := pw_le21 (n := t.take) (by omega)
        have hut := pw_le21 (n := t.up) (by omega)
        have hdn : pw t.drop ≠ 0 := by omega
        have htn : pw t.take ≠ 0 := by omega
        have HMB := hid (fun q => out_bd HBT.out q)
        go_wp2_with fail
        go_loopw [14] (fun vi wr => ∃ i : Nat, i ≤ l.length ∧ vi = .int .i64 i ∧ (l.drop i).all (outSpan t) = T ∧ Below w3.heap.size w3 wr) (fun vi _ => l.length - (intOf vi).toNat)
        case atStart => exact ⟨0, Nat.zero_le _, rfl, HT.out, Below.refl _ _⟩
        case round =>
          clear HT
          obtain ⟨i, hi9, rfl, hst, hBo⟩ := hrel
          obtain ⟨wo, hwo⟩ : ∃ wo, wo = wr := ⟨_, rfl⟩
          subst hwo
          have HBO := hid hBo
          have hso := hBo.size
          have z1 := (hBo.cell (p := ⟨w.heap.size, 0, none⟩) hX2d).trans y1
          by_cases hlt : i < l.length
          · obtain ⟨s, hs⟩ := at_lt hlt
            have hlt' : (i : Int) < l.length := by omega
            obtain ⟨bb, oo, rfl, hbb, r1, r2, _, _⟩ := span_at hrel2 hs
            have hsm := List.mem_of_getElem? hs
            have hsl := HNL.out s hsm
            have hlo := HALL.out s.lo ⟨s, hsm, Int.le_refl _, hsl⟩
            have hhi := HALL.out s.hi ⟨s, hsm, hsl, Int.le_refl _⟩
            have c1 := (hBo.cell (p := ⟨bb, oo + i * 2, none⟩) hbb).trans r1
            have c2 := (hBo.cell (p := ⟨bb, oo + i * 2 + 1, none⟩) hbb).trans r2
            have hST : Hid ((outSpan t s && (l.drop (i + 1)).all (outSpan t)) = T) := hid (by rw [drop_cons hs] at hst; exact hst)
            obtain ⟨fr, hfr⟩ : ∃ fr, fr = s.lo / pw t.drop := ⟨_, rfl⟩
            obtain ⟨to, hto⟩ : ∃ to, to = s.hi / pw t.drop := ⟨_, rfl⟩
            have hft : fr ≤ to := by rw [hfr, hto]; exact Int.ediv_le_ediv hd0 hsl
            have hfr0 : 0 ≤ fr := by rw [hfr]; exact Int.ediv_nonneg hlo.1 (by omega)
            have hto1 : to ≤ 1114111 := by rw [hto]; exact Int.le_trans (Int.ediv_le_self _ hhi.1) hhi.2
            have hrest : Hid ((outGo t.base (pw t.take) (pw t.up) fr to (to - fr + 1).toNat fr && (l.drop (i + 1)).all (outSpan t)) = T) := hid (by rw [hfr, hto]; exact hST.out)
            obtain ⟨R, hR⟩ : ∃ R, R = (l.drop (i + 1)).all (outSpan t) := ⟨_, rfl⟩
            rw [← hR] at hrest
            have HR := hid hR
            have HFR := hid hfr
            have HTO := hid hto
            clear hst hBo hs hsm r1 r2 hST hR hlt hsl
            go_wp2_with fail
            go_quiet (fail)
            rw [← HFR.out, ← HTO.out]
            have z1e : (wo.drewN nq).cell? ⟨w.heap.size, 0, none⟩ = some (.int .i64 t.base) := z1
            have hse : w3.heap.size ≤ (wo.drewN nq).heap.size := hso
            have HBE := hid (below_drewN HBO.out nq)
            clear z1 c1 c2 hso HBO hfr hto HFR HTO
            generalize wo.drewN nq = we at *
            go_wp2_with fail
            go_loopw [17] (fun vq wr => ∃ q : Int, vq = .int .i64 q ∧ OutI we wr t fr to R T q) (fun vq _ => (to - intOf vq + 1).toNat)
            case atStart => exact ⟨fr, rfl, hrest.out, Int.le_refl _, by omega, Below.refl _ _⟩
            case round =>
              clear hrest
              obtain ⟨q, rfl, hgo, hq1, hq2, hBq⟩ := hrel
              obtain ⟨wq, hwq⟩ : ∃ wq, wq = wr := ⟨_, rfl⟩
              subst hwq
              have HBQ := hid hBq
              have hX3l : w.heap.size < we.heap.size := by omega
              have z2 := (hBq.cell (p := ⟨w.heap.size, 0, none⟩) hX3l).trans z1e
              by_cases hqt : q ≤ to
              · obtain ⟨f, hf⟩ : ∃ f : Nat, (to - q + 1).toNat = f + 1 := ⟨(to - q).toNat, by omega⟩
                have hf2 : (to - (q + 1) + 1).toNat = f := by omega
                have HGO : Hid ((if 300 < q - fr ∧ 300 < pw t.take then (if 700 < q - fr then false else (if outOk t.base (pw t.take) (pw t.up) q = true then outGo t.base (pw t.take) (pw t.up) fr to f (q + 1) else false)) else if pw t.take < q - fr then true else (if outOk t.base (pw t.take) (pw t.up) q = true then outGo t.base (pw t.take) (pw t.up) fr to f (q + 1) else false)) = true ∧ R = true ↔ T = true) := hid (by
                  rw [hf, outGo_step, if_neg (by omega)] at hgo
                  rw [← hgo, Bool.and_eq_true])
                obtain ⟨hm0, hm1⟩ := HMB.out q
                clear hgo hBq hf
                by_cases d1 : 300 < q - fr
                · by_cases d2 : 300 < pw t.take
                  · by_cases d3 : 700 < q - fr
                    · have hG : Hid (false = T) := hid (by
                        cases hT9 : T with
                        | false => rfl
                        | true => have := HGO.out.2 hT9; rw [if_pos ⟨d1, d2⟩, if_pos d3] at this; simp at this)
                      clear HGO
                      go_wp2_with fail
                      go_ret
                      exact ⟨by rw [hF.out, ← hG.out]; rfl, (hB2d.trans (HBE.out.mono hB2d.size)).trans (HBQ.out.mono (Nat.le_trans hB2d.size hse))⟩
                    · by_cases v0 : t.base + q % pw t.take * pw t.up < 0
                      · have hG : Hid (false = T) := hid (by
                          have h1 : outOk t.base (pw t.take) (pw t.up) q = false := by unfold outOk; rw [decide_eq_false (by omega)]
                          cases hT9 : T with
                          | false => rfl
                          | true => have := HGO.out.2 hT9; rw [if_pos ⟨d1, d2⟩, if_neg d3] at this; rw [h1] at this; simp at this)
                        clear HGO
                        go_wp2_with fail
                        go_quiet (fail)
                        go_wp2_with fail
                        go_ret
                        exact ⟨by rw [hF.out, ← hG.out]; rfl, (hB2d.trans (HBE.out.mono hB2d.size)).trans ((below_drewN HBQ.out _).mono (Nat.le_trans hB2d.size hse))⟩
                      · by_cases v1 : 255 < t.base + q % pw t.take * pw t.up
                        · have hG : Hid (false = T) := hid (by
                            have h1 : outOk t.base (pw t.take) (pw t.up) q = false := by unfold outOk; rw [decide_eq_false (by omega)]
                            cases hT9 : T with
                            | false => rfl
                            | true => have := HGO.out.2 hT9; rw [if_pos ⟨d1, d2⟩, if_neg d3] at this; rw [h1] at this; simp at this)
                          clear HGO
                          go_wp2_with fail
                          go_quiet (fail)
                          go_wp2_with fail
                          go_ret
                          exact ⟨by rw [hF.out, ← hG.out]; rfl, (hB2d.trans (HBE.out.mono hB2d.size)).trans ((below_drewN HBQ.out _).mono (Nat.le_trans hB2d.size hse))⟩
                        · have hG : Hid ((outGo t.base (pw t.take) (pw t.up) fr to f (q + 1) && R) = T) := hid (by
                            have h1 : outOk t.base (pw t.take) (pw t.up) q = true := by unfold outOk; rw [decide_eq_true (by omega)]
                            have := HGO.out
                            rw [if_pos ⟨d1, d2⟩, if_neg d3] at this
                            rw [if_pos h1] at this
                            rw [Bool.eq_iff_iff, Bool.and_eq_true]
                            exact this)
                          clear HGO
                          go_wp2_with fail
                          go_quiet (fail)
                          have HBQ2 := hid (below_drewN HBQ.out nq)
                          clear HBQ z2
                          generalize wq.drewN nq = wz at *
                          go_wp2_with fail
                          have HE : Hid (∃ q' : Int, Value.int .i64 (q + 1) = .int .i64 q' ∧ OutI we wz t fr to R T q') := hid ⟨q + 1, rfl, by rw [hf2]; exact hG.out, by omega, by omega, HBQ2.out⟩
                          first
                            | (refine ⟨HE.out, ?_⟩; simp [intOf]; omega)
                            | (go_simp; refine ⟨by simpa using HE.out, ?_⟩; simp [intOf]; omega)
                  · by_cases d4 : pw t.take < q - fr
                    · have hTR : Hid (R = T) := hid (by
                        have := HGO.out
                        rw [if_neg (fun h => d2 h.2), if_pos d4] at this
                        rw [Bool.eq_iff_iff]
                        simpa using this)
                      have HE : Hid (∃ j' : Nat, j' ≤ l.length ∧ Value.int .i64 ((i : Int) + 1) = .int .i64 j' ∧ (l.drop j').all (outSpan t) = T ∧ Below w3.heap.size w3 wq) := hid ⟨i + 1, by omega, by push_cast; rfl, by rw [← HR.out]; exact hTR.out, HBE.out.trans (HBQ.out.mono hse)⟩
                      clear HGO
                      go_wp2_with fail
                      first
                        | (refine ⟨HE.out, ?_⟩; simp [intOf]; omega)
                        | (go_simp; refine ⟨by simpa using HE.out, ?_⟩; simp [intOf]; omega)
                    · exact absurd (show (300 : Int) < 300 by omega) (by decide)
                · by_cases d4 : pw t.take < q - fr
                  · have hTR : Hid (R = T) := hid (by
                      have := HGO.out
                      rw [if_neg (fun h => d1 h.1), if_pos d4] at this
                      rw [Bool.eq_iff_iff]
                      simpa using this)
                    have HE : Hid (∃ j' : Nat, j' ≤ l.length ∧ Value.int .i64 ((i : Int) + 1) = .int .i64 j' ∧ (l.drop j').all (outSpan t) = T ∧ Below w3.heap.size w3 wq) := hid ⟨i + 1, by omega, by push_cast; rfl, by rw [← HR.out]; exact hTR.out, HBE.out.trans (HBQ.out.mono hse)⟩
                    clear HGO
                    go_wp2_with fail
                    first
                      | (refine ⟨HE.out, ?_⟩; simp [intOf]; omega)
                      | (go_simp; refine ⟨by simpa using HE.out, ?_⟩; simp [intOf]; omega)
                  · by_cases v0 : t.base + q % pw t.take * pw t.up < 0
                    · have hG : Hid (false = T) := hid (by
                        have h1 : outOk t.base (pw t.take) (pw t.up) q = false := by unfold outOk; rw [decide_eq_false (by omega)]
                        cases hT9 : T with
                        | false => rfl
                        | true => have := HGO.out.2 hT9; rw [if_neg (fun h => d1 h.1), if_neg d4] at this; rw [h1] at this; simp at this)
                      clear HGO
                      go_wp2_with fail
                      go_quiet (fail)
                      go_wp2_with fail
                      go_ret
                      exact ⟨by rw [hF.out, ← hG.out]; rfl, (hB2d.trans (HBE.out.mono hB2d.size)).trans ((below_drewN HBQ.out _).mono (Nat.le_trans hB2d.size hse))⟩
                    · by_cases v1 : 255 < t.base + q % pw t.take * pw t.up
                      · have hG : Hid (false = T) := hid (by
                          have h1 : outOk t.base (pw t.take) (pw t.up) q = false := by unfold outOk; rw [decide_eq_false (by omega)]
                          cases hT9 : T with
                          | false => rfl
                          | true => have := HGO.out.2 hT9; rw [if_neg (fun h => d1 h.1), if_neg d4] at this; rw [h1] at this; simp at this)
                        clear HGO
                        go_wp2_with fail
                        go_quiet (fail)
                        go_wp2_with fail
                        go_ret
                        exact ⟨by rw [hF.out, ← hG.out]; rfl, (hB2d.trans (HBE.out.mono hB2d.size)).trans ((below_drewN HBQ.out _).mono (Nat.le_trans hB2d.size hse))⟩
                      · have hG : Hid ((outGo t.base (pw t.take) (pw t.up) fr to f (q + 1) && R) = T) := hid (by
                          have h1 : outOk t.base (pw t.take) (pw t.up) q = true := by unfold outOk; rw [decide_eq_true (by omega)]
                          have := HGO.out
                          rw [if_neg (fun h => d1 h.1), if_neg d4] at this
                          rw [if_pos h1] at this
                          rw [Bool.eq_iff_iff, Bool.and_eq_true]
                          exact this)
                        clear HGO
                        go_wp2_with fail
                        go_quiet (fail)
                        have HBQ2 := hid (below_drewN HBQ.out nq)
                        clear HBQ z2
                        generalize wq.drewN nq = wz at *
                        go_wp2_with fail
                        have HE : Hid (∃ q' : Int, Value.int .i64 (q + 1) = .int .i64 q' ∧ OutI we wz t fr to R T q') := hid ⟨q + 1, rfl, by rw [hf2]; exact hG.out, by omega, by omega, HBQ2.out⟩
                        first
                          | (refine ⟨HE.out, ?_⟩; simp [intOf]; omega)
                          | (go_simp; refine ⟨by simpa using HE.out, ?_⟩; simp [intOf]; omega)
              · have hTR : Hid (R = T) := hid (by
                  rw [show (to - q + 1).toNat = 0 by omega] at hgo
                  exact hgo)
                have HE : Hid (∃ j' : Nat, j' ≤ l.length ∧ Value.int .i64 ((i : Int) + 1) = .int .i64 j' ∧ (l.drop j').all (outSpan t) = T ∧ Below w3.heap.size w3 wq) := hid ⟨i + 1, by omega, by push_cast; rfl, by rw [← HR.out]; exact hTR.out, HBE.out.trans (hBq.mono hse)⟩
                clear hgo hBq
                go_wp2_with fail
                first
                  | (refine ⟨HE.out, ?_⟩; simp [intOf]; omega)
                  | (go_simp; refine ⟨by simpa using HE.out, ?_⟩; simp [intOf]; omega)
          · obtain rfl : i = l.length := by omega
            have hTR : Hid (true = T) := hid (by rw [← hst, List.drop_length]; rfl)
            clear hst
            go_wp2_with fail
            go_ret
            exact ⟨by rw [hF.out, ← hTR.out]; rfl, hB2d.trans (hBo.mono hB2d.size)⟩
      · have HF2 : Hid (fitsF t inn 2 gs = (minusF l (domF 2)).isEmpty) := hid (by rw [HF.out]; rfl)
        clear HF hall hnl hX1 hX2
        go_wp2_with fail
        refine (RDomain_calls 2 _).mono ?_
        rintro e w4 ⟨u4, rfl, ho4, hB4⟩
        have hdl := domF_length 2
        have hM := RMake2_calls 2 rfl l (domF 2) _ _ w4 (spansR.below hrel hB4 hB4.size) ho4.rel (by omega)
        rw [gOf_two, refMake_less] at hM
        have HM := hid hM
        obtain ⟨A8, c8, rfl, hc8, hm8⟩ := list_form ho4.rel
        clear hM
        go_wp2_with fail
        refine HM.out.mono ?_
        rintro e w5 ⟨u5, rfl, ho5, hB5⟩
        obtain ⟨A9, c9, rfl, hc9, hm9⟩ := list_form ho5.rel
        unfold maxLen at hm9
        have hBw5 := (hB2w.trans (hB4.mono hB2w.size)).trans (hB5.mono (Nat.le_trans hB2w.size hB4.size))
        clear HM ho5 ho4
        go_wp2_with fail
        go_ret
        refine ⟨?_, hBw5⟩
        rw [HF2.out]
        cases minusF l (domF 2) with
        | nil => rfl
        | cons a r =>
          have : ((((a :: r : List Span).length : Nat) : Int) == 0) = false := by rw [beq_eq_false_iff_ne]; simp; omega
          simp
          omega
end Go.Proofs.Ytflllgbjlfpgcaa
