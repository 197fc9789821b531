/-
  What stands at a place, as the program finds it: a scalar, and some bytes: utf.Scan.
-/
import Derived.Test.YtmkmikacfilbpaaGreatRCbC
namespace Go.Proofs.YtmkmikacfilbpaaGreat
open Go.RowKit Go.Um Go.Proofs
theorem bytes_cut {w : World} {S : Nat → Prop} {G O cap at_ n : Nat} {b : List Int} (h : bytesR.rel w S [.slice (some ⟨G, O, none⟩) b.length cap] b) (hn : at_ + n ≤ b.length) : bytesR.rel w S [.slice (some ⟨G, O + at_, none⟩) n (cap - at_)] ((b.drop at_).take n) := by
  obtain ⟨A, m, cp, e, hm, hc, hx, h5⟩ := h
  injection e with e _
  injection e with e1 e2 e3
  subst e1 e2 e3
  refine ⟨_, n, cap - at_, rfl, by rw [List.length_take, List.length_drop]; omega, by omega, by unfold maxLen at hx ⊢; omega, ?_⟩
  rcases h5 with h5 | ⟨g, o, h5, h6, h7⟩
  · exact .inl (by omega)
  · injection h5 with h5
    injection h5 with q1 q2
    subst q1 q2
    refine .inr ⟨G, O + at_, rfl, h6, fun i x hx => ?_⟩
    have hi : i < n := by have := (List.getElem?_eq_some_iff.1 hx).1; rw [List.length_take] at this; omega
    rw [List.getElem?_take, if_pos hi, List.getElem?_drop] at hx
    obtain ⟨ds, k1, k2⟩ := h7 _ x hx
    refine ⟨ds, k1, fun j v hv => ?_⟩
    have := k2 j v hv
    rw [show O + at_ + i * byteR.width + j = O + (at_ + i) * byteR.width + j by show O + at_ + i * 1 + j = O + (at_ + i) * 1 + j; omega]
    exact this
/-- the reference's scalar at any one to four bytes. -/
theorem fitL_cut : ∀ (g : List (List Span)) (y : List Int), fitL g y = true → fitL g (y.take g.length) = true
  | [], _, _ => rfl
  | _ :: _, [], h => by simp [fitL] at h
  | g :: gs, z :: zs, h => by
    unfold fitL at h
    rw [Bool.and_eq_true] at h
    show (hasB g z && fitL gs (zs.take gs.length)) = true
    rw [h.1, fitL_cut gs zs h.2]
    rfl
set_option maxHeartbeats 2000000 in
set_option maxRecDepth 100000 in
theorem scan_calls (b : List Int) (at_ : Nat) (hat : at_ < b.length) (hl : b.length ≤ 1000000) (v : Value) (w : World) (h : bytesR.rel w (upto w.heap.size) [v] b) :
    Calls Tryz.prog 86 #[v, .int .i64 at_] w fun e w' => ∃ (z : Int) (n : Nat) (ok : Bool), e = .returned (.tuple #[.int .i32 z, .int .i64 n, .bool ok]) ∧ scalP z ∧ 1 ≤ n ∧ n ≤ 4 ∧ Below w.heap.size w w' := by
  obtain ⟨A, cp, rfl, hcp, hm⟩ := list_form h
  unfold maxLen at hm
  obtain ⟨x0, hx0⟩ := at_lt (show 0 < b.length by omega)
  obtain ⟨G, O, rfl, hG, _, _, _⟩ := byte_at h hx0
  have HRW := hid fun W => Rows_calls W
  have HHA := hid fun l x v W h => Has_calls l x v W h
  have HVA := hid value_any
  have hat' : (at_ : Int) < b.length := by omega
  obtain ⟨yl, hyl⟩ : ∃ yl, yl = b.length - at_ := ⟨_, rfl⟩
  have Hb := hid h
  have HYL := hid hyl
  have HSUB : Hid (∀ (n : Nat) W, Below w.heap.size w W → n ≤ yl → bytesR.rel W (upto W.heap.size) [.slice (some ⟨G, O + at_, none⟩) n (cp - at_)] ((b.drop at_).take n)) := hid fun n W hW hn => bytesR.below (bytes_cut h (by omega)) hW hW.size
  clear h hx0 hyl
  go_enter Tryz.func86, Tryz.ntmps86
  go_wp2_with fail
  rw [← HYL.out]
  refine (HRW.out _).mono ?_
  rintro e w1 ⟨u, rfl, hr, hB1⟩
  obtain ⟨Ar, cr, rfl, hcr, _⟩ := list_form hr
  have HR := hid hr
  have HB1 := hid hB1
  clear hr hB1
  have hrl : rowsP.length = 9 := rfl
  rw [hrl] at HR hcr ⊢
  go_wp2_with fail
  have hyl1 : 1 ≤ yl := by have := HYL.out; omega
  have hylm : yl ≤ 1000000 := by have := HYL.out; omega
  obtain ⟨cq, hcq⟩ : ∃ cq, cq = cp - at_ := ⟨_, rfl⟩
  have hycq : yl ≤ cq := by have := HYL.out; omega
  have hcqm : cq ≤ 2 ^ 63 - 1 := by omega
  rw [← hcq] at HSUB ⊢
  clear hcq
  go_loopw [7, 24] (fun v7 v24 wr => ∃ k m : Nat, k ≤ 9 ∧ v24 = .int .i64 k ∧ v7 = .int .i64 m ∧ 1 ≤ m ∧ m ≤ 4 ∧ Below w1.heap.size w1 wr) (fun _ v24 _ => 9 - (intOf v24).toNat)
  case atStart => exact ⟨0, 1, by omega, rfl, rfl, by omega, by omega, Below.refl _ _⟩
  case round =>
    obtain ⟨wo, hwo⟩ : ∃ wo, wo = wr := ⟨_, rfl⟩
    subst hwo
    obtain ⟨k, m, hk, rfl, rfl, hm1, hm4, hB⟩ := hrel
    have HB := hid hB
    have hs1 := hB.size
    clear hB
    by_cases hlt : k < 9
    · obtain ⟨g, hg⟩ := at_lt (xs := rowsP) (i := k) (by rw [hrl]; exact hlt)
      have hlt' : (k : Int) < 9 := by omega
      obtain ⟨G1, O1, vg, rfl, hG1, hgv, hgc⟩ := list_at1 rfl HR.out hg
      have hgc' := (HB.out.cell (p := ⟨G1, O1 + k, none⟩) hG1.2).trans hgc
      obtain ⟨A2, c2, rfl, hc2, _⟩ := list_form hgv
      have hgm := row_mem k g hg
      have hgl : 1 ≤ g.length ∧ g.length ≤ 4 := by
        have key : rowsP.all (fun g => decide (1 ≤ g.length) && decide (g.length ≤ 4)) = true := by decide +kernel
        have := List.all_eq_true.1 key g hgm
        simp only [Bool.and_eq_true, decide_eq_true_eq] at this
        exact this
      have HGV := hid hgv
      have HGM := hid hgm
      clear hgv hgm hg hgc
      go_wp2_with fail
      go_loopw [10] (fun v10 wr => ∃ j : Nat, j ≤ g.length ∧ j ≤ yl ∧ v10 = .int .i64 j ∧ fitL (g.take j) (b.drop at_) = true ∧ Below wo.heap.size wo wr) (fun v10 _ => g.length - (intOf v10).toNat)
      case atStart => exact ⟨0, Nat.zero_le _, Nat.zero_le _, rfl, by rw [List.take_zero]; rfl, Below.refl _ _⟩
      case round =>
        obtain ⟨wj, hwj⟩ : ∃ wj, wj = wr := ⟨_, rfl⟩
        subst hwj
        obtain ⟨j, hj, hjy, rfl, hft, hBj⟩ := hrel
        have HFT := hid hft
        have HBj := hid (HB.out.trans (hBj.mono hs1))
        have hs2 := hBj.size
        have HBo := hid hBj
        clear hft hBj
        have hj4 : j ≤ 4 := by omega
        by_cases d1 : j < g.length
        · have d1' : (j : Int) < g.length := by omega
          by_cases d2 : j < yl
          · have d2' : (j : Int) < yl := by omega
            obtain ⟨gs, hgs⟩ := at_lt d1
            obtain ⟨G2, O2, vs, rfl, hG2, hsv, hsc⟩ := list_at1 rfl HGV.out hgs
            obtain ⟨A3, c3, rfl, hc3, _⟩ := list_form hsv
            obtain ⟨z, hz⟩ := at_lt (xs := b) (i := at_ + j) (by have := HYL.out; omega)
            obtain ⟨_, _, he, _, hzc, hz0, hz1⟩ := byte_at Hb.out hz
            cases he
            rw [← Nat.add_assoc] at hzc
            have hGs : G < w.heap.size := hG
            have hG2s : G2 < w1.heap.size := hG2.2
            have hs0 := HB1.out.size
            go_wp2_with fail
            obtain ⟨ι, Wc, ⟨i0, hi0'⟩, hWc, Wsur⟩ := held_class wj.drew (fun q => q < w1.heap.size)
            have hne : Nonempty ι := ⟨i0⟩
            have WS := hid Wsur; clear Wsur
            have HWc := hid hWc; clear hWc
            have Hi0 := hid hi0'; clear hi0'
            have g1 : ∀ i, (Wc i).cell? ⟨G2, O2 + j, none⟩ = some (.slice A3 gs.length c3) := fun i => (World.cell?_of_block (a := ⟨G2, O2 + j, none⟩) (HWc.out i _ hG2s)).trans ((HBj.out.cell (p := ⟨G2, O2 + j, none⟩) hG2s).trans hsc)
            have g2 : ∀ i, (Wc i).cell? ⟨G, O + at_ + j, none⟩ = some (.int .u8 z) := fun i => (World.cell?_of_block (a := ⟨G, O + at_ + j, none⟩) (HWc.out i _ (show G < w1.heap.size by omega))).trans ((HBj.out.cell (p := ⟨G, O + at_ + j, none⟩) (show G < w1.heap.size by omega)).trans ((HB1.out.cell (p := ⟨G, O + at_ + j, none⟩) hGs).trans hzc))
            have hS0 : ∃ i, wj.drew = Wc i := ⟨i0, Hi0.out.symm⟩
            have HSV := hid ((listR spanR).mono (fun p hp => HBj.out.cell (p := p) hp.2) (fun q hq => (show upto wj.heap.size q from Nat.lt_of_lt_of_le hq.2 HBj.out.size)) hsv)
            have HZ := hid hz
            have HGS := hid hgs
            clear hz hgs hsv hsc hzc hG2
            have hI : hasI gs z = hasB gs z := by unfold hasI; rw [decide_eq_true (by omega), decide_eq_true (by omega)]; rfl
            have hh := HHA.out gs z (.slice A3 gs.length c3) wj.drew HSV.out
            rw [hI] at hh
            have HHX := hid hh
            clear hI hh
            refine region_anyL (S := fun w' => ∃ i, w' = Wc i) (last := 22) (by kernel_rfl) ?_
            refine anyL_seg 0 20 (by kernel_rfl) (fun _ _ _ _ _ h => h) hS0 (f := 2) rfl (by kernel_rfl) (by kernel_rfl) ?_
            simp only [List.drop_zero, List.take_succ_cons, List.take_zero]
            repeat go_big_quiet_step (fail)
            refine wpQuiet_nil ?_
            refine anyL_actG (i := 20) (by kernel_rfl) rfl (by rfl) ?_
            intro K hK
            go_wp2_with fail
            refine HHX.out.mono ?_
            rintro e w3 ⟨rfl, hB3⟩
            have hB3j : Below wj.heap.size wj w3 := ⟨hB3.os, hB3.tape, hB3.output, hB3.size, hB3.block⟩
            have HB3 := hid hB3j
            have HBE := hid (HBj.out.trans (hB3j.mono HBj.out.size))
            have hs3 := hB3j.size
            clear hB3 hB3j
            have hS3 : ∃ i, w3 = Wc i := WS.out w3 fun q hq => HB3.out.block q (Nat.lt_of_lt_of_le hq HBj.out.size)
            go_wp2_with fail
            refine hK.out _ _ (fun _ => hS3) ?_
            clear hK K
            refine anyL_seg 21 1 (by kernel_rfl) (fun _ _ _ _ _ h => h) hS3 (f := 0) rfl (by kernel_rfl) (by kernel_rfl) ?_
            simp only [List.drop_succ_cons, List.drop_zero, List.take_succ_cons, List.take_zero]
            repeat go_big_quiet_step (fail)
            refine wpQuiet_nil ?_
            refine anyL_done (by kernel_rfl) ?_ 0
            clear hS3 g1 g2 hS0 WS HWc Hi0 hne i0 Wc ι
            by_cases hb : hasB gs z = true
            · rw [hb]
              have HN := hid (fitL_snoc (y := b.drop at_) HFT.out (by rw [List.length_take, Nat.min_eq_left (Nat.le_of_lt d1), List.getElem?_drop]; exact HZ.out) hb)
              have HN2 : Hid (fitL (g.take (j + 1)) (b.drop at_) = true) := hid (by rw [List.take_add_one, HGS.out]; exact HN.out)
              clear hb
              go_wp2_with fail
              refine ⟨⟨j + 1, by omega, by omega, by push_cast; rfl, HN2.out, HBo.out.trans (HB3.out.mono hs2)⟩, ?_⟩
              simp [intOf]
              omega
            · rw [Bool.not_eq_true] at hb
              rw [hb]
              have hne : ¬ (j : Int) = g.length := by omega
              clear hb
              go_wp2_with fail
              exact ⟨⟨k + 1, max m j, by omega, by push_cast; rfl, by rw [show ((max m j : Nat) : Int) = max (m : Int) j by omega], by omega, by omega, HBE.out⟩, by simp [intOf]; omega⟩
          · obtain rfl : j = yl := by omega
            have d2' : ¬ (j : Int) < j := by omega
            have hne : ¬ (j : Int) = g.length := by omega
            go_wp2_with fail
            go_quiet (fail)
            go_wp2_with fail
            exact ⟨⟨k + 1, max m j, by omega, by push_cast; rfl, by rw [show ((max m j : Nat) : Int) = max (m : Int) j by omega], by omega, by omega, ⟨HBj.out.os, HBj.out.tape, HBj.out.output, HBj.out.size, HBj.out.block⟩⟩, by simp [intOf]; omega⟩
        · obtain rfl : j = g.length := by omega
          have d1' : ¬ (g.length : Int) < g.length := by omega
          go_wp2_with fail
          go_quiet (fail)
          go_wp2_with fail
          have HBw : Hid (Below w.heap.size w (wj.drewN nq)) := hid (HB1.out.trans ((show Below w1.heap.size w1 (wj.drewN nq) from ⟨HBj.out.os, HBj.out.tape, HBj.out.output, HBj.out.size, HBj.out.block⟩).mono HB1.out.size))
          rw [List.take_length] at HFT
          refine (HVA.out g HGM.out ((b.drop at_).take g.length) (fitL_cut _ _ HFT.out) (by rw [List.length_take, List.length_drop]; have := HYL.out; omega) _ _ (HSUB.out g.length _ HBw.out hjy)).mono ?_
          rintro e w3 ⟨z, rfl, hz, hB3⟩
          have HBE := hid (HBw.out.trans (hB3.mono HBw.out.size))
          have HZ := hid hz
          clear hB3 hz
          go_wp2_with fail
          go_ret3
          exact ⟨z, g.length, true, rfl, HZ.out, hgl.1, hgl.2, HBE.out⟩
    · obtain rfl : k = 9 := by omega
      go_wp2_with fail
      go_ret3
      exact ⟨_, m, false, rfl, by unfold scalP; omega, hm1, hm4, HB1.out.trans (HB.out.mono HB1.out.size)⟩
end Go.Proofs.YtmkmikacfilbpaaGreat
