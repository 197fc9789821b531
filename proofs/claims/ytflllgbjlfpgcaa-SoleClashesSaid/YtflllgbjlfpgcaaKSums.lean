/-
  The reference's sums of two lists of numbers.
-/
import Derived.Test.YtflllgbjlfpgcaaKPutB
import Derived.Test.YtflllgbjlfpgcaaKPlain
import Derived.Test.YtflllgbjlfpgcaaKEach
namespace Go.Proofs.Ytflllgbjlfpgcaa
open Go.RowKit Go.Um Go.Proofs
def SumI (w wr : World) (T : Option (List Int)) (a b : List Int) (vo : Value) (i : Nat) : Prop := ∃ out, sumOut putF (a.drop i) b out = T ∧ wr.ownsInts w.heap.size 3 .i64 vo out ∧ Rising out ∧ (∀ z ∈ out, -1114111 ≤ z ∧ z ≤ 1114111) ∧ Below w.heap.size w wr
def SumJ (w wr : World) (T : Option (List Int)) (a b : List Int) (i : Nat) (x : Int) (vo : Value) (k : Nat) : Prop := ∃ out, (sumIn putF x (b.drop k) out).bind (sumOut putF (a.drop (i + 1)) b) = T ∧ wr.ownsInts w.heap.size 3 .i64 vo out ∧ Rising out ∧ (∀ z ∈ out, -1114111 ≤ z ∧ z ≤ 1114111) ∧ Below w.heap.size w wr
def SumTI (w wr : World) (T : Option (Int → Bool)) (a b : List Int) (N i : Nat) : Prop := ∃ S, sumOut insS (a.drop i) b S = T ∧ BRow wr w.heap.size 4 (tabL N S) ∧ Below w.heap.size w wr ∧ w.heap.size < wr.heap.size
def SumTJ (w wr : World) (T : Option (Int → Bool)) (a b : List Int) (N i : Nat) (x : Int) (k : Nat) : Prop := ∃ S, (sumIn insS x (b.drop k) S).bind (sumOut insS (a.drop (i + 1)) b) = T ∧ BRow wr w.heap.size 4 (tabL N S) ∧ Below w.heap.size w wr ∧ w.heap.size < wr.heap.size
def SumC (w wr : World) (S : Int → Bool) (N : Nat) (vo : Value) (i : Nat) : Prop := wr.ownsInts (w.heap.size + 1) 3 .i64 vo (colF S i) ∧ BRow wr w.heap.size 4 (tabL N S) ∧ Below w.heap.size w wr ∧ w.heap.size < wr.heap.size
def SumsPost (a b : List Int) (w : World) (e : Ending) (w' : World) : Prop := ∃ u ok l, e = .returned (.tuple #[u, .bool ok]) ∧ Sums a b ok l ∧ (ok = true → w'.ownsInts w.heap.size 3 .i64 u l) ∧ Below w.heap.size w w'
theorem infoB : (Try.prog.info? 4).map (fun i => (i.zero, i.size, i.bytes)) = some (some (.bool false), 1, 1) := by kernel_rfl
set_option maxHeartbeats 6000000 in
set_option maxRecDepth 100000 in
theorem Sums_calls (a b : List Int) (v u : Value) (w : World) (ha : (listR intR).rel w (upto w.heap.size) [v] a) (hb : (listR intR).rel w (upto w.heap.size) [u] b) (la : a.length ≤ 2228223) (lb : b.length ≤ 256)
    (ba : ∀ x ∈ a, -1114111 ≤ x ∧ x ≤ 1114111) (bb : ∀ y ∈ b, 0 ≤ y ∧ y ≤ 1000000000000) :
    Calls Try.prog 62 #[v, u] w fun e w' => SumsPost a b w e w' := by
  obtain ⟨A1, c1', rfl, hc1, hm1⟩ := list_form ha
  obtain ⟨A2, c2', rfl, hc2, hm2⟩ := list_form hb
  unfold maxLen at hm1 hm2
  obtain ⟨inf3, hi3, hy0, hy1, hy2⟩ := info_parts info3
  obtain ⟨infb, hib, hzb, hzb1, hzb2⟩ := info_parts infoB
  obtain ⟨N, hN⟩ : ∃ N : Nat, N = 2228223 := ⟨_, rfl⟩
  have hN1 : N ≤ 2228223 := by omega
  have hN2 : 2228223 ≤ N := by omega
  have hmk : ∀ W : World, (Instr.makeSlice 72 (.int .i64 2228223) (.int .i64 2228223)).run Try.prog W = .ok (.slice (some ⟨W.heap.size, 0, none⟩) N N) (W.alloc (.cells (madeCells #[.bool false] N) 4)) := by
    intro W
    have := make_rowN (P := Try.prog) 72 4 infb (.bool false) Try.underlying72 hib hzb .i64 .i64 N N (Nat.le_refl _) (by rw [hzb2]; omega) (by omega) W
    rw [hzb1, Nat.mul_one, show ((N : Nat) : Int) = 2228223 by omega] at this
    exact this
  have HCOL : Hid (∀ S, sumOut insS a b (fun _ => false) = some S → Sums a b true (colF S N)) := hid fun S h => by
    rw [hN]
    exact sums_tab_some h fun x hx y hy => by have := ba x hx; have := bb y hy; omega
  clear hN
  have hp0 : 0 ≤ (a.length : Int) * b.length := Int.mul_nonneg (by omega) (by omega)
  have hp1 : (a.length : Int) * b.length ≤ 1000000000 := by
    have h1 : (a.length : Int) * b.length ≤ 2228223 * b.length := Int.mul_le_mul_of_nonneg_right (by omega) (by omega)
    omega
  go_enter Try.func62, Try.ntmps62
  by_cases hsm : (a.length : Int) * b.length ≤ 4000
  · clear hmk HCOL
    obtain ⟨T, hT⟩ : ∃ T, T = sumOut putF a b [] := ⟨_, rfl⟩
    have HT := hid hT.symm
    clear hT
    go_wp2_with fail
    go_loopw [6, 7] (fun vo vi wr => ∃ i : Nat, i ≤ a.length ∧ vi = .int .i64 i ∧ SumI w wr T a b vo i) (fun _ vi _ => a.length - (intOf vi).toNat)
    case atStart => exact ⟨0, Nat.zero_le _, rfl, [], HT.out, ⟨World.ownsRow_nil _ _ _ _, by simp⟩, List.Pairwise.nil, by simp, Below.refl _ _⟩
    case round =>
      obtain ⟨i, hi, rfl, out, hst, ho, hri, hbo, hB⟩ := hrel
      obtain ⟨wo, hwo⟩ : ∃ wo, wo = wr := ⟨_, rfl⟩
      subst hwo
      have HO := hid ho
      have HR := hid hri
      have HBO := hid hbo
      have HB := hid hB
      obtain ⟨Ao, co, rfl, _, _⟩ := list_form (intsR ho)
      by_cases hlt : i < a.length
      · obtain ⟨x, hx⟩ := at_lt hlt
        have hlt' : (i : Int) < a.length := by omega
        have hxb := ba x (List.mem_of_getElem? hx)
        obtain ⟨b3, o3, y3, rfl, hb3, ⟨hv1, hv2⟩, hcz3⟩ := list_at1 rfl ha hx
        simp only [List.cons.injEq, and_true] at hv1
        subst hv1
        have c3 : w.cell? ⟨b3, o3 + i, none⟩ = some (.int .i64 x) := by simpa [intR] using hcz3
        have HST : Hid ((sumIn putF x b out).bind (sumOut putF (a.drop (i + 1)) b) = T) := hid (by rw [drop_cons hx] at hst; exact hst)
        clear hst ho hri hbo hB hcz3 hv2 hx hlt
        go_wp2_with fail
        go_loopw [6, 8] (fun vo vk wr => ∃ k : Nat, k ≤ b.length ∧ vk = .int .i64 k ∧ SumJ w wr T a b i x vo k) (fun _ vk _ => b.length - (intOf vk).toNat)
        case atStart => exact ⟨0, Nat.zero_le _, rfl, out, HST.out, HO.out, HR.out, HBO.out, HB.out⟩
        case round =>
          clear HST HO HR HBO HB
          obtain ⟨k, hk, rfl, out2, hst2, ho2, hri2, hbo2, hB2⟩ := hrel
          obtain ⟨wd, hwd⟩ : ∃ wd, wd = wr := ⟨_, rfl⟩
          subst hwd
          have HO2 := hid ho2
          have HR2 := hid hri2
          have HBO2 := hid hbo2
          have HB2 := hid hB2
          have hol := rising_count hri2 hbo2
          have hs1 := hB2.size
          obtain ⟨A9, c9, rfl, _, _⟩ := list_form (intsR ho2)
          by_cases hlk : k < b.length
          · obtain ⟨y, hy⟩ := at_lt hlk
            have hlk' : (k : Int) < b.length := by omega
            have hyb := bb y (List.mem_of_getElem? hy)
            obtain ⟨b4, o4, y4, rfl, hb4, ⟨hv1, hv2⟩, hcz4⟩ := list_at1 rfl hb hy
            simp only [List.cons.injEq, and_true] at hv1
            subst hv1
            have c4 : w.cell? ⟨b4, o4 + k, none⟩ = some (.int .i64 y) := by simpa [intR] using hcz4
            have d3 := (hB2.cell (p := ⟨b3, o3 + i, none⟩) hb3).trans c3
            have d4 := (hB2.cell (p := ⟨b4, o4 + k, none⟩) hb4).trans c4
            have HSTEP : Hid ((sumIn putF x (y :: b.drop (k + 1)) out2).bind (sumOut putF (a.drop (i + 1)) b) = T) := hid (by rw [drop_cons hy] at hst2; exact hst2)
            clear hst2 ho2 hri2 hbo2 hB2 hcz4 hv2 hy hlk c3 c4
            by_cases hbig : 1114111 < x + y
            · have HNo : Hid (sumOut putF a b [] = none) := hid (by rw [HT.out, ← HSTEP.out]; unfold sumIn; rw [if_pos hbig]; rfl)
              clear HSTEP HT
              go_wp2_with fail
              go_quiet (fail)
              go_wp2_with fail
              go_ret2
              exact ⟨_, false, [], rfl, sums_put_none HNo.out _, by simp, below_drewN HB2.out _⟩
            · have HST : Hid ((sumIn putF x (b.drop (k + 1)) (putF (x + y) out2)).bind (sumOut putF (a.drop (i + 1)) b) = T) := hid (by rw [← HSTEP.out, sumIn, if_neg hbig])
              clear HSTEP
              go_wp2_with fail
              go_quiet (fail)
              have e3 : (wd.drewN nq).cell? ⟨b3, o3 + i, none⟩ = some (.int .i64 x) := d3
              have e4 : (wd.drewN nq).cell? ⟨b4, o4 + k, none⟩ = some (.int .i64 y) := d4
              have HOe : Hid ((wd.drewN nq).ownsInts w.heap.size 3 .i64 (.slice A9 out2.length c9) out2) := hid HO2.out
              have HBe : Hid (Below w.heap.size w (wd.drewN nq)) := hid (below_drewN HB2.out _)
              clear d3 d4 HO2 HB2 hs1
              generalize wd.drewN nq = we at *
              have hs1e := HBe.out.size
              go_wp2_with fail
              obtain ⟨ι, Wc, ⟨i0, hi0⟩, hWc, Wsur⟩ := held_class we.drew (fun g => g < w.heap.size)
              have hne : Nonempty ι := ⟨i0⟩
              have WS := hid Wsur; clear Wsur
              have HWc := hid hWc; clear hWc
              have Hi0 := hid hi0; clear hi0
              have g3 : ∀ i', (Wc i').cell? ⟨b3, o3 + i, none⟩ = some (.int .i64 x) := fun i' => (cell_of_heap_eq (p := ⟨b3, o3 + i, none⟩) (HWc.out i' _ hb3)).trans e3
              have g4 : ∀ i', (Wc i').cell? ⟨b4, o4 + k, none⟩ = some (.int .i64 y) := fun i' => (cell_of_heap_eq (p := ⟨b4, o4 + k, none⟩) (HWc.out i' _ hb4)).trans e4
              refine region_anyL (S := fun w' => ∃ i, w' = Wc i) (last := 12) (by kernel_rfl) ?_
              refine anyL_seg 0 10 (by kernel_rfl) (fun _ _ _ _ _ h => h) ⟨i0, Hi0.out.symm⟩ (f := 2) rfl (by kernel_rfl) (by kernel_rfl) ?_
              simp only [List.drop_zero, List.take_succ_cons, List.take_zero]
              repeat go_big_quiet_step (fail)
              refine wpQuiet_nil ?_
              refine anyL_act (i := 10) (by kernel_rfl) rfl rfl ?_
              intro K hK
              go_wp2_with fail
              refine (Put6_calls out2 (x + y) _ w.heap.size _ (show we.drew.ownsInts w.heap.size 3 .i64 _ out2 from HOe.out) HR2.out ⟨by omega, by omega⟩ (by omega) hs1e).mono ?_
              rintro e w6 ⟨u6, rfl, ho6, hB6⟩
              have hS2 : ∃ i, w6 = Wc i := WS.out _ (fun g hg => hB6.block g hg)
              have HB6 := hid (HBe.out.trans (show Below w.heap.size we w6 from ⟨hB6.os, hB6.tape, hB6.output, hB6.size, hB6.block⟩))
              go_wp2_with fail
              refine hK.out _ _ (fun _ => hS2) ?_
              clear hK K
              refine anyL_seg 11 1 (by kernel_rfl) (fun _ _ _ _ _ h => h) hS2 (f := 0) rfl (by kernel_rfl) (by kernel_rfl) ?_
              simp only [List.drop_succ_cons, List.drop_zero, List.take_succ_cons, List.take_zero]
              repeat go_big_quiet_step (fail)
              refine wpQuiet_nil ?_
              refine anyL_done (by kernel_rfl) ?_ 0
              clear hS2 g3 g4 WS HWc Hi0 hne i0 Wc ι hB6
              have HE : Hid (∃ j' : Nat, j' ≤ b.length ∧ Value.int .i64 ((k : Int) + 1) = .int .i64 j' ∧ SumJ w w6 T a b i x u6 j') := hid ⟨k + 1, by omega, by push_cast; rfl, _, HST.out, ho6, putF_rising HR2.out, fun z hz => by
                rcases mem_putF.1 hz with rfl | hz
                · omega
                · exact HBO2.out z hz, HB6.out⟩
              go_wp2_with fail
              first
                | (refine ⟨HE.out, ?_⟩; simp [intOf]; omega)
                | (go_simp; refine ⟨by simpa using HE.out, ?_⟩; simp [intOf]; omega)
          · obtain rfl : k = b.length := by omega
            have HST : Hid (sumOut putF (a.drop (i + 1)) b out2 = T) := hid (by rw [List.drop_length] at hst2; exact hst2)
            clear hst2 ho2 hri2 hbo2 hB2 hlk
            have HE : Hid (∃ j' : Nat, j' ≤ a.length ∧ Value.int .i64 ((i : Int) + 1) = .int .i64 j' ∧ SumI w wd T a b (.slice A9 out2.length c9) j') := hid ⟨i + 1, by omega, by push_cast; rfl, _, HST.out, HO2.out, HR2.out, HBO2.out, HB2.out⟩
            go_wp2_with fail
            first
              | (refine ⟨HE.out, ?_⟩; simp [intOf]; omega)
              | (go_simp; refine ⟨by simpa using HE.out, ?_⟩; simp [intOf]; omega)
      · obtain rfl : i = a.length := by omega
        have HST : Hid (sumOut putF a b [] = some out) := hid (by rw [List.drop_length] at hst; rw [HT.out, ← hst]; rfl)
        clear hst ho hri hbo hB hlt
        go_wp2_with fail
        go_ret2
        exact ⟨_, true, out, rfl, sums_put_some HST.out, fun _ => HO.out, HB.out⟩
  · obtain ⟨T, hT⟩ : ∃ T, T = sumOut insS a b (fun _ => false) := ⟨_, rfl⟩
    have HT := hid hT.symm
    clear hT
    go_wp2_with fail
    have hR0 : BRow (w.alloc (.cells (madeCells #[.bool false] N) 4)) w.heap.size 4 (tabL N (fun _ => false)) := by
      rw [tabL_none]; exact BRow.make w _ N
    have hB0 : Below w.heap.size w (w.alloc (.cells (madeCells #[.bool false] N) 4)) := (Below.refl _ w).alloc (Nat.le_refl _) _
    have hS0 : w.heap.size < (w.alloc (.cells (madeCells #[.bool false] N) 4)).heap.size := by simp
    generalize w.alloc (.cells (madeCells #[.bool false] N) 4) = wm at *
    clear hmk
    go_loopw [10] (fun vi wr => ∃ i : Nat, i ≤ a.length ∧ vi = .int .i64 i ∧ SumTI w wr T a b N i) (fun vi _ => a.length - (intOf vi).toNat)
    case atStart => exact ⟨0, Nat.zero_le _, rfl, _, HT.out, hR0, hB0, hS0⟩
    case round =>
      clear hR0 hB0 hS0
      obtain ⟨i, hi, rfl, S, hst, hR, hB, hS⟩ := hrel
      obtain ⟨wo, hwo⟩ : ∃ wo, wo = wr := ⟨_, rfl⟩
      subst hwo
      have HRo := hid hR
      have HB := hid hB
      by_cases hlt : i < a.length
      · obtain ⟨x, hx⟩ := at_lt hlt
        have hlt' : (i : Int) < a.length := by omega
        have hxb := ba x (List.mem_of_getElem? hx)
        obtain ⟨b3, o3, y3, rfl, hb3, ⟨hv1, hv2⟩, hcz3⟩ := list_at1 rfl ha hx
        simp only [List.cons.injEq, and_true] at hv1
        subst hv1
        have c3 : w.cell? ⟨b3, o3 + i, none⟩ = some (.int .i64 x) := by simpa [intR] using hcz3
        have HST : Hid ((sumIn insS x b S).bind (sumOut insS (a.drop (i + 1)) b) = T) := hid (by rw [drop_cons hx] at hst; exact hst)
        clear hst hR hB hcz3 hv2 hx hlt
        go_wp2_with fail
        go_loopw [11] (fun vk wr => ∃ k : Nat, k ≤ b.length ∧ vk = .int .i64 k ∧ SumTJ w wr T a b N i x k) (fun vk _ => b.length - (intOf vk).toNat)
        case atStart => exact ⟨0, Nat.zero_le _, rfl, S, HST.out, HRo.out, HB.out, hS⟩
        case round =>
          clear HST HRo HB hS
          obtain ⟨k, hk, rfl, S2, hst2, hR2, hB2, hS2⟩ := hrel
          obtain ⟨wd, hwd⟩ : ∃ wd, wd = wr := ⟨_, rfl⟩
          subst hwd
          have HR2 := hid hR2
          have HB2 := hid hB2
          by_cases hlk : k < b.length
          · obtain ⟨y, hy⟩ := at_lt hlk
            have hlk' : (k : Int) < b.length := by omega
            have hyb := bb y (List.mem_of_getElem? hy)
            obtain ⟨b4, o4, y4, rfl, hb4, ⟨hv1, hv2⟩, hcz4⟩ := list_at1 rfl hb hy
            simp only [List.cons.injEq, and_true] at hv1
            subst hv1
            have c4 : w.cell? ⟨b4, o4 + k, none⟩ = some (.int .i64 y) := by simpa [intR] using hcz4
            have d3 := (hB2.cell (p := ⟨b3, o3 + i, none⟩) hb3).trans c3
            have d4 := (hB2.cell (p := ⟨b4, o4 + k, none⟩) hb4).trans c4
            have HSTEP : Hid ((sumIn insS x (y :: b.drop (k + 1)) S2).bind (sumOut insS (a.drop (i + 1)) b) = T) := hid (by rw [drop_cons hy] at hst2; exact hst2)
            clear hst2 hR2 hB2 hcz4 hv2 hy hlk c3 c4
            by_cases hbig : 1114111 < x + y
            · have HNo : Hid (sumOut insS a b (fun _ => false) = none) := hid (by rw [HT.out, ← HSTEP.out]; unfold sumIn; rw [if_pos hbig]; rfl)
              clear HSTEP HT
              go_wp2_with fail
              go_quiet (fail)
              go_wp2_with fail
              go_ret2
              exact ⟨_, false, [], rfl, sums_tab_none HNo.out _, by simp, below_drewN HB2.out _⟩
            · have HST : Hid ((sumIn insS x (b.drop (k + 1)) (insS (x + y) S2)).bind (sumOut insS (a.drop (i + 1)) b) = T) := hid (by rw [← HSTEP.out, sumIn, if_neg hbig])
              clear HSTEP
              go_wp2_with fail
              go_quiet (fail)
              have e3 : (wd.drewN nq).cell? ⟨b3, o3 + i, none⟩ = some (.int .i64 x) := d3
              have e4 : (wd.drewN nq).cell? ⟨b4, o4 + k, none⟩ = some (.int .i64 y) := d4
              have HRe : Hid (BRow (wd.drewN nq) w.heap.size 4 (tabL N S2)) := hid HR2.out
              have HBe : Hid (Below w.heap.size w (wd.drewN nq)) := hid (below_drewN HB2.out _)
              have hs2 : w.heap.size < (wd.drewN nq).heap.size := hS2
              clear d3 d4 HR2 HB2 hS2
              generalize wd.drewN nq = we at *
              have hs1e := HBe.out.size
              go_wp2_with fail
              obtain ⟨j, hj⟩ : ∃ j : Nat, (j : Int) = x + y + 1114111 := ⟨(x + y + 1114111).toNat, by omega⟩
              have hjn : j < N := by omega
              obtain ⟨k1, k2⟩ := HRe.out.at (tabL_get (S := S2) hjn)
              have k1d : we.drew.cell? ⟨w.heap.size, j, none⟩ = _ := k1
              have k2d : we.drew.frozen? ⟨w.heap.size, j, none⟩ = false := k2
              have hjt : (x + y + 1114111).toNat = j := by omega
              have HR6 := hid (by have := HRe.out.put j true; rw [tabL_set (z := x + y) (by omega)] at this; exact this)
              have HB6 := hid (HBe.out.setCell (p := ⟨w.heap.size, j, none⟩) (Nat.le_refl _) (.bool true))
              have hs6 : w.heap.size < (we.setCell ⟨w.heap.size, j, none⟩ (.bool true)).heap.size := by simpa using hs2
              obtain ⟨ι, Wc, ⟨i0, hi0⟩, hWc, Wsur⟩ := held_class we.drew (fun g => g < w.heap.size)
              have hne : Nonempty ι := ⟨i0⟩
              have WS := hid Wsur; clear Wsur
              have HWc := hid hWc; clear hWc
              have Hi0 := hid hi0; clear hi0
              have g3 : ∀ i', (Wc i').cell? ⟨b3, o3 + i, none⟩ = some (.int .i64 x) := fun i' => (cell_of_heap_eq (p := ⟨b3, o3 + i, none⟩) (HWc.out i' _ hb3)).trans e3
              have g4 : ∀ i', (Wc i').cell? ⟨b4, o4 + k, none⟩ = some (.int .i64 y) := fun i' => (cell_of_heap_eq (p := ⟨b4, o4 + k, none⟩) (HWc.out i' _ hb4)).trans e4
              refine region_anyL (S := fun w' => ∃ i, w' = Wc i) (last := 12) (by kernel_rfl) ?_
              refine anyL_seg 0 12 (by kernel_rfl) (fun _ _ _ _ _ h => h) ⟨i0, Hi0.out.symm⟩ (f := 1) rfl (by kernel_rfl) (by kernel_rfl) ?_
              simp only [List.drop_zero, List.take_succ_cons, List.take_zero]
              repeat go_big_quiet_step (fail)
              refine wpQuiet_nil ?_
              refine anyL_act (i := 12) (by kernel_rfl) rfl rfl ?_
              intro K hK
              go_wp2_with fail
              refine hK.out _ _ (fun h => absurd rfl h) ?_
              clear hK K
              refine anyL_done (by kernel_rfl) ?_ 0
              clear g3 g4 WS HWc Hi0 hne i0 Wc ι
              have HE : Hid (∃ j' : Nat, j' ≤ b.length ∧ Value.int .i64 ((k : Int) + 1) = .int .i64 j' ∧ SumTJ w (we.setCell ⟨w.heap.size, j, none⟩ (.bool true)).drew T a b N i x j') := hid ⟨k + 1, by omega, by push_cast; rfl, _, HST.out, HR6.out, HB6.out.drew, hs6⟩
              go_wp2_with fail
              first
                | (refine ⟨HE.out, ?_⟩; simp [intOf]; omega)
                | (go_simp; refine ⟨by simpa using HE.out, ?_⟩; simp [intOf]; omega)
          · obtain rfl : k = b.length := by omega
            have HST : Hid (sumOut insS (a.drop (i + 1)) b S2 = T) := hid (by rw [List.drop_length] at hst2; exact hst2)
            clear hst2 hR2 hB2 hlk
            have HE : Hid (∃ j' : Nat, j' ≤ a.length ∧ Value.int .i64 ((i : Int) + 1) = .int .i64 j' ∧ SumTI w wd T a b N j') := hid ⟨i + 1, by omega, by push_cast; rfl, _, HST.out, HR2.out, HB2.out, hS2⟩
            go_wp2_with fail
            first
              | (refine ⟨HE.out, ?_⟩; simp [intOf]; omega)
              | (go_simp; refine ⟨by simpa using HE.out, ?_⟩; simp [intOf]; omega)
      · obtain rfl : i = a.length := by omega
        have HST : Hid (sumOut insS a b (fun _ => false) = some S) := hid (by rw [List.drop_length] at hst; rw [HT.out, ← hst]; rfl)
        have HSUM := hid (HCOL.out S HST.out)
        clear hst hR hB hlt HST HT HCOL
        go_wp2_with fail
        go_loopw [12, 13] (fun vo vi wr => ∃ i : Nat, i ≤ N ∧ vi = .int .i64 i ∧ SumC w wr S N vo i) (fun _ vi _ => N - (intOf vi).toNat)
        case atStart => exact ⟨0, Nat.zero_le _, rfl, ⟨World.ownsRow_nil _ _ _ _, by simp [colF_zero]⟩, HRo.out, HB.out, hS⟩
        case round =>
          clear HRo HB hS
          obtain ⟨i, hi2, rfl, ho, hR, hB, hS⟩ := hrel
          obtain ⟨wd, hwd⟩ : ∃ wd, wd = wr := ⟨_, rfl⟩
          subst hwd
          obtain ⟨out, hout⟩ : ∃ out, out = colF S i := ⟨_, rfl⟩
          have hol : out.length ≤ i := by rw [hout]; exact colF_length S i
          rw [← hout] at ho
          have HO := hid ho
          have HRo := hid hR
          have HB := hid hB
          obtain ⟨Ao, co, rfl, _, hmo⟩ := list_form (intsR ho)
          by_cases hlt : i < N
          · have hlt' : (i : Int) < N := by omega
            cases hSi : S ((i : Int) - 1114111) with
            | true =>
              obtain ⟨k1, k2⟩ := hR.at (tabL_get (S := S) hlt)
              rw [hSi] at k1
              have HSN : Hid (colF S (i + 1) = out ++ [(i : Int) - 1114111]) := hid (by rw [colF_yes hSi, hout])
              clear hout ho hR hB hlt hSi k2
              go_wp2_with (at_builtin; refine Hid.out ?_)
              refine hid ?_
              refine wpList_append_own _ rfl _ _ 51 rfl (w.heap.size + 1) 3 inf3 (.int .i64 0) 1 8 Try.underlying51 hi3 hy0 hy1 hy2 rfl (by decide) (.slice Ao out.length co) _ _ rfl (HO.out.1.alloc _) ⟨wd.heap.size, 0, none⟩ 1 1 [.int .i64 ((i : Int) - 1114111)] rfl rfl
                (news_at (w := wd) (cs := #[_]) rfl) (ints_oneCell .i64 [(i : Int) - 1114111]) (by unfold maxLen; omega) (by omega) (by simp; omega) ?_
              intro v' w3 hown hg hn
              have hB3 : Below (w.heap.size + 1) wd w3 := ((Below.refl _ wd).alloc (by omega) _).trans (below_grown (HO.out.1.alloc _) hg (Nat.le_refl _) (by simp; omega))
              have HO3 : Hid (w3.ownsInts (w.heap.size + 1) 3 .i64 v' (colF S (i + 1))) := hid (by rw [HSN.out]; exact World.ownsInts.appended (HO.out.alloc (.cells #[.int .i64 ((i : Int) - 1114111)] 3)) (by first | exact hown | simpa using hown) (WalkArith.wf_i64 ⟨by omega, by omega⟩))
              have HR3 : Hid (BRow w3 w.heap.size 4 (tabL N S)) := hid (HRo.out.carry (hB3.block _ (by omega)))
              have HB3 := hid (HB.out.trans (hB3.mono (by omega)))
              have hs3 : w.heap.size < w3.heap.size := Nat.lt_of_lt_of_le hS hB3.size
              clear hown hg hn hB3
              go_wp2_with fail
              have HE : Hid (∃ j' : Nat, j' ≤ N ∧ Value.int .i64 ((i : Int) + 1) = .int .i64 j' ∧ SumC w w3 S N v' j') := hid ⟨i + 1, by omega, by push_cast; rfl, HO3.out, HR3.out, HB3.out, hs3⟩
              first
                | (refine ⟨HE.out, ?_⟩; simp [intOf]; omega)
                | (go_simp; refine ⟨by simpa using HE.out, ?_⟩; simp [intOf]; omega)
            | false =>
              obtain ⟨k1, k2⟩ := hR.at (tabL_get (S := S) hlt)
              rw [hSi] at k1
              have HSN : Hid (colF S (i + 1) = out) := hid (by rw [colF_no hSi, hout])
              clear hout ho hR hB hlt hSi k2
              go_wp2_with fail
              have HE : Hid (∃ j' : Nat, j' ≤ N ∧ Value.int .i64 ((i : Int) + 1) = .int .i64 j' ∧ SumC w wd S N (.slice Ao out.length co) j') := hid ⟨i + 1, by omega, by push_cast; rfl, by rw [HSN.out]; exact HO.out, HRo.out, HB.out, hS⟩
              first
                | (refine ⟨HE.out, ?_⟩; simp [intOf]; omega)
                | (go_simp; refine ⟨by simpa using HE.out, ?_⟩; simp [intOf]; omega)
          · obtain rfl : i = N := by omega
            clear ho hR hB hlt
            have HSUM2 : Hid (Sums a b true out) := hid (by rw [hout]; exact HSUM.out)
            clear hout
            go_wp2_with fail
            go_ret2
            exact ⟨_, true, out, rfl, HSUM2.out, fun _ => ⟨ownsRow_base HO.out.1 (by omega), HO.out.2⟩, HB.out⟩
end Go.Proofs.Ytflllgbjlfpgcaa
