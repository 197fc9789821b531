/-
  The law CodecShape: its walk.
-/
import Derived.Test.YthfcbbdghggefaaGreatRCsB
import Derived.Test.YthfcbbdghggefaaGreatRCdL
namespace Go.Proofs.YthfcbbdghggefaaGreat
open Go.RowKit Go.Um Go.Proofs
theorem check_zero {d : Desc} (v u : Value) (w : World) (h0 : (whereF d).1 = 0) (hv : (listR ruleR).rel w (upto w.heap.size) [v] d.rules) (hu : (listR finalR).rel w (upto w.heap.size) [u] d.finals) :
    Calls Tryz.prog 13 #[.agg #[.int .i64 d.inn, .int .i64 d.out, .int .i64 d.states, .int .i64 d.start, v, u]] w fun e w' => e = .returned (.int .i64 0) ∧ Below w.heap.size w w' := by
  have := Check_calls d v u w hv hu
  rw [if_pos h0] at this
  exact this
/-- bytes behind a place. -/
theorem bytes_from {w : World} {S : Nat → Prop} {A : Option Addr} {l c n : Nat} {b : List Int} (h : bytesR.rel w S [.slice A l c] b) (hn : n ≤ b.length) : bytesR.rel w S [.slice (if c = n then A else A.map (·.add n)) (l - n) (c - n)] (b.drop n) := by
  obtain ⟨A', m, cp, e, hm, hc, hx, h5⟩ := h
  injection e with e _
  injection e with e1 e2 e3
  subst e1 e2 e3
  refine ⟨_, l - n, c - n, rfl, by rw [List.length_drop, hm], by omega, by unfold maxLen at hx ⊢; omega, ?_⟩
  by_cases hl : l - n = 0
  · exact .inl hl
  rcases h5 with h5 | ⟨g, o, h5, h6, h7⟩
  · exact .inl (by omega)
  · subst h5
    rw [if_neg (by omega)]
    refine .inr ⟨g, o + n, by simp [Addr.add], h6, fun i x hx => ?_⟩
    rw [List.getElem?_drop] at hx
    obtain ⟨ds, k1, k2⟩ := h7 _ x hx
    refine ⟨ds, k1, fun j d hd => ?_⟩
    have := k2 j d hd
    have e : byteR.width = 1 := rfl
    rw [e, Nat.mul_one] at this ⊢
    rw [← this]
    congr 2
    omega
set_option maxHeartbeats 2000000 in
set_option maxRecDepth 100000 in
theorem shape_law (b : List Int) (hy : byteL b) (v : Value) (w : World) (h : bytesR.rel w (upto w.heap.size) [v] b) :
    Calls Tryz.prog 4 #[v] w fun e w' => e = .returned (.bool true) ∧ Below w.heap.size w w' := by
  have HAW := hid fun W => cawake_calls W
  have HRE := hid fun W => repair_post W
  have HCH := hid fun v u W hv hu => check_zero (d := repairD) v u W where_repair hv hu
  have HFR := hid fun v u W hv hu => Free_calls repairD (by decide +kernel) v u W hv hu
  have HWD := hid fun v u W hv hu => Width_calls repairD v u W hv hu
  have heat : ∀ r ∈ repairD.rules, 1 ≤ r.eat ∧ r.eat ≤ 4 := by
    have key : repairD.rules.all (fun r => decide (1 ≤ r.eat ∧ r.eat ≤ 4)) = true := by decide +kernel
    exact fun r hr => of_decide_eq_true (List.all_eq_true.1 key r hr)
  have HAH := hid fun v u W hv hu => Ahead_calls repairD heat v u W hv hu
  clear heat
  rw [show widthF repairD.rules = 4 by decide +kernel] at HWD
  rw [show aheadF repairD.rules = 1 by decide +kernel] at HAH
  have H1 := hid fun n => one_fits (sole_outer sole_repair) hy n
  have HFT := hid fun gs n v u W hl hv hu => fits_calls gs (b.drop n) (hy.drop n) hl v u W hv hu
  obtain ⟨A, c, rfl, hc, hm⟩ := list_form h
  unfold maxLen at hm
  have HB0 := hid h
  have hs0 : repairD.rules.all (fun r => decide (r.src = 0 ∧ 1 ≤ r.guards.length)) = true := by decide +kernel
  have hs1 : repairD.finals.all (fun r => decide (r.src = 0)) = true := by decide +kernel
  have hl0 : repairD.rules.length ≤ 1000 := by decide +kernel
  have hl1 : repairD.finals.length ≤ 1000 := by decide +kernel
  have HSR := hid fun r hr => of_decide_eq_true (List.all_eq_true.1 hs0 r hr)
  have HSF := hid fun r hr => of_decide_eq_true (List.all_eq_true.1 hs1 r hr)
  clear h hs0 hs1
  go_enter Tryz.func4, Tryz.ntmps4
  go_wp2_with fail
  refine (HRE.out _).mono ?_
  rintro e w1 ⟨v1, u1, rfl, hv1, hu1, hB1⟩
  obtain ⟨A1, c1, rfl, _, _⟩ := list_form hv1
  obtain ⟨A2, c2, rfl, _, _⟩ := list_form hu1
  obtain ⟨wD, hwD⟩ : ∃ x, x = w1.alloc (.cells #[.int .i64 1, .int .i64 2, .int .i64 1, .int .i64 0, .slice A1 repairD.rules.length c1, .slice A2 repairD.finals.length c2] 27) := ⟨_, rfl⟩
  have hBD1 : Below w1.heap.size w1 wD := by rw [hwD]; exact (Below.refl _ w1).alloc (Nat.le_refl _) _
  have hX : wD.heap[w1.heap.size]? = some (.cells #[.int .i64 1, .int .i64 2, .int .i64 1, .int .i64 0, .slice A1 repairD.rules.length c1, .slice A2 repairD.finals.length c2] 27) := by rw [hwD]; exact heap_alloc_new _ _
  have HX := hid fun W (hW : Below wD.heap.size wD W) => six ((hW.block _ (Array.getElem?_eq_some_iff.1 hX).1).trans hX)
  have HBD := hid (low' hB1 hBD1)
  have HV := hid fun W (hW : Below wD.heap.size wD W) => (listR ruleR).below ((listR ruleR).below (rel_up hv1) hBD1 hBD1.size) hW hW.size
  have HU := hid fun W (hW : Below wD.heap.size wD W) => (listR finalR).below ((listR finalR).below (rel_up hu1) hBD1 hBD1.size) hW hW.size
  have HY := hid fun W (hW : Below wD.heap.size wD W) => bytesR.below HB0.out (low' HBD.out hW) (low' HBD.out hW).size
  obtain ⟨R, hR⟩ : ∃ R, R = repairD.rules := ⟨_, rfl⟩
  obtain ⟨F, hF⟩ : ∃ F, F = repairD.finals := ⟨_, rfl⟩
  have hDl : w1.heap.size < wD.heap.size := (Array.getElem?_eq_some_iff.1 hX).1
  have HB1 := hid (Below.refl wD.heap.size wD)
  go_wp2_with fail
  rw [← hwD]
  clear hB1 hBD1 hv1 hu1 hX
  refine (HCH.out _ _ _ (HV.out _ HB1.out) (HU.out _ HB1.out)).mono ?_
  rintro e w2 ⟨rfl, hB2⟩
  have HB2 := hid (low' HB1.out hB2)
  clear hB2
  obtain ⟨p0, p1, p2, p3, p4, p5⟩ := HX.out _ HB2.out
  go_wp2_with fail
  clear p0 p1 p2 p3 p4 p5
  refine (HFR.out _ _ _ (HV.out _ HB2.out) (HU.out _ HB2.out)).mono ?_
  rintro e w3 ⟨rfl, hB3⟩
  have HB3 := hid (low' HB2.out hB3)
  clear hB3
  obtain ⟨p0, p1, p2, p3, p4, p5⟩ := HX.out _ HB3.out
  go_wp2_with fail
  clear p0 p1 p2 p3 p4 p5
  refine (HWD.out _ _ _ (HV.out _ HB3.out) (HU.out _ HB3.out)).mono ?_
  rintro e w4 ⟨rfl, hB4⟩
  have HB4 := hid (low' HB3.out hB4)
  clear hB4
  obtain ⟨p0, p1, p2, p3, p4, p5⟩ := HX.out _ HB4.out
  go_wp2_with fail
  clear p0 p1 p2 p3 p4 p5
  refine (HAH.out _ _ _ (HV.out _ HB4.out) (HU.out _ HB4.out)).mono ?_
  rintro e w5 ⟨rfl, hB5⟩
  have HB5 := hid (low' HB4.out hB5)
  clear hB5
  by_cases hl : b.length ≤ 60
  · have hl' : ¬ (60 : Int) < b.length := by omega
    obtain ⟨p0, p1, p2, p3, p4, p5⟩ := HX.out _ HB5.out
    go_wp2_with fail
    clear p0 p1 p2 p3 p4 p5
    rw [← hR] at HX HV HSR H1 hl0
    rw [← hF] at HX HU HSF H1 hl1
    clear hwD hR hF
    go_loopw [4] (fun vs wr => ∃ s : Nat, s ≤ 1 ∧ vs = .int .i64 s ∧ Below wD.heap.size wD wr) (fun vs _ => 1 - (intOf vs).toNat)
    case atStart => exact ⟨0, Nat.zero_le _, rfl, HB5.out⟩
    case round =>
      obtain ⟨s, hs, rfl, hB⟩ := hrel
      obtain ⟨wa, hwa⟩ : ∃ x, x = wr := ⟨_, rfl⟩
      subst hwa
      have HBa := hid hB
      obtain ⟨p0, p1, p2, p3, p4, p5⟩ := HX.out _ hB
      clear hB
      by_cases hs1 : s < 1
      · obtain rfl : s = 0 := by omega
        go_wp2_with fail
        clear p0 p1 p2 p3 p4 p5
        go_loopw [5] (fun vn wr => ∃ n : Nat, n ≤ b.length + 1 ∧ vn = .int .i64 n ∧ Below wD.heap.size wD wr) (fun vn _ => b.length + 1 - (intOf vn).toNat)
        case atStart => exact ⟨0, Nat.zero_le _, rfl, HBa.out⟩
        case round =>
          obtain ⟨n, hn, rfl, hB⟩ := hrel
          obtain ⟨wb, hwb⟩ : ∃ x, x = wr := ⟨_, rfl⟩
          subst hwb
          have HBb := hid hB
          clear hB
          by_cases hn1 : n ≤ b.length
          · have hn1' : (n : Int) ≤ b.length := by omega
            go_wp2_with fail
            go_loopw [6, 7] (fun vm vi wr => ∃ i m : Nat, i ≤ R.length ∧ vi = .int .i64 i ∧ vm = .int .i64 m ∧ m = (R.take i).countP (fun r => mayO (b.drop n) (ruleOpt r)) ∧ Below wD.heap.size wD wr) (fun _ vi _ => R.length - (intOf vi).toNat)
            case atStart => exact ⟨0, 0, Nat.zero_le _, rfl, rfl, rfl, HBb.out⟩
            case round =>
              obtain ⟨i, m, hi, rfl, rfl, hm, hB⟩ := hrel
              obtain ⟨wc, hwc⟩ : ∃ x, x = wr := ⟨_, rfl⟩
              subst hwc
              have HBc := hid hB
              obtain ⟨p0, p1, p2, p3, p4, p5⟩ := HX.out _ hB
              have hDc : w1.heap.size < wc.heap.size := Nat.lt_of_lt_of_le hDl hB.size
              clear hB
              by_cases hi1 : i < R.length
              · obtain ⟨x, hx⟩ := at_lt hi1
                have hi1' : (i : Int) < R.length := by omega
                obtain ⟨e0, eg⟩ := HSR.out x (List.mem_of_getElem? hx)
                obtain ⟨bb, o, y, z, rfl, hbb, q1, q2, q3, q4, q5, _, hyg, hzt⟩ := rule_at (HV.out _ HBc.out) hx
                rw [e0] at q1
                have HFX0 := hid fun (hl : x.guards.length ≤ b.length - n) W (hW : Below wc.heap.size wc W) => HFT.out x.guards n y (.slice (if c = n then A else A.map (·.add n)) (b.length - n) (c - n)) W (by rw [List.length_drop]; exact hl) ((listR spansR).below hyg hW hW.size) (bytes_from (HY.out _ (low' HBc.out hW)) hn1)
                have hmn : m + 1 ≤ 1000000 := by rw [hm]; have h1 := List.countP_le_length (p := fun r => mayO (b.drop n) (ruleOpt r)) (l := R.take i); have h2 := hl0; rw [List.length_take] at h1; omega
                have HSN := hid (count_snoc (p := fun r => mayO (b.drop n) (ruleOpt r)) hx)
                have HM := hid hm
                have hbc : bb < wc.heap.size := hbb
                obtain ⟨A3, c3, rfl, _, hg3⟩ := list_form hyg
                clear hx hyg hzt hm
                by_cases c1 : x.guards.length ≤ b.length - n
                · have c1' : (x.guards.length : Int) ≤ (b.length : Int) - n := by omega
                  have hcn : ¬ c = n := by omega
                  have HMO : Hid (mayO (b.drop n) (ruleOpt x) = fitL x.guards (b.drop n)) := hid (by unfold mayO; rw [show (ruleOpt x).src = 0 from e0, show (ruleOpt x).guards = x.guards from rfl]; simp [ruleOpt, List.length_drop])
                  have HFX := hid (HFX0.out (by omega))
                  obtain ⟨t, ht⟩ : ∃ t, t = fitL x.guards (b.drop n) := ⟨_, rfl⟩
                  rw [← ht] at HFX HMO
                  clear HFX0 ht c1
                  rw [if_neg hcn] at HFX
                  go_wp2_with fail
                  obtain ⟨ι, Wc, ⟨i0, hi0'⟩, hWc, Wsur⟩ := held_class wc.drew (fun q => q = w1.heap.size ∨ q = bb)
                  have hne : Nonempty ι := ⟨i0⟩
                  have WS := hid Wsur; clear Wsur
                  have HWc := hid hWc; clear hWc
                  have Hi0 := hid hi0'; clear hi0'
                  have g1 : ∀ i, (Wc i).cell? ⟨w1.heap.size, 4, none⟩ = some _ := fun i => (World.cell?_of_block (a := ⟨w1.heap.size, 4, none⟩) (HWc.out i _ (.inl rfl))).trans p4
                  have g2 : ∀ j, (Wc j).cell? ⟨bb, o + i * 5, none⟩ = some _ := fun j => (World.cell?_of_block (a := ⟨bb, o + i * 5, none⟩) (HWc.out j _ (.inr rfl))).trans q1
                  have g3 : ∀ j, (Wc j).cell? ⟨bb, o + i * 5 + 2, none⟩ = some _ := fun j => (World.cell?_of_block (a := ⟨bb, o + i * 5 + 2, none⟩) (HWc.out j _ (.inr rfl))).trans q3
                  refine region_anyL (S := fun w' => ∃ i, w' = Wc i) (last := 34) (by kernel_rfl) ?_
                  refine anyL_seg 0 32 (by kernel_rfl) (fun _ _ _ _ _ h => h) ⟨i0, Hi0.out.symm⟩ (f := 2) rfl (by kernel_rfl) (by kernel_rfl) ?_
                  simp only [List.drop_zero, List.take_succ_cons, List.take_zero]
                  repeat go_big_quiet_step (fail)
                  refine wpQuiet_nil ?_
                  refine anyL_actG (i := 32) (by kernel_rfl) rfl (by rfl) ?_
                  intro K hK
                  go_wp2_with fail
                  have hBd : Below wc.heap.size wc wc.drew := have h := Below.refl wc.heap.size wc; ⟨h.os, h.tape, h.output, h.size, h.block⟩
                  refine (HFX.out _ hBd).mono ?_
                  rintro e w6 ⟨rfl, hB6⟩
                  have hB6' : Below wc.heap.size wc w6 := hBd.trans hB6
                  have HB6 := hid (low' HBc.out hB6')
                  have hS1 : ∃ i, w6 = Wc i := WS.out _ fun q hq => hq.elim (fun e => by rw [e]; exact hB6'.block _ hDc) (fun e => by rw [e]; exact hB6'.block _ hbc)
                  clear hB6 hBd
                  go_wp2_with fail
                  refine hK.out _ _ (fun _ => hS1) ?_
                  clear hK K hB6'
                  refine anyL_seg 33 1 (by kernel_rfl) (fun _ _ _ _ _ h => h) hS1 (f := 0) rfl (by kernel_rfl) (by kernel_rfl) ?_
                  simp only [List.drop_succ_cons, List.drop_zero, List.take_succ_cons, List.take_zero]
                  repeat go_big_quiet_step (fail)
                  refine wpQuiet_nil ?_
                  refine anyL_done (by kernel_rfl) ?_ 0
                  clear hS1 g1 g2 g3 WS HWc Hi0 hne i0 Wc ι
                  cases t with
                  | true =>
                    go_wp2_with fail
                    go_simp
                    exact ⟨⟨i + 1, by omega, by push_cast; rfl, m + 1, by push_cast; rfl, by rw [HSN.out, HMO.out, if_pos rfl, HM.out], HB6.out⟩, by simp [intOf]; omega⟩
                  | false =>
                    go_wp2_with fail
                    go_simp
                    exact ⟨⟨i + 1, by omega, by push_cast; rfl, m, rfl, by rw [HSN.out, HMO.out, HM.out]; rfl, HB6.out⟩, by simp [intOf]; omega⟩
                · have c1' : ¬ (x.guards.length : Int) ≤ (b.length : Int) - n := by omega
                  have c1'' : decide ((x.guards.length : Int) ≤ (b.length : Int) - n) = false := decide_eq_false c1'
                  have HMO : Hid (mayO (b.drop n) (ruleOpt x) = false) := hid (by unfold mayO; rw [show (ruleOpt x).guards = x.guards from rfl]; cases hf : fitL x.guards (b.drop n) with | false => simp | true => exact absurd (by have := ((fitL_iff (fun z hz => hy.sym z (List.mem_of_mem_drop hz))).1 hf).1; rw [List.length_drop] at this; exact this) c1)
                  clear HFX0 c1
                  go_wp2_with fail
                  obtain ⟨ι, Wc, ⟨i0, hi0'⟩, hWc, Wsur⟩ := held_class wc.drew (fun q => q = w1.heap.size ∨ q = bb)
                  have hne : Nonempty ι := ⟨i0⟩
                  have WS := hid Wsur; clear Wsur
                  have HWc := hid hWc; clear hWc
                  have Hi0 := hid hi0'; clear hi0'
                  have g1 : ∀ i, (Wc i).cell? ⟨w1.heap.size, 4, none⟩ = some _ := fun i => (World.cell?_of_block (a := ⟨w1.heap.size, 4, none⟩) (HWc.out i _ (.inl rfl))).trans p4
                  have g2 : ∀ j, (Wc j).cell? ⟨bb, o + i * 5, none⟩ = some _ := fun j => (World.cell?_of_block (a := ⟨bb, o + i * 5, none⟩) (HWc.out j _ (.inr rfl))).trans q1
                  have g3 : ∀ j, (Wc j).cell? ⟨bb, o + i * 5 + 2, none⟩ = some _ := fun j => (World.cell?_of_block (a := ⟨bb, o + i * 5 + 2, none⟩) (HWc.out j _ (.inr rfl))).trans q3
                  refine region_anyL (S := fun w' => ∃ i, w' = Wc i) (last := 34) (by kernel_rfl) ?_
                  refine anyL_seg 0 32 (by kernel_rfl) (fun _ _ _ _ _ h => h) ⟨i0, Hi0.out.symm⟩ (f := 2) rfl (by kernel_rfl) (by kernel_rfl) ?_
                  simp only [List.drop_zero, List.take_succ_cons, List.take_zero]
                  repeat go_big_quiet_step (fail)
                  refine wpQuiet_nil ?_
                  have hS1 : ∃ i, wc.drew = Wc i := ⟨i0, Hi0.out.symm⟩
                  refine anyL_skip (i := 32) (by kernel_rfl) rfl (by rfl) hS1 ?_
                  have HB6 := hid (HBc.out.trans (have h := Below.refl wD.heap.size wc; (⟨h.os, h.tape, h.output, h.size, h.block⟩ : Below wD.heap.size wc wc.drew)))
                  go_simp
                  refine anyL_seg 33 1 (by kernel_rfl) (fun _ _ _ _ _ h => h) hS1 (f := 0) rfl (by kernel_rfl) (by kernel_rfl) ?_
                  simp only [List.drop_succ_cons, List.drop_zero, List.take_succ_cons, List.take_zero]
                  repeat go_big_quiet_step (fail)
                  refine wpQuiet_nil ?_
                  refine anyL_done (by kernel_rfl) ?_ 0
                  clear hS1 g1 g2 g3 WS HWc Hi0 hne i0 Wc ι
                  go_wp2_with fail
                  go_simp
                  exact ⟨⟨i + 1, by omega, by push_cast; rfl, m, rfl, by rw [HSN.out, HMO.out, HM.out]; rfl, HB6.out⟩, by simp [intOf]; omega⟩
              · obtain rfl : i = R.length := by omega
                have hi1' : ¬ (R.length : Int) < R.length := by omega
                rw [List.take_length] at hm
                have HM := hid hm
                clear hm
                go_wp2_with fail
                go_loopw [6, 8] (fun vm vi wr => ∃ i m : Nat, i ≤ F.length ∧ vi = .int .i64 i ∧ vm = .int .i64 m ∧ m = R.countP (fun r => mayO (b.drop n) (ruleOpt r)) + (F.take i).countP (fun f => mayO (b.drop n) (finalOpt f)) ∧ Below wD.heap.size wD wr) (fun _ vi _ => F.length - (intOf vi).toNat)
                case atStart => exact ⟨0, m, Nat.zero_le _, rfl, rfl, by rw [HM.out]; simp, HBc.out⟩
                case round =>
                  clear HM p0 p1 p2 p3 p4 p5 hDc HBc
                  obtain ⟨i, m, hi, rfl, rfl, hm, hB⟩ := hrel
                  obtain ⟨wc, hwc⟩ : ∃ x, x = wr := ⟨_, rfl⟩
                  subst hwc
                  have HBc := hid hB
                  obtain ⟨p0, p1, p2, p3, p4, p5⟩ := HX.out _ hB
                  have hDc : w1.heap.size < wc.heap.size := Nat.lt_of_lt_of_le hDl hB.size
                  clear hB
                  by_cases hi1 : i < F.length
                  · obtain ⟨x, hx⟩ := at_lt hi1
                    have hi1' : (i : Int) < F.length := by omega
                    have e0 := HSF.out x (List.mem_of_getElem? hx)
                    obtain ⟨bb, o, y, z, rfl, hbb, q1, q3, q5, _, hyg, hzt⟩ := final_at (HU.out _ HBc.out) hx
                    rw [e0] at q1
                    have HFX0 := hid fun (hl : x.guards.length ≤ b.length - n) W (hW : Below wc.heap.size wc W) => HFT.out x.guards n y (.slice (if c = n then A else A.map (·.add n)) (b.length - n) (c - n)) W (by rw [List.length_drop]; exact hl) ((listR spansR).below hyg hW hW.size) (bytes_from (HY.out _ (low' HBc.out hW)) hn1)
                    have hmn : m + 1 ≤ 1000000 := by rw [hm]; have h1 := List.countP_le_length (p := fun r => mayO (b.drop n) (finalOpt r)) (l := F.take i); have h2 := hl1; have h3 := List.countP_le_length (p := fun r => mayO (b.drop n) (ruleOpt r)) (l := R); rw [List.length_take] at h1; omega
                    have HSN := hid (count_snoc (p := fun r => mayO (b.drop n) (finalOpt r)) hx)
                    have HM := hid hm
                    have hbc : bb < wc.heap.size := hbb
                    obtain ⟨A3, c3, rfl, _, hg3⟩ := list_form hyg
                    clear hx hyg hzt hm
                    by_cases c1 : x.guards.length = b.length - n
                    · have c1' := beq_t (show (x.guards.length : Int) = (b.length : Int) - n by omega)
                      have HMO : Hid (mayO (b.drop n) (finalOpt x) = fitL x.guards (b.drop n)) := hid (by unfold mayO; rw [show (finalOpt x).src = 0 from e0, show (finalOpt x).guards = x.guards from rfl]; simp [finalOpt, List.length_drop, c1])
                      have HFX := hid (HFX0.out (by omega))
                      obtain ⟨t, ht⟩ : ∃ t, t = fitL x.guards (b.drop n) := ⟨_, rfl⟩
                      rw [← ht] at HFX HMO
                      clear HFX0 ht c1
                      rcases Classical.em (c = n) with hcn | hcn
                      · subst hcn
                        have h0 : b.length - c = 0 := by omega
                        rw [if_pos rfl, Nat.sub_self, h0] at HFX
                        go_wp2_with fail
                        obtain ⟨ι, Wc, ⟨i0, hi0'⟩, hWc, Wsur⟩ := held_class wc.drew (fun q => q = w1.heap.size ∨ q = bb)
                        have hne : Nonempty ι := ⟨i0⟩
                        have WS := hid Wsur; clear Wsur
                        have HWc := hid hWc; clear hWc
                        have Hi0 := hid hi0'; clear hi0'
                        have g1 : ∀ i, (Wc i).cell? ⟨w1.heap.size, 5, none⟩ = some _ := fun i => (World.cell?_of_block (a := ⟨w1.heap.size, 5, none⟩) (HWc.out i _ (.inl rfl))).trans p5
                        have g2 : ∀ j, (Wc j).cell? ⟨bb, o + i * 3, none⟩ = some _ := fun j => (World.cell?_of_block (a := ⟨bb, o + i * 3, none⟩) (HWc.out j _ (.inr rfl))).trans q1
                        have g3 : ∀ j, (Wc j).cell? ⟨bb, o + i * 3 + 1, none⟩ = some _ := fun j => (World.cell?_of_block (a := ⟨bb, o + i * 3 + 1, none⟩) (HWc.out j _ (.inr rfl))).trans q3
                        refine region_anyL (S := fun w' => ∃ i, w' = Wc i) (last := 34) (by kernel_rfl) ?_
                        refine anyL_seg 0 32 (by kernel_rfl) (fun _ _ _ _ _ h => h) ⟨i0, Hi0.out.symm⟩ (f := 2) rfl (by kernel_rfl) (by kernel_rfl) ?_
                        simp only [List.drop_zero, List.take_succ_cons, List.take_zero]
                        repeat go_big_quiet_step (fail)
                        refine wpQuiet_nil ?_
                        refine anyL_actG (i := 32) (by kernel_rfl) rfl (by rfl) ?_
                        intro K hK
                        go_wp2_with fail
                        have hBd : Below wc.heap.size wc wc.drew := have h := Below.refl wc.heap.size wc; ⟨h.os, h.tape, h.output, h.size, h.block⟩
                        refine (HFX.out _ hBd).mono ?_
                        rintro e w6 ⟨rfl, hB6⟩
                        have hB6' : Below wc.heap.size wc w6 := hBd.trans hB6
                        have HB6 := hid (low' HBc.out hB6')
                        have hS1 : ∃ i, w6 = Wc i := WS.out _ fun q hq => hq.elim (fun e => by rw [e]; exact hB6'.block _ hDc) (fun e => by rw [e]; exact hB6'.block _ hbc)
                        clear hB6 hBd
                        go_wp2_with fail
                        refine hK.out _ _ (fun _ => hS1) ?_
                        clear hK K hB6'
                        refine anyL_seg 33 1 (by kernel_rfl) (fun _ _ _ _ _ h => h) hS1 (f := 0) rfl (by kernel_rfl) (by kernel_rfl) ?_
                        simp only [List.drop_succ_cons, List.drop_zero, List.take_succ_cons, List.take_zero]
                        repeat go_big_quiet_step (fail)
                        refine wpQuiet_nil ?_
                        refine anyL_done (by kernel_rfl) ?_ 0
                        clear hS1 g1 g2 g3 WS HWc Hi0 hne i0 Wc ι
                        cases t with
                        | true =>
                          go_wp2_with fail
                          go_simp
                          exact ⟨⟨i + 1, by omega, by push_cast; rfl, m + 1, by push_cast; rfl, by rw [HSN.out, HMO.out, if_pos rfl, HM.out]; omega, HB6.out⟩, by simp [intOf]; omega⟩
                        | false =>
                          go_wp2_with fail
                          go_simp
                          exact ⟨⟨i + 1, by omega, by push_cast; rfl, m, rfl, by rw [HSN.out, HMO.out, HM.out]; rfl, HB6.out⟩, by simp [intOf]; omega⟩
                      · rw [if_neg hcn] at HFX
                        go_wp2_with fail
                        obtain ⟨ι, Wc, ⟨i0, hi0'⟩, hWc, Wsur⟩ := held_class wc.drew (fun q => q = w1.heap.size ∨ q = bb)
                        have hne : Nonempty ι := ⟨i0⟩
                        have WS := hid Wsur; clear Wsur
                        have HWc := hid hWc; clear hWc
                        have Hi0 := hid hi0'; clear hi0'
                        have g1 : ∀ i, (Wc i).cell? ⟨w1.heap.size, 5, none⟩ = some _ := fun i => (World.cell?_of_block (a := ⟨w1.heap.size, 5, none⟩) (HWc.out i _ (.inl rfl))).trans p5
                        have g2 : ∀ j, (Wc j).cell? ⟨bb, o + i * 3, none⟩ = some _ := fun j => (World.cell?_of_block (a := ⟨bb, o + i * 3, none⟩) (HWc.out j _ (.inr rfl))).trans q1
                        have g3 : ∀ j, (Wc j).cell? ⟨bb, o + i * 3 + 1, none⟩ = some _ := fun j => (World.cell?_of_block (a := ⟨bb, o + i * 3 + 1, none⟩) (HWc.out j _ (.inr rfl))).trans q3
                        refine region_anyL (S := fun w' => ∃ i, w' = Wc i) (last := 34) (by kernel_rfl) ?_
                        refine anyL_seg 0 32 (by kernel_rfl) (fun _ _ _ _ _ h => h) ⟨i0, Hi0.out.symm⟩ (f := 2) rfl (by kernel_rfl) (by kernel_rfl) ?_
                        simp only [List.drop_zero, List.take_succ_cons, List.take_zero]
                        repeat go_big_quiet_step (fail)
                        refine wpQuiet_nil ?_
                        refine anyL_actG (i := 32) (by kernel_rfl) rfl (by rfl) ?_
                        intro K hK
                        go_wp2_with fail
                        have hBd : Below wc.heap.size wc wc.drew := have h := Below.refl wc.heap.size wc; ⟨h.os, h.tape, h.output, h.size, h.block⟩
                        refine (HFX.out _ hBd).mono ?_
                        rintro e w6 ⟨rfl, hB6⟩
                        have hB6' : Below wc.heap.size wc w6 := hBd.trans hB6
                        have HB6 := hid (low' HBc.out hB6')
                        have hS1 : ∃ i, w6 = Wc i := WS.out _ fun q hq => hq.elim (fun e => by rw [e]; exact hB6'.block _ hDc) (fun e => by rw [e]; exact hB6'.block _ hbc)
                        clear hB6 hBd
                        go_wp2_with fail
                        refine hK.out _ _ (fun _ => hS1) ?_
                        clear hK K hB6'
                        refine anyL_seg 33 1 (by kernel_rfl) (fun _ _ _ _ _ h => h) hS1 (f := 0) rfl (by kernel_rfl) (by kernel_rfl) ?_
                        simp only [List.drop_succ_cons, List.drop_zero, List.take_succ_cons, List.take_zero]
                        repeat go_big_quiet_step (fail)
                        refine wpQuiet_nil ?_
                        refine anyL_done (by kernel_rfl) ?_ 0
                        clear hS1 g1 g2 g3 WS HWc Hi0 hne i0 Wc ι
                        cases t with
                        | true =>
                          go_wp2_with fail
                          go_simp
                          exact ⟨⟨i + 1, by omega, by push_cast; rfl, m + 1, by push_cast; rfl, by rw [HSN.out, HMO.out, if_pos rfl, HM.out]; omega, HB6.out⟩, by simp [intOf]; omega⟩
                        | false =>
                          go_wp2_with fail
                          go_simp
                          exact ⟨⟨i + 1, by omega, by push_cast; rfl, m, rfl, by rw [HSN.out, HMO.out, HM.out]; rfl, HB6.out⟩, by simp [intOf]; omega⟩
                    · have c1' := beq_f (show ¬ (x.guards.length : Int) = (b.length : Int) - n by omega)
                      have HMO : Hid (mayO (b.drop n) (finalOpt x) = false) := hid (by unfold mayO; simp [finalOpt, List.length_drop, c1])
                      clear HFX0 c1
                      go_wp2_with fail
                      obtain ⟨ι, Wc, ⟨i0, hi0'⟩, hWc, Wsur⟩ := held_class wc.drew (fun q => q = w1.heap.size ∨ q = bb)
                      have hne : Nonempty ι := ⟨i0⟩
                      have WS := hid Wsur; clear Wsur
                      have HWc := hid hWc; clear hWc
                      have Hi0 := hid hi0'; clear hi0'
                      have g1 : ∀ i, (Wc i).cell? ⟨w1.heap.size, 5, none⟩ = some _ := fun i => (World.cell?_of_block (a := ⟨w1.heap.size, 5, none⟩) (HWc.out i _ (.inl rfl))).trans p5
                      have g2 : ∀ j, (Wc j).cell? ⟨bb, o + i * 3, none⟩ = some _ := fun j => (World.cell?_of_block (a := ⟨bb, o + i * 3, none⟩) (HWc.out j _ (.inr rfl))).trans q1
                      have g3 : ∀ j, (Wc j).cell? ⟨bb, o + i * 3 + 1, none⟩ = some _ := fun j => (World.cell?_of_block (a := ⟨bb, o + i * 3 + 1, none⟩) (HWc.out j _ (.inr rfl))).trans q3
                      refine region_anyL (S := fun w' => ∃ i, w' = Wc i) (last := 34) (by kernel_rfl) ?_
                      refine anyL_seg 0 32 (by kernel_rfl) (fun _ _ _ _ _ h => h) ⟨i0, Hi0.out.symm⟩ (f := 2) rfl (by kernel_rfl) (by kernel_rfl) ?_
                      simp only [List.drop_zero, List.take_succ_cons, List.take_zero]
                      repeat go_big_quiet_step (fail)
                      refine wpQuiet_nil ?_
                      have hS1 : ∃ i, wc.drew = Wc i := ⟨i0, Hi0.out.symm⟩
                      refine anyL_skip (i := 32) (by kernel_rfl) rfl (by rfl) hS1 ?_
                      have HB6 := hid (HBc.out.trans (have h := Below.refl wD.heap.size wc; (⟨h.os, h.tape, h.output, h.size, h.block⟩ : Below wD.heap.size wc wc.drew)))
                      go_simp
                      refine anyL_seg 33 1 (by kernel_rfl) (fun _ _ _ _ _ h => h) hS1 (f := 0) rfl (by kernel_rfl) (by kernel_rfl) ?_
                      simp only [List.drop_succ_cons, List.drop_zero, List.take_succ_cons, List.take_zero]
                      repeat go_big_quiet_step (fail)
                      refine wpQuiet_nil ?_
                      refine anyL_done (by kernel_rfl) ?_ 0
                      clear hS1 g1 g2 g3 WS HWc Hi0 hne i0 Wc ι
                      go_wp2_with fail
                      go_simp
                      exact ⟨⟨i + 1, by omega, by push_cast; rfl, m, rfl, by rw [HSN.out, HMO.out, HM.out]; rfl, HB6.out⟩, by simp [intOf]; omega⟩
                  · obtain rfl : i = F.length := by omega
                    have hi1' : ¬ (F.length : Int) < F.length := by omega
                    rw [List.take_length] at hm
                    have hm1 : m ≤ 1 := by rw [hm]; exact H1.out n
                    have hm1' : ¬ (1 : Int) < m := by omega
                    have hm2 : ¬ 1 < m := by omega
                    have hm3 : decide (1 < m) = false := decide_eq_false hm2
                    clear hm
                    go_wp2_with fail
                    exact ⟨⟨_, _, _, _, _, _, _, _, _, _, _, _, _, _, _, _, _, _, _, _, _, _, _, _, _, _, _, _, _, _, _, _, _, _, _, _, _, _, _, _, _, _, _, _, _, _, _, _, _, _, _, _, _, _, _, _, _, _, _, _, _, _, _, _, _, _, _, _, _, _, _, _, _, _, _, _, _, _, _, _, _, _, _, _, _, _, _, _, _, _, _, _, _, _, _, _, _, _, _, ⟨n + 1, by omega, by push_cast; rfl, HBc.out⟩, rfl⟩, by simp [intOf]; omega⟩
          · have hn1' : ¬ (n : Int) ≤ b.length := by omega
            go_wp2_with fail
            exact ⟨⟨1, Nat.le_refl _, by simp, HBb.out⟩, by simp [intOf]⟩
      · obtain rfl : s = 1 := by omega
        go_wp2_with fail
        refine (HAW.out _).mono ?_
        rintro e w6 ⟨rfl, hB6⟩
        have HB6 := hid (low' HBa.out hB6)
        clear hB6
        go_wp2_with fail
        go_ret
        exact ⟨rfl, low' HBD.out HB6.out⟩
  · have hl' : (60 : Int) < b.length := by omega
    obtain ⟨p0, p1, p2, p3, p4, p5⟩ := HX.out _ HB5.out
    go_wp2_with fail
    refine (HAW.out _).mono ?_
    rintro e w6 ⟨rfl, hB6⟩
    have HB6 := hid (low' HB5.out hB6)
    clear hB6
    go_wp2_with fail
    go_ret
    exact ⟨rfl, low' HBD.out HB6.out⟩
theorem bytes_byte {w : World} {S : Nat → Prop} {v : Value} {b : List Int} (h : bytesR.rel w S [v] b) : byteL b := fun z hz => by
  obtain ⟨A, c, rfl, _, _⟩ := list_form h
  obtain ⟨i, hi⟩ := List.mem_iff_getElem?.1 hz
  obtain ⟨_, _, _, _, _, h0, h1⟩ := byte_at h hi
  exact ⟨h0, h1⟩
theorem shape_row (b : List Int) (v : Value) (w : World) (h : bytesR.rel w (upto w.heap.size) [v] b) : Calls Tryz.prog 4 #[v] w fun e w' => e = .returned (.bool true) ∧ Below w.heap.size w w' := shape_law b (bytes_byte h) v w h
end Go.Proofs.YthfcbbdghggefaaGreat
