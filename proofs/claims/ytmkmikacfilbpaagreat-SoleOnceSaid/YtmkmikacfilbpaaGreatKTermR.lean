/-
  The program's term.Right.
-/
import Derived.Test.YtmkmikacfilbpaaGreatKTermW
namespace Go.Proofs.YtmkmikacfilbpaaGreat
open Go.Proofs Go.Um Go.RowKit
theorem anyL_skipD {P : Program} {md : Region.Mode} {ops : Array Oper} {Q : Exit → Act → World → Prop} {S : World → Prop} {last : Nat} {i f : Nat} {o : Oper} {listed : Array Bool} {a : Act} {w : World} (hr : Region.ready md ops listed = [i]) (ho : ops[i]? = some o) (hd : a.put o.dst undef = a) (hg : Region.wanted o (yielded ops a.tmps) = false) (hS : S w)
    (h : anyL P md ops Q S last f (listed.setIfInBounds i true) a w) : anyL P md ops Q S last (f + 1) listed a w := anyL_skip hr ho hg hS (by rw [hd]; exact h)
theorem domF_sort {s : Int} (h : s = 1 ∨ s = 2) : (((domF s).length : Int) == 0) = false := by
  rcases h with rfl | rfl <;> rfl
theorem domF_none {s : Int} (h : ¬ (s = 1 ∨ s = 2)) : domF s = [] := by
  unfold domF; rw [if_neg (by omega), if_neg (by omega)]
/-- a part's four cells in a later world. -/
theorem box4 {w W : World} {x0 x1 x2 x3 : Value} {t : TypeId} (hB : Below (w.heap.size + 1) (w.alloc (.cells #[x0, x1, x2, x3] t)) W) :
    W.cell? ⟨w.heap.size, 0, none⟩ = some x0 ∧ W.cell? ⟨w.heap.size, 1, none⟩ = some x1 ∧ W.cell? ⟨w.heap.size, 2, none⟩ = some x2 ∧ W.cell? ⟨w.heap.size, 3, none⟩ = some x3 :=
  ⟨(hB.cell (p := ⟨w.heap.size, 0, none⟩) (by simp)).trans (by go_simp), (hB.cell (p := ⟨w.heap.size, 1, none⟩) (by simp)).trans (by go_simp), (hB.cell (p := ⟨w.heap.size, 2, none⟩) (by simp)).trans (by go_simp), (hB.cell (p := ⟨w.heap.size, 3, none⟩) (by simp)).trans (by go_simp)⟩
set_option maxHeartbeats 2000000 in
set_option maxRecDepth 100000 in
theorem tRight_calls (t : Term) (v : Value) (inn out n : Int) (w : World) (h : (listR partR).rel w (upto w.heap.size) [v] t.parts) : Calls Tryz.prog 147 #[tval t v, .int .i64 inn, .int .i64 out, .int .i64 n] w fun e w' => e = .returned (.bool (rightF t inn out n)) ∧ Below w.heap.size w w' := by
  obtain ⟨A, c, rfl, hc, hm⟩ := list_form h
  unfold maxLen at hm
  have HN := hid fun W (hW : Below w.heap.size w W) => numbers_calls t (.slice A t.parts.length c) W ((listR partR).below h hW hW.size)
  have HP := hid fun W => plain_calls t (.slice A t.parts.length c) W
  have HF : Hid (rightF t inn out n = (sortF inn && sortF out && numbersF t && t.parts.all (fun p => rightP p n && decide (inn = 2 → p = wholeP p.at_)) && decide (inn = 2 → t.parts.length ≤ 1) && decide (out = 2 → plainT t = true))) := hid rfl
  unfold tval at HN HP ⊢
  obtain ⟨b, d, k, u, s, ps⟩ := t
  dsimp only at HN HP HF h hc ⊢
  by_cases hi : inn = 1 ∨ inn = 2
  · by_cases hO : out = 1 ∨ out = 2
    · have ei := domF_sort hi
      have eo := domF_sort hO
      have si : sortF inn = true := decide_eq_true hi
      have so : sortF out = true := decide_eq_true hO
      rw [si, so] at HF
      clear si so
      cases hn : numbersF ⟨b, d, k, u, s, ps⟩
      · rw [hn] at HN HF
        clear hi hO hn
        go_enter Tryz.func147, Tryz.ntmps147
        go_wp2_with fail
        refine (Domain_calls inn _).mono ?_
        rintro e w1 ⟨v1, rfl, ho1, hB1⟩
        obtain ⟨A1, c1, rfl, hc1, hm1⟩ := list_form ho1.rel
        clear ho1
        have hBw1 := ((Below.refl w.heap.size w).alloc (Nat.le_refl _) _).trans (hB1.mono (by simp))
        rw [World.size_alloc] at hB1
        go_wp2_with fail
        refine (Domain_calls out _).mono ?_
        rintro e w2 ⟨v2, rfl, ho2, hB2⟩
        obtain ⟨A2, c2, rfl, hc2, hm2⟩ := list_form ho2.rel
        clear ho2
        have hBw2 := hBw1.trans (hB2.mono hBw1.size)
        have hB12 := hB1.trans (hB2.mono (by have := hB1.size; simp at this; omega))
        obtain ⟨d0, d1, d2, d3, d4, d5⟩ := box6 hB12
        go_wp2_with fail
        refine (HN.out _ hBw2).mono ?_
        rintro e w3 ⟨rfl, hB3⟩
        have hBw3 := hBw2.trans (hB3.mono hBw2.size)
        have hB13 := hB12.trans (hB3.mono (by have := hB12.size; simp at this; omega))
        obtain ⟨g0, g1, g2, g3, g4, g5⟩ := box6 hB13
        have hlt3 : w.heap.size < w3.heap.size := by have := hB13.size; simp at this; omega
        clear d0 d1 d2 d3 d4 d5 hB1 hB2 hB3 hB12
        go_wp2_with fail
        go_ret
        exact ⟨by rw [HF.out]; rfl, hBw3⟩
      · rw [hn] at HN HF
        clear hi hO hn
        go_enter Tryz.func147, Tryz.ntmps147
        go_wp2_with fail
        refine (Domain_calls inn _).mono ?_
        rintro e w1 ⟨v1, rfl, ho1, hB1⟩
        obtain ⟨A1, c1, rfl, hc1, hm1⟩ := list_form ho1.rel
        clear ho1
        have hBw1 := ((Below.refl w.heap.size w).alloc (Nat.le_refl _) _).trans (hB1.mono (by simp))
        rw [World.size_alloc] at hB1
        go_wp2_with fail
        refine (Domain_calls out _).mono ?_
        rintro e w2 ⟨v2, rfl, ho2, hB2⟩
        obtain ⟨A2, c2, rfl, hc2, hm2⟩ := list_form ho2.rel
        clear ho2
        have hBw2 := hBw1.trans (hB2.mono hBw1.size)
        have hB12 := hB1.trans (hB2.mono (by have := hB1.size; simp at this; omega))
        obtain ⟨d0, d1, d2, d3, d4, d5⟩ := box6 hB12
        go_wp2_with fail
        refine (HN.out _ hBw2).mono ?_
        rintro e w3 ⟨rfl, hB3⟩
        have hBw3 := hBw2.trans (hB3.mono hBw2.size)
        have hB13 := hB12.trans (hB3.mono (by have := hB12.size; simp at this; omega))
        obtain ⟨g0, g1, g2, g3, g4, g5⟩ := box6 hB13
        have hlt3 : w.heap.size < w3.heap.size := by have := hB13.size; simp at this; omega
        clear d0 d1 d2 d3 d4 d5 hB1 hB2 hB3 hB12
        clear ei eo HN
        go_wp2_with fail
        go_loopw [29] (fun vi wr => ∃ k' : Nat, k' ≤ ps.length ∧ vi = .int .i64 k' ∧ Hid ((ps.drop k').all (fun p => rightP p n && decide (inn = 2 → p = wholeP p.at_)) = ps.all (fun p => rightP p n && decide (inn = 2 → p = wholeP p.at_))) ∧ Below w3.heap.size w3 wr) (fun vi _ => ps.length - (intOf vi).toNat)
        case atStart => exact ⟨0, Nat.zero_le _, rfl, hid rfl, Below.refl _ _⟩
        case round =>
          obtain ⟨j, hj, rfl, HR, hB⟩ := hrel
          obtain ⟨wo, hwo⟩ : ∃ wo, wo = wr := ⟨_, rfl⟩
          subst hwo
          have hBw : Below w.heap.size w wo := hBw3.trans (hB.mono hBw3.size)
          have hr := (listR partR).mono (below_cells hBw) (fun _ h => h) h
          by_cases hlt : j < ps.length
          · obtain ⟨x, hx⟩ := at_lt hlt
            have hlt' : (j : Int) < ps.length := by omega
            obtain ⟨bb, o, rfl, hb, p1, p2, p3, p4, hok⟩ := part_at hr hx
            have HR2 : Hid (((rightP x n && decide (inn = 2 → x = wholeP x.at_)) && (ps.drop (j + 1)).all (fun p => rightP p n && decide (inn = 2 → p = wholeP p.at_))) = ps.all (fun p => rightP p n && decide (inn = 2 → p = wholeP p.at_))) := hid (by have := HR.out; rw [drop_cons hx] at this; exact this)
            clear hx hr HR hb
            cases hrp : rightP x n
            · have hF : Hid (ps.all (fun p => rightP p n && decide (inn = 2 → p = wholeP p.at_)) = false) := hid (by rw [← HR2.out, hrp]; rfl)
              have HC := hid fun W => Right_calls x n W
              rw [hrp] at HC
              unfold pval at HC
              clear HR2 hrp
              go_wp2_with fail
              have ha0 : (wo.alloc (.cells #[.int .i64 x.at_, .int .i64 x.drop, .int .i64 x.take, .int .i64 x.up] 102)).heap.size = wo.heap.size + 1 := by simp
              have haB := (Below.refl wo.heap.size wo).alloc (Nat.le_refl _) (.cells #[.int .i64 x.at_, .int .i64 x.drop, .int .i64 x.take, .int .i64 x.up] 102)
              obtain ⟨l0, l1, l2, l3⟩ := box4 (Below.refl (wo.heap.size + 1) (wo.alloc (.cells #[.int .i64 x.at_, .int .i64 x.drop, .int .i64 x.take, .int .i64 x.up] 102)))
              generalize (wo.alloc (.cells #[.int .i64 x.at_, .int .i64 x.drop, .int .i64 x.take, .int .i64 x.up] 102)) = wa at *
              obtain ⟨ι, W, ⟨i0, hi0⟩, hW, Wsur⟩ := ext_class wa.drew
              have hne : Nonempty ι := ⟨i0⟩
              have WS := hid Wsur; clear Wsur
              have HW := hid hW; clear hW
              have Hi0 := hid hi0; clear hi0
              refine region_anyL (S := fun w' => ∃ i, w' = W i) (last := 15) (by kernel_rfl) ?_
              have hwd : wo.heap.size < wa.drew.heap.size := by show wo.heap.size < wa.heap.size; omega
              have M0 : ∀ i, (W i).cell? ⟨wo.heap.size, 0, none⟩ = some (.int .i64 x.at_) := fun i => ((HW.out i).cell (p := ⟨wo.heap.size, 0, none⟩) hwd).trans l0
              have M1 : ∀ i, (W i).cell? ⟨wo.heap.size, 1, none⟩ = some (.int .i64 x.drop) := fun i => ((HW.out i).cell (p := ⟨wo.heap.size, 1, none⟩) hwd).trans l1
              have M2 : ∀ i, (W i).cell? ⟨wo.heap.size, 2, none⟩ = some (.int .i64 x.take) := fun i => ((HW.out i).cell (p := ⟨wo.heap.size, 2, none⟩) hwd).trans l2
              have M3 : ∀ i, (W i).cell? ⟨wo.heap.size, 3, none⟩ = some (.int .i64 x.up) := fun i => ((HW.out i).cell (p := ⟨wo.heap.size, 3, none⟩) hwd).trans l3
              refine anyL_seg 0 2 (by kernel_rfl) (fun _ _ _ _ _ h => h) ⟨i0, Hi0.out.symm⟩ (f := 13) rfl (by kernel_rfl) (by kernel_rfl) ?_
              simp only [List.drop_zero, List.take_succ_cons, List.take_zero]
              repeat go_big_quiet_step (fail)
              refine wpQuiet_nil ?_
              refine anyL_act (i := 2) (by kernel_rfl) rfl rfl ?_
              intro K hK
              go_wp2_with fail
              refine (HC.out _).mono ?_
              rintro e w7 ⟨rfl, hB7⟩
              have hS7 := WS.out i0 w7 (by rw [Hi0.out]; exact hB7)
              have hB7' : Below wa.heap.size wa w7 := ⟨hB7.os, hB7.tape, hB7.output, hB7.size, hB7.block⟩
              have hsz7 : wo.heap.size < w7.heap.size := by have := hB7'.size; omega
              have m0 := (hB7'.cell (p := ⟨wo.heap.size, 0, none⟩) (show wo.heap.size < wa.heap.size by omega)).trans l0
              have m1 := (hB7'.cell (p := ⟨wo.heap.size, 1, none⟩) (show wo.heap.size < wa.heap.size by omega)).trans l1
              have m2 := (hB7'.cell (p := ⟨wo.heap.size, 2, none⟩) (show wo.heap.size < wa.heap.size by omega)).trans l2
              have m3 := (hB7'.cell (p := ⟨wo.heap.size, 3, none⟩) (show wo.heap.size < wa.heap.size by omega)).trans l3
              have hoa : Below wo.heap.size wo w7 := haB.trans (hB7'.mono (by omega))
              have hBw7 : Below w.heap.size w w7 := hBw.trans (hoa.mono hBw.size)
              have hB37 : Below w3.heap.size w3 w7 := hB.trans (hoa.mono hB.size)
              clear hB7 hoa
              go_wp2_with fail
              refine hK.out _ _ (fun _ => hS7) ?_
              clear hK K
              refine anyL_seg 3 8 (by kernel_rfl) (fun _ _ _ _ _ h => h) hS7 (f := 4) rfl (by kernel_rfl) (by kernel_rfl) ?_
              simp only [List.drop_succ_cons, List.drop_zero, List.take_succ_cons, List.take_zero]
              repeat go_big_quiet_step (fail)
              refine wpQuiet_nil ?_
              refine anyL_skip (i := 11) (by kernel_rfl) rfl (by rfl) hS7 ?_
              go_simp
              refine anyL_seg 12 3 (by kernel_rfl) (fun _ _ _ _ _ h => h) hS7 (f := 0) rfl (by kernel_rfl) (by kernel_rfl) ?_
              simp only [List.drop_succ_cons, List.drop_zero, List.take_succ_cons, List.take_zero]
              repeat go_big_quiet_step (fail)
              refine wpQuiet_nil ?_
              refine anyL_done (by kernel_rfl) ?_ 0
              go_wp2_with fail
              go_ret
              exact ⟨by rw [HF.out, hF.out]; simp, hBw7⟩
            · have HC := hid fun W => Right_calls x n W
              rw [hrp] at HC
              unfold pval at HC
              by_cases hi2 : inn = 2
              · have hi2' := beq_t hi2
                subst hi2
                by_cases hxw : x = wholeP x.at_
                · have HR3 : Hid ((ps.drop (j + 1)).all (fun p => rightP p n && decide ((2 : Int) = 2 → p = wholeP p.at_)) = ps.all (fun p => rightP p n && decide ((2 : Int) = 2 → p = wholeP p.at_))) := hid (by rw [← HR2.out, hrp, decide_eq_true (fun _ => hxw)]; rfl)
                  have hw := fun W => Whole_calls x.at_ W
                  unfold pval wholeP at hw
                  have e1 : x.drop = 0 := by rw [hxw]; rfl
                  have e2 : x.take = 21 := by rw [hxw]; rfl
                  have e3 : x.up = 0 := by rw [hxw]; rfl
                  have HC2 := hid hw
                  rw [e1, e2, e3] at HC
                  rw [e1] at p2
                  rw [e2] at p3
                  rw [e3] at p4
                  clear HR2 hrp hxw hw e1 e2 e3
                  go_wp2_with fail
                  have ha0 : (wo.alloc (.cells #[.int .i64 x.at_, .int .i64 0, .int .i64 21, .int .i64 0] 102)).heap.size = wo.heap.size + 1 := by simp
                  have haB := (Below.refl wo.heap.size wo).alloc (Nat.le_refl _) (.cells #[.int .i64 x.at_, .int .i64 0, .int .i64 21, .int .i64 0] 102)
                  obtain ⟨l0, l1, l2, l3⟩ := box4 (Below.refl (wo.heap.size + 1) (wo.alloc (.cells #[.int .i64 x.at_, .int .i64 0, .int .i64 21, .int .i64 0] 102)))
                  generalize (wo.alloc (.cells #[.int .i64 x.at_, .int .i64 0, .int .i64 21, .int .i64 0] 102)) = wa at *
                  obtain ⟨ι, W, ⟨i0, hi0⟩, hW, Wsur⟩ := ext_class wa.drew
                  have hne : Nonempty ι := ⟨i0⟩
                  have WS := hid Wsur; clear Wsur
                  have HW := hid hW; clear hW
                  have Hi0 := hid hi0; clear hi0
                  refine region_anyL (S := fun w' => ∃ i, w' = W i) (last := 15) (by kernel_rfl) ?_
                  have hwd : wo.heap.size < wa.drew.heap.size := by show wo.heap.size < wa.heap.size; omega
                  have M0 : ∀ i, (W i).cell? ⟨wo.heap.size, 0, none⟩ = some (.int .i64 x.at_) := fun i => ((HW.out i).cell (p := ⟨wo.heap.size, 0, none⟩) hwd).trans l0
                  have M1 : ∀ i, (W i).cell? ⟨wo.heap.size, 1, none⟩ = some (.int .i64 0) := fun i => ((HW.out i).cell (p := ⟨wo.heap.size, 1, none⟩) hwd).trans l1
                  have M2 : ∀ i, (W i).cell? ⟨wo.heap.size, 2, none⟩ = some (.int .i64 21) := fun i => ((HW.out i).cell (p := ⟨wo.heap.size, 2, none⟩) hwd).trans l2
                  have M3 : ∀ i, (W i).cell? ⟨wo.heap.size, 3, none⟩ = some (.int .i64 0) := fun i => ((HW.out i).cell (p := ⟨wo.heap.size, 3, none⟩) hwd).trans l3
                  refine anyL_seg 0 2 (by kernel_rfl) (fun _ _ _ _ _ h => h) ⟨i0, Hi0.out.symm⟩ (f := 13) rfl (by kernel_rfl) (by kernel_rfl) ?_
                  simp only [List.drop_zero, List.take_succ_cons, List.take_zero]
                  repeat go_big_quiet_step (fail)
                  refine wpQuiet_nil ?_
                  refine anyL_act (i := 2) (by kernel_rfl) rfl rfl ?_
                  intro K hK
                  go_wp2_with fail
                  refine (HC.out _).mono ?_
                  rintro e w7 ⟨rfl, hB7⟩
                  have hS7 := WS.out i0 w7 (by rw [Hi0.out]; exact hB7)
                  have hB7' : Below wa.heap.size wa w7 := ⟨hB7.os, hB7.tape, hB7.output, hB7.size, hB7.block⟩
                  have hsz7 : wo.heap.size < w7.heap.size := by have := hB7'.size; omega
                  have m0 := (hB7'.cell (p := ⟨wo.heap.size, 0, none⟩) (show wo.heap.size < wa.heap.size by omega)).trans l0
                  have m1 := (hB7'.cell (p := ⟨wo.heap.size, 1, none⟩) (show wo.heap.size < wa.heap.size by omega)).trans l1
                  have m2 := (hB7'.cell (p := ⟨wo.heap.size, 2, none⟩) (show wo.heap.size < wa.heap.size by omega)).trans l2
                  have m3 := (hB7'.cell (p := ⟨wo.heap.size, 3, none⟩) (show wo.heap.size < wa.heap.size by omega)).trans l3
                  have hoa : Below wo.heap.size wo w7 := haB.trans (hB7'.mono (by omega))
                  have hBw7 : Below w.heap.size w w7 := hBw.trans (hoa.mono hBw.size)
                  have hB37 : Below w3.heap.size w3 w7 := hB.trans (hoa.mono hB.size)
                  clear hB7 hoa
                  go_wp2_with fail
                  refine hK.out _ _ (fun _ => hS7) ?_
                  clear hK K
                  obtain ⟨i7, hi7⟩ := hS7
                  have Hi7 : Hid (W i7 = w7) := hid hi7.symm; clear hi7
                  refine anyL_seg 3 8 (by kernel_rfl) (fun _ _ _ _ _ h => h) ⟨i7, Hi7.out.symm⟩ (f := 4) rfl (by kernel_rfl) (by kernel_rfl) ?_
                  simp only [List.drop_succ_cons, List.drop_zero, List.take_succ_cons, List.take_zero]
                  repeat go_big_quiet_step (fail)
                  refine wpQuiet_nil ?_
                  refine anyL_actG (i := 11) (by kernel_rfl) rfl (by rfl) ?_
                  intro K hK
                  go_wp2_with fail
                  refine (HC2.out _).mono ?_
                  rintro e w8 ⟨rfl, hB8⟩
                  have hS8 := WS.out i7 w8 (by rw [Hi7.out]; exact hB8)
                  have hB38 : Below w3.heap.size w7 w8 := hB8.mono (Nat.le_trans (Nat.le_trans hB.size (by omega)) hB7'.size)
                  go_wp2_with fail
                  refine hK.out _ _ (fun _ => hS8) ?_
                  clear hK K
                  refine anyL_seg 12 3 (by kernel_rfl) (fun _ _ _ _ _ h => h) hS8 (f := 0) rfl (by kernel_rfl) (by kernel_rfl) ?_
                  simp only [List.drop_succ_cons, List.drop_zero, List.take_succ_cons, List.take_zero]
                  repeat go_big_quiet_step (fail)
                  refine wpQuiet_nil ?_
                  refine anyL_done (by kernel_rfl) ?_ 0
                  go_wp2_with fail
                  go_roundw
                  case rel => exact ⟨j + 1, by omega, by push_cast; rfl, HR3, hB37.trans hB38⟩
                  case measure => simp [intOf]; omega
                · have hF : Hid (ps.all (fun p => rightP p n && decide ((2 : Int) = 2 → p = wholeP p.at_)) = false) := hid (by rw [← HR2.out, hrp, decide_eq_false (fun h => hxw (h rfl))]; rfl)
                  have hw := fun W => Whole_calls x.at_ W
                  unfold pval wholeP at hw
                  have HC2 := hid hw
                  have hne : ¬ (x.drop = 0 ∧ x.take = 21 ∧ x.up = 0) := fun h => hxw (by obtain ⟨xa, xd, xt, xu⟩ := x; simp only [wholeP, Part.mk.injEq, true_and]; exact h)
                  clear HR2 hrp hxw hw
                  by_cases y1 : x.drop = 0
                  · rw [y1] at HC hne p2
                    by_cases y2 : x.take = 21
                    · rw [y2] at HC hne p3
                      have y3 : ¬ x.up = 0 := fun h => hne ⟨rfl, rfl, h⟩
                      have y3' := beq_f y3
                      clear hne
                      go_wp2_with fail
                      have ha0 : (wo.alloc (.cells #[.int .i64 x.at_, .int .i64 0, .int .i64 21, .int .i64 x.up] 102)).heap.size = wo.heap.size + 1 := by simp
                      have haB := (Below.refl wo.heap.size wo).alloc (Nat.le_refl _) (.cells #[.int .i64 x.at_, .int .i64 0, .int .i64 21, .int .i64 x.up] 102)
                      obtain ⟨l0, l1, l2, l3⟩ := box4 (Below.refl (wo.heap.size + 1) (wo.alloc (.cells #[.int .i64 x.at_, .int .i64 0, .int .i64 21, .int .i64 x.up] 102)))
                      generalize (wo.alloc (.cells #[.int .i64 x.at_, .int .i64 0, .int .i64 21, .int .i64 x.up] 102)) = wa at *
                      obtain ⟨ι, W, ⟨i0, hi0⟩, hW, Wsur⟩ := ext_class wa.drew
                      have hne : Nonempty ι := ⟨i0⟩
                      have WS := hid Wsur; clear Wsur
                      have HW := hid hW; clear hW
                      have Hi0 := hid hi0; clear hi0
                      refine region_anyL (S := fun w' => ∃ i, w' = W i) (last := 15) (by kernel_rfl) ?_
                      have hwd : wo.heap.size < wa.drew.heap.size := by show wo.heap.size < wa.heap.size; omega
                      have M0 : ∀ i, (W i).cell? ⟨wo.heap.size, 0, none⟩ = some (.int .i64 x.at_) := fun i => ((HW.out i).cell (p := ⟨wo.heap.size, 0, none⟩) hwd).trans l0
                      have M1 : ∀ i, (W i).cell? ⟨wo.heap.size, 1, none⟩ = some (.int .i64 0) := fun i => ((HW.out i).cell (p := ⟨wo.heap.size, 1, none⟩) hwd).trans l1
                      have M2 : ∀ i, (W i).cell? ⟨wo.heap.size, 2, none⟩ = some (.int .i64 21) := fun i => ((HW.out i).cell (p := ⟨wo.heap.size, 2, none⟩) hwd).trans l2
                      have M3 : ∀ i, (W i).cell? ⟨wo.heap.size, 3, none⟩ = some (.int .i64 x.up) := fun i => ((HW.out i).cell (p := ⟨wo.heap.size, 3, none⟩) hwd).trans l3
                      refine anyL_seg 0 2 (by kernel_rfl) (fun _ _ _ _ _ h => h) ⟨i0, Hi0.out.symm⟩ (f := 13) rfl (by kernel_rfl) (by kernel_rfl) ?_
                      simp only [List.drop_zero, List.take_succ_cons, List.take_zero]
                      repeat go_big_quiet_step (fail)
                      refine wpQuiet_nil ?_
                      refine anyL_act (i := 2) (by kernel_rfl) rfl rfl ?_
                      intro K hK
                      go_wp2_with fail
                      refine (HC.out _).mono ?_
                      rintro e w7 ⟨rfl, hB7⟩
                      have hS7 := WS.out i0 w7 (by rw [Hi0.out]; exact hB7)
                      have hB7' : Below wa.heap.size wa w7 := ⟨hB7.os, hB7.tape, hB7.output, hB7.size, hB7.block⟩
                      have hsz7 : wo.heap.size < w7.heap.size := by have := hB7'.size; omega
                      have m0 := (hB7'.cell (p := ⟨wo.heap.size, 0, none⟩) (show wo.heap.size < wa.heap.size by omega)).trans l0
                      have m1 := (hB7'.cell (p := ⟨wo.heap.size, 1, none⟩) (show wo.heap.size < wa.heap.size by omega)).trans l1
                      have m2 := (hB7'.cell (p := ⟨wo.heap.size, 2, none⟩) (show wo.heap.size < wa.heap.size by omega)).trans l2
                      have m3 := (hB7'.cell (p := ⟨wo.heap.size, 3, none⟩) (show wo.heap.size < wa.heap.size by omega)).trans l3
                      have hoa : Below wo.heap.size wo w7 := haB.trans (hB7'.mono (by omega))
                      have hBw7 : Below w.heap.size w w7 := hBw.trans (hoa.mono hBw.size)
                      have hB37 : Below w3.heap.size w3 w7 := hB.trans (hoa.mono hB.size)
                      clear hB7 hoa
                      go_wp2_with fail
                      refine hK.out _ _ (fun _ => hS7) ?_
                      clear hK K
                      obtain ⟨i7, hi7⟩ := hS7
                      have Hi7 : Hid (W i7 = w7) := hid hi7.symm; clear hi7
                      refine anyL_seg 3 8 (by kernel_rfl) (fun _ _ _ _ _ h => h) ⟨i7, Hi7.out.symm⟩ (f := 4) rfl (by kernel_rfl) (by kernel_rfl) ?_
                      simp only [List.drop_succ_cons, List.drop_zero, List.take_succ_cons, List.take_zero]
                      repeat go_big_quiet_step (fail)
                      refine wpQuiet_nil ?_
                      refine anyL_actG (i := 11) (by kernel_rfl) rfl (by rfl) ?_
                      intro K hK
                      go_wp2_with fail
                      refine (HC2.out _).mono ?_
                      rintro e w8 ⟨rfl, hB8⟩
                      have hS8 := WS.out i7 w8 (by rw [Hi7.out]; exact hB8)
                      have hB38 : Below w3.heap.size w7 w8 := hB8.mono (Nat.le_trans (Nat.le_trans hB.size (by omega)) hB7'.size)
                      go_wp2_with fail
                      refine hK.out _ _ (fun _ => hS8) ?_
                      clear hK K
                      refine anyL_seg 12 3 (by kernel_rfl) (fun _ _ _ _ _ h => h) hS8 (f := 0) rfl (by kernel_rfl) (by kernel_rfl) ?_
                      simp only [List.drop_succ_cons, List.drop_zero, List.take_succ_cons, List.take_zero]
                      repeat go_big_quiet_step (fail)
                      refine wpQuiet_nil ?_
                      refine anyL_done (by kernel_rfl) ?_ 0
                      go_wp2_with fail
                      go_ret
                      exact ⟨by rw [HF.out, hF.out]; simp, hBw7.trans (hB8.mono (Nat.le_trans hBw.size (by omega)))⟩
                    · have y2' := beq_f y2
                      clear hne
                      go_wp2_with fail
                      have ha0 : (wo.alloc (.cells #[.int .i64 x.at_, .int .i64 0, .int .i64 x.take, .int .i64 x.up] 102)).heap.size = wo.heap.size + 1 := by simp
                      have haB := (Below.refl wo.heap.size wo).alloc (Nat.le_refl _) (.cells #[.int .i64 x.at_, .int .i64 0, .int .i64 x.take, .int .i64 x.up] 102)
                      obtain ⟨l0, l1, l2, l3⟩ := box4 (Below.refl (wo.heap.size + 1) (wo.alloc (.cells #[.int .i64 x.at_, .int .i64 0, .int .i64 x.take, .int .i64 x.up] 102)))
                      generalize (wo.alloc (.cells #[.int .i64 x.at_, .int .i64 0, .int .i64 x.take, .int .i64 x.up] 102)) = wa at *
                      obtain ⟨ι, W, ⟨i0, hi0⟩, hW, Wsur⟩ := ext_class wa.drew
                      have hne : Nonempty ι := ⟨i0⟩
                      have WS := hid Wsur; clear Wsur
                      have HW := hid hW; clear hW
                      have Hi0 := hid hi0; clear hi0
                      refine region_anyL (S := fun w' => ∃ i, w' = W i) (last := 15) (by kernel_rfl) ?_
                      have hwd : wo.heap.size < wa.drew.heap.size := by show wo.heap.size < wa.heap.size; omega
                      have M0 : ∀ i, (W i).cell? ⟨wo.heap.size, 0, none⟩ = some (.int .i64 x.at_) := fun i => ((HW.out i).cell (p := ⟨wo.heap.size, 0, none⟩) hwd).trans l0
                      have M1 : ∀ i, (W i).cell? ⟨wo.heap.size, 1, none⟩ = some (.int .i64 0) := fun i => ((HW.out i).cell (p := ⟨wo.heap.size, 1, none⟩) hwd).trans l1
                      have M2 : ∀ i, (W i).cell? ⟨wo.heap.size, 2, none⟩ = some (.int .i64 x.take) := fun i => ((HW.out i).cell (p := ⟨wo.heap.size, 2, none⟩) hwd).trans l2
                      have M3 : ∀ i, (W i).cell? ⟨wo.heap.size, 3, none⟩ = some (.int .i64 x.up) := fun i => ((HW.out i).cell (p := ⟨wo.heap.size, 3, none⟩) hwd).trans l3
                      refine anyL_seg 0 2 (by kernel_rfl) (fun _ _ _ _ _ h => h) ⟨i0, Hi0.out.symm⟩ (f := 13) rfl (by kernel_rfl) (by kernel_rfl) ?_
                      simp only [List.drop_zero, List.take_succ_cons, List.take_zero]
                      repeat go_big_quiet_step (fail)
                      refine wpQuiet_nil ?_
                      refine anyL_act (i := 2) (by kernel_rfl) rfl rfl ?_
                      intro K hK
                      go_wp2_with fail
                      refine (HC.out _).mono ?_
                      rintro e w7 ⟨rfl, hB7⟩
                      have hS7 := WS.out i0 w7 (by rw [Hi0.out]; exact hB7)
                      have hB7' : Below wa.heap.size wa w7 := ⟨hB7.os, hB7.tape, hB7.output, hB7.size, hB7.block⟩
                      have hsz7 : wo.heap.size < w7.heap.size := by have := hB7'.size; omega
                      have m0 := (hB7'.cell (p := ⟨wo.heap.size, 0, none⟩) (show wo.heap.size < wa.heap.size by omega)).trans l0
                      have m1 := (hB7'.cell (p := ⟨wo.heap.size, 1, none⟩) (show wo.heap.size < wa.heap.size by omega)).trans l1
                      have m2 := (hB7'.cell (p := ⟨wo.heap.size, 2, none⟩) (show wo.heap.size < wa.heap.size by omega)).trans l2
                      have m3 := (hB7'.cell (p := ⟨wo.heap.size, 3, none⟩) (show wo.heap.size < wa.heap.size by omega)).trans l3
                      have hoa : Below wo.heap.size wo w7 := haB.trans (hB7'.mono (by omega))
                      have hBw7 : Below w.heap.size w w7 := hBw.trans (hoa.mono hBw.size)
                      have hB37 : Below w3.heap.size w3 w7 := hB.trans (hoa.mono hB.size)
                      clear hB7 hoa
                      go_wp2_with fail
                      refine hK.out _ _ (fun _ => hS7) ?_
                      clear hK K
                      obtain ⟨i7, hi7⟩ := hS7
                      have Hi7 : Hid (W i7 = w7) := hid hi7.symm; clear hi7
                      refine anyL_seg 3 8 (by kernel_rfl) (fun _ _ _ _ _ h => h) ⟨i7, Hi7.out.symm⟩ (f := 4) rfl (by kernel_rfl) (by kernel_rfl) ?_
                      simp only [List.drop_succ_cons, List.drop_zero, List.take_succ_cons, List.take_zero]
                      repeat go_big_quiet_step (fail)
                      refine wpQuiet_nil ?_
                      refine anyL_actG (i := 11) (by kernel_rfl) rfl (by rfl) ?_
                      intro K hK
                      go_wp2_with fail
                      refine (HC2.out _).mono ?_
                      rintro e w8 ⟨rfl, hB8⟩
                      have hS8 := WS.out i7 w8 (by rw [Hi7.out]; exact hB8)
                      have hB38 : Below w3.heap.size w7 w8 := hB8.mono (Nat.le_trans (Nat.le_trans hB.size (by omega)) hB7'.size)
                      go_wp2_with fail
                      refine hK.out _ _ (fun _ => hS8) ?_
                      clear hK K
                      refine anyL_seg 12 3 (by kernel_rfl) (fun _ _ _ _ _ h => h) hS8 (f := 0) rfl (by kernel_rfl) (by kernel_rfl) ?_
                      simp only [List.drop_succ_cons, List.drop_zero, List.take_succ_cons, List.take_zero]
                      repeat go_big_quiet_step (fail)
                      refine wpQuiet_nil ?_
                      refine anyL_done (by kernel_rfl) ?_ 0
                      go_wp2_with fail
                      go_ret
                      exact ⟨by rw [HF.out, hF.out]; simp, hBw7.trans (hB8.mono (Nat.le_trans hBw.size (by omega)))⟩
                  · have y1' := beq_f y1
                    clear hne
                    go_wp2_with fail
                    have ha0 : (wo.alloc (.cells #[.int .i64 x.at_, .int .i64 x.drop, .int .i64 x.take, .int .i64 x.up] 102)).heap.size = wo.heap.size + 1 := by simp
                    have haB := (Below.refl wo.heap.size wo).alloc (Nat.le_refl _) (.cells #[.int .i64 x.at_, .int .i64 x.drop, .int .i64 x.take, .int .i64 x.up] 102)
                    obtain ⟨l0, l1, l2, l3⟩ := box4 (Below.refl (wo.heap.size + 1) (wo.alloc (.cells #[.int .i64 x.at_, .int .i64 x.drop, .int .i64 x.take, .int .i64 x.up] 102)))
                    generalize (wo.alloc (.cells #[.int .i64 x.at_, .int .i64 x.drop, .int .i64 x.take, .int .i64 x.up] 102)) = wa at *
                    obtain ⟨ι, W, ⟨i0, hi0⟩, hW, Wsur⟩ := ext_class wa.drew
                    have hne : Nonempty ι := ⟨i0⟩
                    have WS := hid Wsur; clear Wsur
                    have HW := hid hW; clear hW
                    have Hi0 := hid hi0; clear hi0
                    refine region_anyL (S := fun w' => ∃ i, w' = W i) (last := 15) (by kernel_rfl) ?_
                    have hwd : wo.heap.size < wa.drew.heap.size := by show wo.heap.size < wa.heap.size; omega
                    have M0 : ∀ i, (W i).cell? ⟨wo.heap.size, 0, none⟩ = some (.int .i64 x.at_) := fun i => ((HW.out i).cell (p := ⟨wo.heap.size, 0, none⟩) hwd).trans l0
                    have M1 : ∀ i, (W i).cell? ⟨wo.heap.size, 1, none⟩ = some (.int .i64 x.drop) := fun i => ((HW.out i).cell (p := ⟨wo.heap.size, 1, none⟩) hwd).trans l1
                    have M2 : ∀ i, (W i).cell? ⟨wo.heap.size, 2, none⟩ = some (.int .i64 x.take) := fun i => ((HW.out i).cell (p := ⟨wo.heap.size, 2, none⟩) hwd).trans l2
                    have M3 : ∀ i, (W i).cell? ⟨wo.heap.size, 3, none⟩ = some (.int .i64 x.up) := fun i => ((HW.out i).cell (p := ⟨wo.heap.size, 3, none⟩) hwd).trans l3
                    refine anyL_seg 0 2 (by kernel_rfl) (fun _ _ _ _ _ h => h) ⟨i0, Hi0.out.symm⟩ (f := 13) rfl (by kernel_rfl) (by kernel_rfl) ?_
                    simp only [List.drop_zero, List.take_succ_cons, List.take_zero]
                    repeat go_big_quiet_step (fail)
                    refine wpQuiet_nil ?_
                    refine anyL_act (i := 2) (by kernel_rfl) rfl rfl ?_
                    intro K hK
                    go_wp2_with fail
                    refine (HC.out _).mono ?_
                    rintro e w7 ⟨rfl, hB7⟩
                    have hS7 := WS.out i0 w7 (by rw [Hi0.out]; exact hB7)
                    have hB7' : Below wa.heap.size wa w7 := ⟨hB7.os, hB7.tape, hB7.output, hB7.size, hB7.block⟩
                    have hsz7 : wo.heap.size < w7.heap.size := by have := hB7'.size; omega
                    have m0 := (hB7'.cell (p := ⟨wo.heap.size, 0, none⟩) (show wo.heap.size < wa.heap.size by omega)).trans l0
                    have m1 := (hB7'.cell (p := ⟨wo.heap.size, 1, none⟩) (show wo.heap.size < wa.heap.size by omega)).trans l1
                    have m2 := (hB7'.cell (p := ⟨wo.heap.size, 2, none⟩) (show wo.heap.size < wa.heap.size by omega)).trans l2
                    have m3 := (hB7'.cell (p := ⟨wo.heap.size, 3, none⟩) (show wo.heap.size < wa.heap.size by omega)).trans l3
                    have hoa : Below wo.heap.size wo w7 := haB.trans (hB7'.mono (by omega))
                    have hBw7 : Below w.heap.size w w7 := hBw.trans (hoa.mono hBw.size)
                    have hB37 : Below w3.heap.size w3 w7 := hB.trans (hoa.mono hB.size)
                    clear hB7 hoa
                    go_wp2_with fail
                    refine hK.out _ _ (fun _ => hS7) ?_
                    clear hK K
                    obtain ⟨i7, hi7⟩ := hS7
                    have Hi7 : Hid (W i7 = w7) := hid hi7.symm; clear hi7
                    refine anyL_seg 3 8 (by kernel_rfl) (fun _ _ _ _ _ h => h) ⟨i7, Hi7.out.symm⟩ (f := 4) rfl (by kernel_rfl) (by kernel_rfl) ?_
                    simp only [List.drop_succ_cons, List.drop_zero, List.take_succ_cons, List.take_zero]
                    repeat go_big_quiet_step (fail)
                    refine wpQuiet_nil ?_
                    refine anyL_actG (i := 11) (by kernel_rfl) rfl (by rfl) ?_
                    intro K hK
                    go_wp2_with fail
                    refine (HC2.out _).mono ?_
                    rintro e w8 ⟨rfl, hB8⟩
                    have hS8 := WS.out i7 w8 (by rw [Hi7.out]; exact hB8)
                    have hB38 : Below w3.heap.size w7 w8 := hB8.mono (Nat.le_trans (Nat.le_trans hB.size (by omega)) hB7'.size)
                    go_wp2_with fail
                    refine hK.out _ _ (fun _ => hS8) ?_
                    clear hK K
                    refine anyL_seg 12 3 (by kernel_rfl) (fun _ _ _ _ _ h => h) hS8 (f := 0) rfl (by kernel_rfl) (by kernel_rfl) ?_
                    simp only [List.drop_succ_cons, List.drop_zero, List.take_succ_cons, List.take_zero]
                    repeat go_big_quiet_step (fail)
                    refine wpQuiet_nil ?_
                    refine anyL_done (by kernel_rfl) ?_ 0
                    go_wp2_with fail
                    go_ret
                    exact ⟨by rw [HF.out, hF.out]; simp, hBw7.trans (hB8.mono (Nat.le_trans hBw.size (by omega)))⟩
              · have hi2' := beq_f hi2
                have HR3 : Hid ((ps.drop (j + 1)).all (fun p => rightP p n && decide (inn = 2 → p = wholeP p.at_)) = ps.all (fun p => rightP p n && decide (inn = 2 → p = wholeP p.at_))) := hid (by rw [← HR2.out, hrp, decide_eq_true (fun h => absurd h hi2)]; rfl)
                clear HR2 hrp hi2
                go_wp2_with fail
                have ha0 : (wo.alloc (.cells #[.int .i64 x.at_, .int .i64 x.drop, .int .i64 x.take, .int .i64 x.up] 102)).heap.size = wo.heap.size + 1 := by simp
                have haB := (Below.refl wo.heap.size wo).alloc (Nat.le_refl _) (.cells #[.int .i64 x.at_, .int .i64 x.drop, .int .i64 x.take, .int .i64 x.up] 102)
                obtain ⟨l0, l1, l2, l3⟩ := box4 (Below.refl (wo.heap.size + 1) (wo.alloc (.cells #[.int .i64 x.at_, .int .i64 x.drop, .int .i64 x.take, .int .i64 x.up] 102)))
                generalize (wo.alloc (.cells #[.int .i64 x.at_, .int .i64 x.drop, .int .i64 x.take, .int .i64 x.up] 102)) = wa at *
                obtain ⟨ι, W, ⟨i0, hi0⟩, hW, Wsur⟩ := ext_class wa.drew
                have hne : Nonempty ι := ⟨i0⟩
                have WS := hid Wsur; clear Wsur
                have HW := hid hW; clear hW
                have Hi0 := hid hi0; clear hi0
                refine region_anyL (S := fun w' => ∃ i, w' = W i) (last := 15) (by kernel_rfl) ?_
                have hwd : wo.heap.size < wa.drew.heap.size := by show wo.heap.size < wa.heap.size; omega
                have M0 : ∀ i, (W i).cell? ⟨wo.heap.size, 0, none⟩ = some (.int .i64 x.at_) := fun i => ((HW.out i).cell (p := ⟨wo.heap.size, 0, none⟩) hwd).trans l0
                have M1 : ∀ i, (W i).cell? ⟨wo.heap.size, 1, none⟩ = some (.int .i64 x.drop) := fun i => ((HW.out i).cell (p := ⟨wo.heap.size, 1, none⟩) hwd).trans l1
                have M2 : ∀ i, (W i).cell? ⟨wo.heap.size, 2, none⟩ = some (.int .i64 x.take) := fun i => ((HW.out i).cell (p := ⟨wo.heap.size, 2, none⟩) hwd).trans l2
                have M3 : ∀ i, (W i).cell? ⟨wo.heap.size, 3, none⟩ = some (.int .i64 x.up) := fun i => ((HW.out i).cell (p := ⟨wo.heap.size, 3, none⟩) hwd).trans l3
                refine anyL_seg 0 2 (by kernel_rfl) (fun _ _ _ _ _ h => h) ⟨i0, Hi0.out.symm⟩ (f := 13) rfl (by kernel_rfl) (by kernel_rfl) ?_
                simp only [List.drop_zero, List.take_succ_cons, List.take_zero]
                repeat go_big_quiet_step (fail)
                refine wpQuiet_nil ?_
                refine anyL_act (i := 2) (by kernel_rfl) rfl rfl ?_
                intro K hK
                go_wp2_with fail
                refine (HC.out _).mono ?_
                rintro e w7 ⟨rfl, hB7⟩
                have hS7 := WS.out i0 w7 (by rw [Hi0.out]; exact hB7)
                have hB7' : Below wa.heap.size wa w7 := ⟨hB7.os, hB7.tape, hB7.output, hB7.size, hB7.block⟩
                have hsz7 : wo.heap.size < w7.heap.size := by have := hB7'.size; omega
                have m0 := (hB7'.cell (p := ⟨wo.heap.size, 0, none⟩) (show wo.heap.size < wa.heap.size by omega)).trans l0
                have m1 := (hB7'.cell (p := ⟨wo.heap.size, 1, none⟩) (show wo.heap.size < wa.heap.size by omega)).trans l1
                have m2 := (hB7'.cell (p := ⟨wo.heap.size, 2, none⟩) (show wo.heap.size < wa.heap.size by omega)).trans l2
                have m3 := (hB7'.cell (p := ⟨wo.heap.size, 3, none⟩) (show wo.heap.size < wa.heap.size by omega)).trans l3
                have hoa : Below wo.heap.size wo w7 := haB.trans (hB7'.mono (by omega))
                have hBw7 : Below w.heap.size w w7 := hBw.trans (hoa.mono hBw.size)
                have hB37 : Below w3.heap.size w3 w7 := hB.trans (hoa.mono hB.size)
                clear hB7 hoa
                go_wp2_with fail
                refine hK.out _ _ (fun _ => hS7) ?_
                clear hK K
                refine anyL_seg 3 8 (by kernel_rfl) (fun _ _ _ _ _ h => h) hS7 (f := 4) rfl (by kernel_rfl) (by kernel_rfl) ?_
                simp only [List.drop_succ_cons, List.drop_zero, List.take_succ_cons, List.take_zero]
                repeat go_big_quiet_step (fail)
                refine wpQuiet_nil ?_
                refine anyL_skip (i := 11) (by kernel_rfl) rfl (by rfl) hS7 ?_
                go_simp
                refine anyL_seg 12 3 (by kernel_rfl) (fun _ _ _ _ _ h => h) hS7 (f := 0) rfl (by kernel_rfl) (by kernel_rfl) ?_
                simp only [List.drop_succ_cons, List.drop_zero, List.take_succ_cons, List.take_zero]
                repeat go_big_quiet_step (fail)
                refine wpQuiet_nil ?_
                refine anyL_done (by kernel_rfl) ?_ 0
                go_wp2_with fail
                go_roundw
                case rel => exact ⟨j + 1, by omega, by push_cast; rfl, HR3, hB37⟩
                case measure => simp [intOf]; omega
          · obtain rfl : j = ps.length := by omega
            have hA : ps.all (fun p => rightP p n && decide (inn = 2 → p = wholeP p.at_)) = true := by rw [← HR.out, List.drop_length]; rfl
            rw [hA] at HF
            clear hA HR hr
            have q0 := (hB.cell (p := ⟨w.heap.size, 0, none⟩) hlt3).trans g0
            have q1 := (hB.cell (p := ⟨w.heap.size, 1, none⟩) hlt3).trans g1
            have q2 := (hB.cell (p := ⟨w.heap.size, 2, none⟩) hlt3).trans g2
            have q3 := (hB.cell (p := ⟨w.heap.size, 3, none⟩) hlt3).trans g3
            have q4 := (hB.cell (p := ⟨w.heap.size, 4, none⟩) hlt3).trans g4
            have q5 := (hB.cell (p := ⟨w.heap.size, 5, none⟩) hlt3).trans g5
            clear g0 g1 g2 g3 g4 g5
            by_cases hi2 : inn = 2
            · have hi2' := beq_t hi2
              subst hi2
              by_cases hl1 : ps.length ≤ 1
              · have hl1' : (ps.length : Int) ≤ 1 := by omega
                have HF2 : Hid (rightF ⟨b, d, k, u, s, ps⟩ 2 out n = decide (out = 2 → plainT ⟨b, d, k, u, s, ps⟩ = true)) := hid (by rw [HF.out, decide_eq_true (fun _ => hl1)]; simp)
                clear HF hl1
                by_cases ho2 : out = 2
                · have ho2' := beq_t ho2
                  subst ho2
                  go_wp2_with fail
                  refine (HP.out _).mono ?_
                  rintro e w5 ⟨rfl, hB5⟩
                  go_wp2_with fail
                  go_ret
                  exact ⟨by rw [HF2.out]; simp, hBw.trans (hB5.mono hBw.size)⟩
                · have ho2' := beq_f ho2
                  have HF3 : Hid (decide (out = 2 → plainT ⟨b, d, k, u, s, ps⟩ = true) = true) := hid (decide_eq_true fun h => absurd h ho2)
                  have ho2n : (out != 2) = true := by simp [ho2]
                  go_wp2_with fail
                  go_ret
                  exact ⟨by rw [HF2.out, HF3.out]; rfl, hBw⟩
              · have hl1' : ¬ (ps.length : Int) ≤ 1 := by omega
                have HF2 : Hid (rightF ⟨b, d, k, u, s, ps⟩ 2 out n = false) := hid (by rw [HF.out, decide_eq_false (fun h => hl1 (h rfl))]; simp)
                clear HF hl1
                go_wp2_with fail
                go_ret
                exact ⟨by rw [HF2.out]; rfl, hBw⟩
            · have hi2' := beq_f hi2
              have HF2 : Hid (rightF ⟨b, d, k, u, s, ps⟩ inn out n = decide (out = 2 → plainT ⟨b, d, k, u, s, ps⟩ = true)) := hid (by rw [HF.out, decide_eq_true (fun h => absurd h hi2)]; simp)
              have hi2n : (inn != 2) = true := by simp [hi2]
              clear HF
              by_cases ho2 : out = 2
              · have ho2' := beq_t ho2
                subst ho2
                go_wp2_with fail
                refine (HP.out _).mono ?_
                rintro e w5 ⟨rfl, hB5⟩
                go_wp2_with fail
                go_ret
                exact ⟨by rw [HF2.out]; simp, hBw.trans (hB5.mono hBw.size)⟩
              · have ho2' := beq_f ho2
                have HF3 : Hid (decide (out = 2 → plainT ⟨b, d, k, u, s, ps⟩ = true) = true) := hid (decide_eq_true fun h => absurd h ho2)
                have ho2n : (out != 2) = true := by simp [ho2]
                go_wp2_with fail
                go_ret
                exact ⟨by rw [HF2.out, HF3.out]; rfl, hBw⟩
    · have eo : domF out = [] := domF_none hO
      have ei := domF_sort hi
      have hF : Hid (rightF ⟨b, d, k, u, s, ps⟩ inn out n = false) := hid (by rw [HF.out, show sortF out = false from decide_eq_false hO]; simp)
      clear HN HP HF h hi hO
      go_enter Tryz.func147, Tryz.ntmps147
      go_wp2_with fail
      refine (Domain_calls inn _).mono ?_
      rintro e w1 ⟨v1, rfl, ho1, hB1⟩
      obtain ⟨A1, c1, rfl, hc1, hm1⟩ := list_form ho1.rel
      clear ho1
      go_wp2_with fail
      refine (Domain_calls out _).mono ?_
      rintro e w2 ⟨v2, rfl, ho2, hB2⟩
      rw [eo] at ho2
      obtain ⟨A2, c2, rfl, hc2, hm2⟩ := list_form ho2.rel
      clear ho2
      go_wp2_with fail
      go_ret
      have hBw1 := ((Below.refl w.heap.size w).alloc (Nat.le_refl _) _).trans (hB1.mono (by simp))
      exact ⟨by rw [hF.out]; rfl, hBw1.trans (hB2.mono hBw1.size)⟩
  · have ei : domF inn = [] := domF_none hi
    have hF : Hid (rightF ⟨b, d, k, u, s, ps⟩ inn out n = false) := hid (by rw [HF.out, show sortF inn = false from decide_eq_false hi]; simp)
    clear HN HP HF h hi
    go_enter Tryz.func147, Tryz.ntmps147
    go_wp2_with fail
    refine (Domain_calls inn _).mono ?_
    rintro e w1 ⟨v1, rfl, ho1, hB1⟩
    rw [ei] at ho1
    obtain ⟨A1, c1, rfl, hc1, hm1⟩ := list_form ho1.rel
    clear ho1
    go_wp2_with fail
    go_ret
    have hBw1 := ((Below.refl w.heap.size w).alloc (Nat.le_refl _) _).trans (hB1.mono (by simp))
    exact ⟨by rw [hF.out]; rfl, hBw1⟩
end Go.Proofs.YtmkmikacfilbpaaGreat
