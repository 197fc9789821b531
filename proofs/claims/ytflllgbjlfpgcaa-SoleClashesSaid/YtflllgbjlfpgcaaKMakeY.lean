/-
  The reference's Make: what one of two sets has.
-/
import Derived.Test.YtflllgbjlfpgcaaKMakeW
namespace Go.Proofs.Ytflllgbjlfpgcaa
open Go.RowKit Go.Um Go.Proofs
set_option maxHeartbeats 8000000 in
set_option maxRecDepth 100000 in
theorem RMake0_calls (how : Int) (hh : how = 0) (a b : List Span) (v u : Value) (w : World) (ha : spansR.rel w (upto w.heap.size) [v] a) (hb : spansR.rel w (upto w.heap.size) [u] b) (hl : a.length + b.length ≤ 4000000) :
    Calls Try.prog 20 #[v, u, .int .i64 how] w fun e w' => ∃ z, e = .returned z ∧ OwnS 46 w' w.heap.size z (refMake (gOf how) a b) ∧ Below w.heap.size w w' := by
  have HAs := hid fun W x (hW : Below w.heap.size w W) => RHas_calls a x v W (upto W.heap.size) (spansR.mono (below_cells hW) (fun _ h => Nat.lt_of_lt_of_le h hW.size) ha)
  have HBs := hid fun W x (hW : Below w.heap.size w W) => RHas_calls b x u W (upto W.heap.size) (spansR.mono (below_cells hW) (fun _ h => Nat.lt_of_lt_of_le h hW.size) hb)
  have HBO := hid (Rborders_calls a b v u w ha hb hl)
  obtain ⟨inf, hi0', hz0, hz1, hz2⟩ := info_parts info46
  obtain ⟨A1, c1', rfl, hc1, hm1⟩ := list_form ha
  obtain ⟨A2, c2', rfl, hc2, hm2⟩ := list_form hb
  have hbl := borders_length a b
  obtain ⟨f, hf⟩ : ∃ f, f = fun z => gOf how (hasF a z) (hasF b z) := ⟨_, rfl⟩
  have HF := hid hf
  have HREF : Hid (makeR f (bordersF a b) [] = refMake (gOf how) a b) := hid (by rw [hf]; exact makeR_ref how a b)
  clear ha hb hf
  have hh1 : (how == 1) = false := beq_f (by omega)
  have hh2 : (how == 2) = false := beq_f (by omega)
  go_enter Try.func20, Try.ntmps20
  go_wp2_with fail
  refine HBO.out.mono ?_
  rintro e w1 ⟨z1, rfl, ho1, hBw1⟩
  have hrow := intsR ho1
  obtain ⟨A3, c3', rfl, hc3, hm3⟩ := list_form hrow
  unfold maxLen at hm1 hm2 hm3
  clear ho1 HBO
  go_wp2_with fail
  go_loopw [7, 9] (fun vo vi wr => ∃ k : Nat, k ≤ (bordersF a b).length ∧ vi = .int .i64 k ∧ MakeI w1 wr f (bordersF a b) vo k) (fun _ vi _ => (bordersF a b).length - (intOf vi).toNat)
  case atStart => exact ⟨0, Nat.zero_le _, rfl, [], rfl, ⟨World.ownsRow_nil _ _ _ _, by simp⟩, by simp, Below.refl _ _⟩
  case round =>
    obtain ⟨k, hk, rfl, out, hst, ho, hlo, hB⟩ := hrel
    obtain ⟨wo, hwo⟩ : ∃ wo, wo = wr := ⟨_, rfl⟩
    subst hwo
    have HO := hid ho
    have HB := hid hB
    have HBW := hid (hBw1.trans (hB.mono hBw1.size))
    have hs1 := hB.size
    obtain ⟨Ao, co, rfl, hco, hmo⟩ := list_form ho.rel
    by_cases hlt : k < (bordersF a b).length
    · obtain ⟨x, hx⟩ := at_lt hlt
      obtain ⟨hx1, hx2⟩ := borders_bd (List.mem_of_getElem? hx)
      obtain ⟨b3, o3, y3, rfl, hb3, ⟨hv1, hv2⟩, hcz3⟩ := list_at1 rfl hrow hx
      simp only [List.cons.injEq, and_true] at hv1
      subst hv1
      have c3 := (hB.cell (p := ⟨b3, o3 + k, none⟩) hb3).trans (by simpa [intR] using hcz3)
      have hb3' : b3 < wo.heap.size := Nat.lt_of_lt_of_le hb3 hs1
      have hlt' : (k : Int) < (bordersF a b).length := by omega
      have HSTEP : Hid (makeR f ((bordersF a b).drop (k + 1)) (if f x then stepR out ⟨x, toR ((bordersF a b).drop (k + 1))⟩ else out) = makeR f (bordersF a b) []) := hid (by
        rw [drop_cons hx] at hst
        exact hst)
      have HA := hid fun W (hW : Below w.heap.size w W) => HAs.out W x hW
      have HBB := hid fun W (hW : Below w.heap.size w W) => HBs.out W x hW
      have HFX : Hid (f x = gOf how (hasF a x) (hasF b x)) := hid (by rw [HF.out])
      clear hst ho hB hcz3 hv2 hx
      cases ca : hasF a x
      · cases cb : hasF b x
        · have hfx : f x = false := by rw [HFX.out, ca, cb]; subst hh; rfl
          rw [ca] at HA
          rw [cb] at HBB
          clear ca cb HFX
          go_wp2_with fail
          obtain ⟨ι, W, ⟨i0, hi0⟩, hW, Wsur⟩ := ext_class wo.drew
          have hne : Nonempty ι := ⟨i0⟩
          have WS := hid Wsur; clear Wsur
          have HW := hid hW; clear hW
          have Hi0 := hid hi0; clear hi0
          refine region_anyL (S := fun w' => ∃ i, w' = W i) (last := 14) (by kernel_rfl) ?_
          have g1 : ∀ i, (W i).cell? ⟨b3, o3 + k, none⟩ = some (.int .i64 x) := fun i => ((HW.out i).cell (p := ⟨b3, o3 + k, none⟩) hb3').trans c3
          refine anyL_seg 0 5 (by kernel_rfl) (fun _ _ _ _ _ h => h) ⟨i0, Hi0.out.symm⟩ (f := 9) rfl (by kernel_rfl) (by kernel_rfl) ?_
          simp only [List.drop_zero, List.take_succ_cons, List.take_zero]
          repeat go_big_quiet_step (fail)
          refine wpQuiet_nil ?_
          refine anyL_seg 6 5 (by kernel_rfl) (fun _ _ _ _ _ h => h) ⟨i0, Hi0.out.symm⟩ (f := 4) rfl (by kernel_rfl) (by kernel_rfl) ?_
          simp only [List.drop_succ_cons, List.drop_zero, List.take_succ_cons, List.take_zero]
          repeat go_big_quiet_step (fail)
          refine wpQuiet_nil ?_
          refine anyL_act (i := 5) (by kernel_rfl) rfl rfl ?_
          intro K hK
          go_wp2_with fail
          refine (HA.out _ HBW.out.drew).mono ?_
          rintro e w2 ⟨rfl, rfl⟩
          go_wp2_with fail
          refine hK.out _ _ (fun _ => ⟨i0, Hi0.out.symm⟩) ?_
          clear hK K
          refine anyL_act (i := 11) (by kernel_rfl) rfl rfl ?_
          intro K hK
          go_wp2_with fail
          refine (HBB.out _ HBW.out.drew).mono ?_
          rintro e w2 ⟨rfl, rfl⟩
          go_wp2_with fail
          refine hK.out _ _ (fun _ => ⟨i0, Hi0.out.symm⟩) ?_
          clear hK K
          refine anyL_seg 12 2 (by kernel_rfl) (fun _ _ _ _ _ h => h) ⟨i0, Hi0.out.symm⟩ (f := 0) rfl (by kernel_rfl) (by kernel_rfl) ?_
          simp only [List.drop_succ_cons, List.drop_zero, List.take_succ_cons, List.take_zero]
          repeat go_big_quiet_step (fail)
          refine wpQuiet_nil ?_
          refine anyL_done (by kernel_rfl) ?_ 0
          clear g1 WS HW Hi0 hne i0 W ι HA HBB
          have c3d : wo.drew.cell? ⟨b3, o3 + k, none⟩ = some (.int .i64 x) := c3
          have HOd : Hid (OwnS 46 wo.drew w1.heap.size (.slice Ao out.length co) out) := hid HO.out
          have HBd : Hid (Below w1.heap.size w1 wo.drew) := hid HB.out.drew
          have HBWd : Hid (Below w.heap.size w wo.drew) := hid HBW.out.drew
          have hb3d : b3 < wo.drew.heap.size := hb3'
          have hs1d : w1.heap.size ≤ wo.drew.heap.size := hs1
          clear c3 HO HB HBW hb3' hs1
          generalize wo.drew = wd at *
          have HST : Hid (makeR f ((bordersF a b).drop (k + 1)) out = makeR f (bordersF a b) []) := hid (by rw [← HSTEP.out, if_neg (by rw [hfx]; simp)])
          clear HSTEP hfx
          go_wp2_with fail
          have HE : Hid (∃ j' : Nat, j' ≤ (bordersF a b).length ∧ Value.int .i64 ((k : Int) + 1) = .int .i64 j' ∧ MakeI w1 _ f (bordersF a b) _ j') := hid ⟨k + 1, by omega, by push_cast; rfl, out, HST.out, HOd.out, by omega, HBd.out⟩
          first
            | (refine ⟨HE.out, ?_⟩; simp [intOf]; omega)
            | (go_simp; refine ⟨by simpa using HE.out, ?_⟩; simp [intOf]; omega)
        · have hfx : f x = true := by rw [HFX.out, ca, cb]; subst hh; rfl
          rw [ca] at HA
          rw [cb] at HBB
          clear ca cb HFX
          go_wp2_with fail
          obtain ⟨ι, W, ⟨i0, hi0⟩, hW, Wsur⟩ := ext_class wo.drew
          have hne : Nonempty ι := ⟨i0⟩
          have WS := hid Wsur; clear Wsur
          have HW := hid hW; clear hW
          have Hi0 := hid hi0; clear hi0
          refine region_anyL (S := fun w' => ∃ i, w' = W i) (last := 14) (by kernel_rfl) ?_
          have g1 : ∀ i, (W i).cell? ⟨b3, o3 + k, none⟩ = some (.int .i64 x) := fun i => ((HW.out i).cell (p := ⟨b3, o3 + k, none⟩) hb3').trans c3
          refine anyL_seg 0 5 (by kernel_rfl) (fun _ _ _ _ _ h => h) ⟨i0, Hi0.out.symm⟩ (f := 9) rfl (by kernel_rfl) (by kernel_rfl) ?_
          simp only [List.drop_zero, List.take_succ_cons, List.take_zero]
          repeat go_big_quiet_step (fail)
          refine wpQuiet_nil ?_
          refine anyL_seg 6 5 (by kernel_rfl) (fun _ _ _ _ _ h => h) ⟨i0, Hi0.out.symm⟩ (f := 4) rfl (by kernel_rfl) (by kernel_rfl) ?_
          simp only [List.drop_succ_cons, List.drop_zero, List.take_succ_cons, List.take_zero]
          repeat go_big_quiet_step (fail)
          refine wpQuiet_nil ?_
          refine anyL_act (i := 5) (by kernel_rfl) rfl rfl ?_
          intro K hK
          go_wp2_with fail
          refine (HA.out _ HBW.out.drew).mono ?_
          rintro e w2 ⟨rfl, rfl⟩
          go_wp2_with fail
          refine hK.out _ _ (fun _ => ⟨i0, Hi0.out.symm⟩) ?_
          clear hK K
          refine anyL_act (i := 11) (by kernel_rfl) rfl rfl ?_
          intro K hK
          go_wp2_with fail
          refine (HBB.out _ HBW.out.drew).mono ?_
          rintro e w2 ⟨rfl, rfl⟩
          go_wp2_with fail
          refine hK.out _ _ (fun _ => ⟨i0, Hi0.out.symm⟩) ?_
          clear hK K
          refine anyL_seg 12 2 (by kernel_rfl) (fun _ _ _ _ _ h => h) ⟨i0, Hi0.out.symm⟩ (f := 0) rfl (by kernel_rfl) (by kernel_rfl) ?_
          simp only [List.drop_succ_cons, List.drop_zero, List.take_succ_cons, List.take_zero]
          repeat go_big_quiet_step (fail)
          refine wpQuiet_nil ?_
          refine anyL_done (by kernel_rfl) ?_ 0
          clear g1 WS HW Hi0 hne i0 W ι HA HBB
          have c3d : wo.drew.cell? ⟨b3, o3 + k, none⟩ = some (.int .i64 x) := c3
          have HOd : Hid (OwnS 46 wo.drew w1.heap.size (.slice Ao out.length co) out) := hid HO.out
          have HBd : Hid (Below w1.heap.size w1 wo.drew) := hid HB.out.drew
          have HBWd : Hid (Below w.heap.size w wo.drew) := hid HBW.out.drew
          have hb3d : b3 < wo.drew.heap.size := hb3'
          have hs1d : w1.heap.size ≤ wo.drew.heap.size := hs1
          clear c3 HO HB HBW hb3' hs1
          generalize wo.drew = wd at *
          by_cases hn : k + 1 < (bordersF a b).length
          · obtain ⟨y, hy⟩ := at_lt hn
            obtain ⟨hy1, hy2⟩ := borders_bd (List.mem_of_getElem? hy)
            obtain ⟨b4, o4, y4, hA4, _, ⟨hv1, hv2⟩, hcz4⟩ := list_at1 rfl hrow hy
            simp only [List.cons.injEq, and_true] at hv1
            subst hv1
            cases hA4
            have c4 := (HBd.out.cell (p := ⟨b3, o3 + (k + 1), none⟩) hb3).trans (by simpa [intR] using hcz4)
            have hn' : (k : Int) + 1 < (bordersF a b).length := by omega
            have HST : Hid (makeR f ((bordersF a b).drop (k + 1)) (stepR out ⟨x, y - 1⟩) = makeR f (bordersF a b) []) := hid (by rw [← HSTEP.out, if_pos hfx, drop_cons hy]; rfl)
            clear HSTEP hfx hcz4 hv2 hy hn
            rcases list_snoc out with rfl | ⟨init, t, rfl⟩
            · have HST2 : Hid (makeR f ((bordersF a b).drop (k + 1)) [⟨x, y - 1⟩] = makeR f (bordersF a b) []) := hid (by rw [← HST.out, stepR_nil])
              clear HST
              go_wp2_with fail
              go_quiet (fail)
              have c3e : (wd.drewN nq).cell? ⟨b3, o3 + k, none⟩ = some (.int .i64 x) := c3d
              have HOe : Hid (OwnS 46 (wd.drewN nq) w1.heap.size (.slice Ao ([] : List Span).length co) (([] : List Span))) := hid HOd.out
              have HBe : Hid (Below w1.heap.size w1 (wd.drewN nq)) := hid ⟨HBd.out.os, HBd.out.tape, HBd.out.output, HBd.out.size, HBd.out.block⟩
              have hb3e : b3 < (wd.drewN nq).heap.size := hb3d
              have hs1e : w1.heap.size ≤ (wd.drewN nq).heap.size := hs1d
              clear c3d HOd HBd hb3d hs1d HBWd
              generalize wd.drewN nq = we at *
              go_wp2_with (at_builtin; refine Hid.out ?_)
              refine hid ?_
              refine wpList_append_own _ rfl _ _ 38 rfl w1.heap.size 46 inf _ 2 16 Try.underlying38 hi0' hz0 hz1 hz2 rfl (by decide) (.slice Ao ([] : List Span).length co) _ _ (by first | rfl | (rw [show (init ++ [t]).length = init.length + 1 by simp]; rfl)) (HOe.out.1.alloc _) ⟨we.heap.size, 0, none⟩ 1 1 [.int .i64 x, .int .i64 (y - 1)] rfl rfl
                (news_at (w := we) (cs := #[_, _]) rfl) (by simp [Value.oneCell']) (by unfold maxLen; simp) (by simp) (by simp; omega) ?_
              intro v' w3 hown3 hg3 hn3
              have hB3 : Below w1.heap.size we w3 := ((Below.refl _ we).alloc HBe.out.size _).trans (below_grown (HOe.out.1.alloc _) hg3 (Nat.le_refl _) (by simp; omega))
              have HO3 : Hid (OwnS 46 w3 w1.heap.size v' ([] ++ [⟨x, y - 1⟩])) := hid (OwnS.push hown3 HOe.out.2 ⟨(⟨by omega, by omega⟩ : I64 x), (⟨by omega, by omega⟩ : I64 (y - 1))⟩)
              have HB3 := hid (HBe.out.trans hB3)
              clear hown3 hg3 hn3 hB3
              go_wp2_with fail
              have HE : Hid (∃ j' : Nat, j' ≤ (bordersF a b).length ∧ Value.int .i64 ((k : Int) + 1) = .int .i64 j' ∧ MakeI w1 w3 f (bordersF a b) _ j') := hid ⟨k + 1, by omega, by push_cast; rfl, [] ++ [⟨x, y - 1⟩], HST2.out, HO3.out, by simp, HB3.out⟩
              first
                | (refine ⟨HE.out, ?_⟩; simp [intOf]; omega)
                | (go_simp; refine ⟨by simpa using HE.out, ?_⟩; simp [intOf]; omega)

            · have hil : init.length + 1 ≤ k := by simpa using hlo
              obtain ⟨g, cap, cur, hvg, hg1, hg2, hg3, hg4, hg5, hg6⟩ := own_cons HOd.out.1 (by simp)
              cases hvg
              have hgt := heap_lt hg2
              have ht := (HOd.out.2 t (by simp))
              obtain ⟨t1, t2⟩ : wd.cell? ⟨g, init.length * 2, none⟩ = some (.int .i64 t.lo) ∧ wd.cell? ⟨g, init.length * 2 + 1, none⟩ = some (.int .i64 t.hi) := own_last HOd.out.1 hg2
              have hfz := frozen_of_row wd g (init.length * 2 + 1) _ _ hg2
              by_cases hm : t.hi = x - 1
              · have hm' : (t.hi == x - 1) = true := beq_t hm
                have HST2 : Hid (makeR f ((bordersF a b).drop (k + 1)) (init ++ [⟨t.lo, y - 1⟩]) = makeR f (bordersF a b) []) := hid (by rw [← HST.out, stepR_eq hm])
                clear HST hm
                go_wp2_with fail
                go_quiet (fail)
                have c3e : (wd.drewN nq).cell? ⟨b3, o3 + k, none⟩ = some (.int .i64 x) := c3d
                have HOe : Hid (OwnS 46 (wd.drewN nq) w1.heap.size (.slice (some ⟨g, 0, none⟩) (init ++ [t]).length co) (init ++ [t])) := hid HOd.out
                have HBe : Hid (Below w1.heap.size w1 (wd.drewN nq)) := hid ⟨HBd.out.os, HBd.out.tape, HBd.out.output, HBd.out.size, HBd.out.block⟩
                have hb3e : b3 < (wd.drewN nq).heap.size := hb3d
                have hs1e : w1.heap.size ≤ (wd.drewN nq).heap.size := hs1d

                have t2e : (wd.drewN nq).cell? ⟨g, init.length * 2 + 1, none⟩ = some (.int .i64 t.hi) := t2
                have hfe : (wd.drewN nq).frozen? ⟨g, init.length * 2 + 1, none⟩ = false := hfz
                clear t1 t2 hfz hg2 hgt
                clear c3d HOd HBd hb3d hs1d HBWd
                generalize wd.drewN nq = we at *

                have hset := HOe.out.setHi (i := init.length) (x := t) (by simp) (z := y - 1) ⟨by omega, by omega⟩
                have hse : (init ++ [t]).set init.length ⟨t.lo, y - 1⟩ = init ++ [⟨t.lo, y - 1⟩] := by simp
                rw [hse] at hset
                have HO3 := hid hset
                have HB3 := hid (HBe.out.setCell (p := ⟨g, init.length * 2 + 1, none⟩) hg1 (.int .i64 (y - 1)))
                clear hset hse
                go_wp2_with fail
                have HE : Hid (∃ j' : Nat, j' ≤ (bordersF a b).length ∧ Value.int .i64 ((k : Int) + 1) = .int .i64 j' ∧ MakeI w1 _ f (bordersF a b) _ j') := hid ⟨k + 1, by omega, by push_cast; rfl, init ++ [⟨t.lo, y - 1⟩], HST2.out, by simpa using HO3.out, by simp; omega, HB3.out⟩
                first
                  | (refine ⟨HE.out, ?_⟩; simp [intOf]; omega)
                  | (go_simp; refine ⟨by simpa using HE.out, ?_⟩; simp [intOf]; omega)

              · have hm' : (t.hi == x - 1) = false := beq_f hm
                have HST2 : Hid (makeR f ((bordersF a b).drop (k + 1)) (init ++ [t] ++ [⟨x, y - 1⟩]) = makeR f (bordersF a b) []) := hid (by rw [← HST.out, stepR_ne hm])
                clear hm HST
                go_wp2_with fail
                go_quiet (fail)
                have c3e : (wd.drewN nq).cell? ⟨b3, o3 + k, none⟩ = some (.int .i64 x) := c3d
                have HOe : Hid (OwnS 46 (wd.drewN nq) w1.heap.size (.slice (some ⟨g, 0, none⟩) (init ++ [t]).length co) (init ++ [t])) := hid HOd.out
                have HBe : Hid (Below w1.heap.size w1 (wd.drewN nq)) := hid ⟨HBd.out.os, HBd.out.tape, HBd.out.output, HBd.out.size, HBd.out.block⟩
                have hb3e : b3 < (wd.drewN nq).heap.size := hb3d
                have hs1e : w1.heap.size ≤ (wd.drewN nq).heap.size := hs1d
                clear t1 t2 hfz hg2 hgt
                clear c3d HOd HBd hb3d hs1d HBWd
                generalize wd.drewN nq = we at *
                go_wp2_with (at_builtin; refine Hid.out ?_)
                refine hid ?_
                refine wpList_append_own _ rfl _ _ 38 rfl w1.heap.size 46 inf _ 2 16 Try.underlying38 hi0' hz0 hz1 hz2 rfl (by decide) (.slice (some ⟨g, 0, none⟩) (init ++ [t]).length co) _ _ (by first | rfl | (rw [show (init ++ [t]).length = init.length + 1 by simp]; rfl)) (HOe.out.1.alloc _) ⟨we.heap.size, 0, none⟩ 1 1 [.int .i64 x, .int .i64 (y - 1)] rfl rfl
                  (news_at (w := we) (cs := #[_, _]) rfl) (by simp [Value.oneCell']) (by unfold maxLen; simp; omega) (by simp; omega) (by simp; omega) ?_
                intro v' w3 hown3 hg3 hn3
                have hB3 : Below w1.heap.size we w3 := ((Below.refl _ we).alloc HBe.out.size _).trans (below_grown (HOe.out.1.alloc _) hg3 (Nat.le_refl _) (by simp; omega))
                have HO3 : Hid (OwnS 46 w3 w1.heap.size v' (init ++ [t] ++ [⟨x, y - 1⟩])) := hid (OwnS.push hown3 HOe.out.2 ⟨(⟨by omega, by omega⟩ : I64 x), (⟨by omega, by omega⟩ : I64 (y - 1))⟩)
                have HB3 := hid (HBe.out.trans hB3)
                clear hown3 hg3 hn3 hB3
                go_wp2_with fail
                have HE : Hid (∃ j' : Nat, j' ≤ (bordersF a b).length ∧ Value.int .i64 ((k : Int) + 1) = .int .i64 j' ∧ MakeI w1 w3 f (bordersF a b) _ j') := hid ⟨k + 1, by omega, by push_cast; rfl, init ++ [t] ++ [⟨x, y - 1⟩], HST2.out, HO3.out, by simp; omega, HB3.out⟩
                first
                  | (refine ⟨HE.out, ?_⟩; simp [intOf]; omega)
                  | (go_simp; refine ⟨by simpa using HE.out, ?_⟩; simp [intOf]; omega)
          · have hn' : ¬ (k : Int) + 1 < (bordersF a b).length := by omega
            have HST : Hid (makeR f ((bordersF a b).drop (k + 1)) (stepR out ⟨x, 1073741824⟩) = makeR f (bordersF a b) []) := hid (by rw [← HSTEP.out, if_pos hfx, List.drop_eq_nil_of_le (by omega)]; rfl)
            clear HSTEP hfx hn
            rcases list_snoc out with rfl | ⟨init, t, rfl⟩
            · have HST2 : Hid (makeR f ((bordersF a b).drop (k + 1)) [⟨x, 1073741824⟩] = makeR f (bordersF a b) []) := hid (by rw [← HST.out, stepR_nil])
              clear HST
              go_wp2_with fail
              go_quiet (fail)
              have c3e : (wd.drewN nq).cell? ⟨b3, o3 + k, none⟩ = some (.int .i64 x) := c3d
              have HOe : Hid (OwnS 46 (wd.drewN nq) w1.heap.size (.slice Ao ([] : List Span).length co) (([] : List Span))) := hid HOd.out
              have HBe : Hid (Below w1.heap.size w1 (wd.drewN nq)) := hid ⟨HBd.out.os, HBd.out.tape, HBd.out.output, HBd.out.size, HBd.out.block⟩
              have hb3e : b3 < (wd.drewN nq).heap.size := hb3d
              have hs1e : w1.heap.size ≤ (wd.drewN nq).heap.size := hs1d
              clear c3d HOd HBd hb3d hs1d HBWd
              generalize wd.drewN nq = we at *
              go_wp2_with (at_builtin; refine Hid.out ?_)
              refine hid ?_
              refine wpList_append_own _ rfl _ _ 38 rfl w1.heap.size 46 inf _ 2 16 Try.underlying38 hi0' hz0 hz1 hz2 rfl (by decide) (.slice Ao ([] : List Span).length co) _ _ (by first | rfl | (rw [show (init ++ [t]).length = init.length + 1 by simp]; rfl)) (HOe.out.1.alloc _) ⟨we.heap.size, 0, none⟩ 1 1 [.int .i64 x, .int .i64 (1073741824)] rfl rfl
                (news_at (w := we) (cs := #[_, _]) rfl) (by simp [Value.oneCell']) (by unfold maxLen; simp) (by simp) (by simp; omega) ?_
              intro v' w3 hown3 hg3 hn3
              have hB3 : Below w1.heap.size we w3 := ((Below.refl _ we).alloc HBe.out.size _).trans (below_grown (HOe.out.1.alloc _) hg3 (Nat.le_refl _) (by simp; omega))
              have HO3 : Hid (OwnS 46 w3 w1.heap.size v' ([] ++ [⟨x, 1073741824⟩])) := hid (OwnS.push hown3 HOe.out.2 ⟨(⟨by omega, by omega⟩ : I64 x), (⟨by omega, by omega⟩ : I64 (1073741824))⟩)
              have HB3 := hid (HBe.out.trans hB3)
              clear hown3 hg3 hn3 hB3
              go_wp2_with fail
              have HE : Hid (∃ j' : Nat, j' ≤ (bordersF a b).length ∧ Value.int .i64 ((k : Int) + 1) = .int .i64 j' ∧ MakeI w1 w3 f (bordersF a b) _ j') := hid ⟨k + 1, by omega, by push_cast; rfl, [] ++ [⟨x, 1073741824⟩], HST2.out, HO3.out, by simp, HB3.out⟩
              first
                | (refine ⟨HE.out, ?_⟩; simp [intOf]; omega)
                | (go_simp; refine ⟨by simpa using HE.out, ?_⟩; simp [intOf]; omega)

            · have hil : init.length + 1 ≤ k := by simpa using hlo
              obtain ⟨g, cap, cur, hvg, hg1, hg2, hg3, hg4, hg5, hg6⟩ := own_cons HOd.out.1 (by simp)
              cases hvg
              have hgt := heap_lt hg2
              have ht := (HOd.out.2 t (by simp))
              obtain ⟨t1, t2⟩ : wd.cell? ⟨g, init.length * 2, none⟩ = some (.int .i64 t.lo) ∧ wd.cell? ⟨g, init.length * 2 + 1, none⟩ = some (.int .i64 t.hi) := own_last HOd.out.1 hg2
              have hfz := frozen_of_row wd g (init.length * 2 + 1) _ _ hg2
              by_cases hm : t.hi = x - 1
              · have hm' : (t.hi == x - 1) = true := beq_t hm
                have HST2 : Hid (makeR f ((bordersF a b).drop (k + 1)) (init ++ [⟨t.lo, 1073741824⟩]) = makeR f (bordersF a b) []) := hid (by rw [← HST.out, stepR_eq hm])
                clear HST hm
                go_wp2_with fail
                go_quiet (fail)
                have c3e : (wd.drewN nq).cell? ⟨b3, o3 + k, none⟩ = some (.int .i64 x) := c3d
                have HOe : Hid (OwnS 46 (wd.drewN nq) w1.heap.size (.slice (some ⟨g, 0, none⟩) (init ++ [t]).length co) (init ++ [t])) := hid HOd.out
                have HBe : Hid (Below w1.heap.size w1 (wd.drewN nq)) := hid ⟨HBd.out.os, HBd.out.tape, HBd.out.output, HBd.out.size, HBd.out.block⟩
                have hb3e : b3 < (wd.drewN nq).heap.size := hb3d
                have hs1e : w1.heap.size ≤ (wd.drewN nq).heap.size := hs1d

                have t2e : (wd.drewN nq).cell? ⟨g, init.length * 2 + 1, none⟩ = some (.int .i64 t.hi) := t2
                have hfe : (wd.drewN nq).frozen? ⟨g, init.length * 2 + 1, none⟩ = false := hfz
                clear t1 t2 hfz hg2 hgt
                clear c3d HOd HBd hb3d hs1d HBWd
                generalize wd.drewN nq = we at *

                have hset := HOe.out.setHi (i := init.length) (x := t) (by simp) (z := 1073741824) ⟨by omega, by omega⟩
                have hse : (init ++ [t]).set init.length ⟨t.lo, 1073741824⟩ = init ++ [⟨t.lo, 1073741824⟩] := by simp
                rw [hse] at hset
                have HO3 := hid hset
                have HB3 := hid (HBe.out.setCell (p := ⟨g, init.length * 2 + 1, none⟩) hg1 (.int .i64 (1073741824)))
                clear hset hse
                go_wp2_with fail
                have HE : Hid (∃ j' : Nat, j' ≤ (bordersF a b).length ∧ Value.int .i64 ((k : Int) + 1) = .int .i64 j' ∧ MakeI w1 _ f (bordersF a b) _ j') := hid ⟨k + 1, by omega, by push_cast; rfl, init ++ [⟨t.lo, 1073741824⟩], HST2.out, by simpa using HO3.out, by simp; omega, HB3.out⟩
                first
                  | (refine ⟨HE.out, ?_⟩; simp [intOf]; omega)
                  | (go_simp; refine ⟨by simpa using HE.out, ?_⟩; simp [intOf]; omega)

              · have hm' : (t.hi == x - 1) = false := beq_f hm
                have HST2 : Hid (makeR f ((bordersF a b).drop (k + 1)) (init ++ [t] ++ [⟨x, 1073741824⟩]) = makeR f (bordersF a b) []) := hid (by rw [← HST.out, stepR_ne hm])
                clear hm HST
                go_wp2_with fail
                go_quiet (fail)
                have c3e : (wd.drewN nq).cell? ⟨b3, o3 + k, none⟩ = some (.int .i64 x) := c3d
                have HOe : Hid (OwnS 46 (wd.drewN nq) w1.heap.size (.slice (some ⟨g, 0, none⟩) (init ++ [t]).length co) (init ++ [t])) := hid HOd.out
                have HBe : Hid (Below w1.heap.size w1 (wd.drewN nq)) := hid ⟨HBd.out.os, HBd.out.tape, HBd.out.output, HBd.out.size, HBd.out.block⟩
                have hb3e : b3 < (wd.drewN nq).heap.size := hb3d
                have hs1e : w1.heap.size ≤ (wd.drewN nq).heap.size := hs1d
                clear t1 t2 hfz hg2 hgt
                clear c3d HOd HBd hb3d hs1d HBWd
                generalize wd.drewN nq = we at *
                go_wp2_with (at_builtin; refine Hid.out ?_)
                refine hid ?_
                refine wpList_append_own _ rfl _ _ 38 rfl w1.heap.size 46 inf _ 2 16 Try.underlying38 hi0' hz0 hz1 hz2 rfl (by decide) (.slice (some ⟨g, 0, none⟩) (init ++ [t]).length co) _ _ (by first | rfl | (rw [show (init ++ [t]).length = init.length + 1 by simp]; rfl)) (HOe.out.1.alloc _) ⟨we.heap.size, 0, none⟩ 1 1 [.int .i64 x, .int .i64 (1073741824)] rfl rfl
                  (news_at (w := we) (cs := #[_, _]) rfl) (by simp [Value.oneCell']) (by unfold maxLen; simp; omega) (by simp; omega) (by simp; omega) ?_
                intro v' w3 hown3 hg3 hn3
                have hB3 : Below w1.heap.size we w3 := ((Below.refl _ we).alloc HBe.out.size _).trans (below_grown (HOe.out.1.alloc _) hg3 (Nat.le_refl _) (by simp; omega))
                have HO3 : Hid (OwnS 46 w3 w1.heap.size v' (init ++ [t] ++ [⟨x, 1073741824⟩])) := hid (OwnS.push hown3 HOe.out.2 ⟨(⟨by omega, by omega⟩ : I64 x), (⟨by omega, by omega⟩ : I64 (1073741824))⟩)
                have HB3 := hid (HBe.out.trans hB3)
                clear hown3 hg3 hn3 hB3
                go_wp2_with fail
                have HE : Hid (∃ j' : Nat, j' ≤ (bordersF a b).length ∧ Value.int .i64 ((k : Int) + 1) = .int .i64 j' ∧ MakeI w1 w3 f (bordersF a b) _ j') := hid ⟨k + 1, by omega, by push_cast; rfl, init ++ [t] ++ [⟨x, 1073741824⟩], HST2.out, HO3.out, by simp; omega, HB3.out⟩
                first
                  | (refine ⟨HE.out, ?_⟩; simp [intOf]; omega)
                  | (go_simp; refine ⟨by simpa using HE.out, ?_⟩; simp [intOf]; omega)
      · cases cb : hasF b x
        · have hfx : f x = true := by rw [HFX.out, ca, cb]; subst hh; rfl
          rw [ca] at HA
          rw [cb] at HBB
          clear ca cb HFX
          go_wp2_with fail
          obtain ⟨ι, W, ⟨i0, hi0⟩, hW, Wsur⟩ := ext_class wo.drew
          have hne : Nonempty ι := ⟨i0⟩
          have WS := hid Wsur; clear Wsur
          have HW := hid hW; clear hW
          have Hi0 := hid hi0; clear hi0
          refine region_anyL (S := fun w' => ∃ i, w' = W i) (last := 14) (by kernel_rfl) ?_
          have g1 : ∀ i, (W i).cell? ⟨b3, o3 + k, none⟩ = some (.int .i64 x) := fun i => ((HW.out i).cell (p := ⟨b3, o3 + k, none⟩) hb3').trans c3
          refine anyL_seg 0 5 (by kernel_rfl) (fun _ _ _ _ _ h => h) ⟨i0, Hi0.out.symm⟩ (f := 9) rfl (by kernel_rfl) (by kernel_rfl) ?_
          simp only [List.drop_zero, List.take_succ_cons, List.take_zero]
          repeat go_big_quiet_step (fail)
          refine wpQuiet_nil ?_
          refine anyL_seg 6 5 (by kernel_rfl) (fun _ _ _ _ _ h => h) ⟨i0, Hi0.out.symm⟩ (f := 4) rfl (by kernel_rfl) (by kernel_rfl) ?_
          simp only [List.drop_succ_cons, List.drop_zero, List.take_succ_cons, List.take_zero]
          repeat go_big_quiet_step (fail)
          refine wpQuiet_nil ?_
          refine anyL_act (i := 5) (by kernel_rfl) rfl rfl ?_
          intro K hK
          go_wp2_with fail
          refine (HA.out _ HBW.out.drew).mono ?_
          rintro e w2 ⟨rfl, rfl⟩
          go_wp2_with fail
          refine hK.out _ _ (fun _ => ⟨i0, Hi0.out.symm⟩) ?_
          clear hK K
          refine anyL_act (i := 11) (by kernel_rfl) rfl rfl ?_
          intro K hK
          go_wp2_with fail
          refine (HBB.out _ HBW.out.drew).mono ?_
          rintro e w2 ⟨rfl, rfl⟩
          go_wp2_with fail
          refine hK.out _ _ (fun _ => ⟨i0, Hi0.out.symm⟩) ?_
          clear hK K
          refine anyL_seg 12 2 (by kernel_rfl) (fun _ _ _ _ _ h => h) ⟨i0, Hi0.out.symm⟩ (f := 0) rfl (by kernel_rfl) (by kernel_rfl) ?_
          simp only [List.drop_succ_cons, List.drop_zero, List.take_succ_cons, List.take_zero]
          repeat go_big_quiet_step (fail)
          refine wpQuiet_nil ?_
          refine anyL_done (by kernel_rfl) ?_ 0
          clear g1 WS HW Hi0 hne i0 W ι HA HBB
          have c3d : wo.drew.cell? ⟨b3, o3 + k, none⟩ = some (.int .i64 x) := c3
          have HOd : Hid (OwnS 46 wo.drew w1.heap.size (.slice Ao out.length co) out) := hid HO.out
          have HBd : Hid (Below w1.heap.size w1 wo.drew) := hid HB.out.drew
          have HBWd : Hid (Below w.heap.size w wo.drew) := hid HBW.out.drew
          have hb3d : b3 < wo.drew.heap.size := hb3'
          have hs1d : w1.heap.size ≤ wo.drew.heap.size := hs1
          clear c3 HO HB HBW hb3' hs1
          generalize wo.drew = wd at *
          by_cases hn : k + 1 < (bordersF a b).length
          · obtain ⟨y, hy⟩ := at_lt hn
            obtain ⟨hy1, hy2⟩ := borders_bd (List.mem_of_getElem? hy)
            obtain ⟨b4, o4, y4, hA4, _, ⟨hv1, hv2⟩, hcz4⟩ := list_at1 rfl hrow hy
            simp only [List.cons.injEq, and_true] at hv1
            subst hv1
            cases hA4
            have c4 := (HBd.out.cell (p := ⟨b3, o3 + (k + 1), none⟩) hb3).trans (by simpa [intR] using hcz4)
            have hn' : (k : Int) + 1 < (bordersF a b).length := by omega
            have HST : Hid (makeR f ((bordersF a b).drop (k + 1)) (stepR out ⟨x, y - 1⟩) = makeR f (bordersF a b) []) := hid (by rw [← HSTEP.out, if_pos hfx, drop_cons hy]; rfl)
            clear HSTEP hfx hcz4 hv2 hy hn
            rcases list_snoc out with rfl | ⟨init, t, rfl⟩
            · have HST2 : Hid (makeR f ((bordersF a b).drop (k + 1)) [⟨x, y - 1⟩] = makeR f (bordersF a b) []) := hid (by rw [← HST.out, stepR_nil])
              clear HST
              go_wp2_with fail
              go_quiet (fail)
              have c3e : (wd.drewN nq).cell? ⟨b3, o3 + k, none⟩ = some (.int .i64 x) := c3d
              have HOe : Hid (OwnS 46 (wd.drewN nq) w1.heap.size (.slice Ao ([] : List Span).length co) (([] : List Span))) := hid HOd.out
              have HBe : Hid (Below w1.heap.size w1 (wd.drewN nq)) := hid ⟨HBd.out.os, HBd.out.tape, HBd.out.output, HBd.out.size, HBd.out.block⟩
              have hb3e : b3 < (wd.drewN nq).heap.size := hb3d
              have hs1e : w1.heap.size ≤ (wd.drewN nq).heap.size := hs1d
              clear c3d HOd HBd hb3d hs1d HBWd
              generalize wd.drewN nq = we at *
              go_wp2_with (at_builtin; refine Hid.out ?_)
              refine hid ?_
              refine wpList_append_own _ rfl _ _ 38 rfl w1.heap.size 46 inf _ 2 16 Try.underlying38 hi0' hz0 hz1 hz2 rfl (by decide) (.slice Ao ([] : List Span).length co) _ _ (by first | rfl | (rw [show (init ++ [t]).length = init.length + 1 by simp]; rfl)) (HOe.out.1.alloc _) ⟨we.heap.size, 0, none⟩ 1 1 [.int .i64 x, .int .i64 (y - 1)] rfl rfl
                (news_at (w := we) (cs := #[_, _]) rfl) (by simp [Value.oneCell']) (by unfold maxLen; simp) (by simp) (by simp; omega) ?_
              intro v' w3 hown3 hg3 hn3
              have hB3 : Below w1.heap.size we w3 := ((Below.refl _ we).alloc HBe.out.size _).trans (below_grown (HOe.out.1.alloc _) hg3 (Nat.le_refl _) (by simp; omega))
              have HO3 : Hid (OwnS 46 w3 w1.heap.size v' ([] ++ [⟨x, y - 1⟩])) := hid (OwnS.push hown3 HOe.out.2 ⟨(⟨by omega, by omega⟩ : I64 x), (⟨by omega, by omega⟩ : I64 (y - 1))⟩)
              have HB3 := hid (HBe.out.trans hB3)
              clear hown3 hg3 hn3 hB3
              go_wp2_with fail
              have HE : Hid (∃ j' : Nat, j' ≤ (bordersF a b).length ∧ Value.int .i64 ((k : Int) + 1) = .int .i64 j' ∧ MakeI w1 w3 f (bordersF a b) _ j') := hid ⟨k + 1, by omega, by push_cast; rfl, [] ++ [⟨x, y - 1⟩], HST2.out, HO3.out, by simp, HB3.out⟩
              first
                | (refine ⟨HE.out, ?_⟩; simp [intOf]; omega)
                | (go_simp; refine ⟨by simpa using HE.out, ?_⟩; simp [intOf]; omega)

            · have hil : init.length + 1 ≤ k := by simpa using hlo
              obtain ⟨g, cap, cur, hvg, hg1, hg2, hg3, hg4, hg5, hg6⟩ := own_cons HOd.out.1 (by simp)
              cases hvg
              have hgt := heap_lt hg2
              have ht := (HOd.out.2 t (by simp))
              obtain ⟨t1, t2⟩ : wd.cell? ⟨g, init.length * 2, none⟩ = some (.int .i64 t.lo) ∧ wd.cell? ⟨g, init.length * 2 + 1, none⟩ = some (.int .i64 t.hi) := own_last HOd.out.1 hg2
              have hfz := frozen_of_row wd g (init.length * 2 + 1) _ _ hg2
              by_cases hm : t.hi = x - 1
              · have hm' : (t.hi == x - 1) = true := beq_t hm
                have HST2 : Hid (makeR f ((bordersF a b).drop (k + 1)) (init ++ [⟨t.lo, y - 1⟩]) = makeR f (bordersF a b) []) := hid (by rw [← HST.out, stepR_eq hm])
                clear HST hm
                go_wp2_with fail
                go_quiet (fail)
                have c3e : (wd.drewN nq).cell? ⟨b3, o3 + k, none⟩ = some (.int .i64 x) := c3d
                have HOe : Hid (OwnS 46 (wd.drewN nq) w1.heap.size (.slice (some ⟨g, 0, none⟩) (init ++ [t]).length co) (init ++ [t])) := hid HOd.out
                have HBe : Hid (Below w1.heap.size w1 (wd.drewN nq)) := hid ⟨HBd.out.os, HBd.out.tape, HBd.out.output, HBd.out.size, HBd.out.block⟩
                have hb3e : b3 < (wd.drewN nq).heap.size := hb3d
                have hs1e : w1.heap.size ≤ (wd.drewN nq).heap.size := hs1d

                have t2e : (wd.drewN nq).cell? ⟨g, init.length * 2 + 1, none⟩ = some (.int .i64 t.hi) := t2
                have hfe : (wd.drewN nq).frozen? ⟨g, init.length * 2 + 1, none⟩ = false := hfz
                clear t1 t2 hfz hg2 hgt
                clear c3d HOd HBd hb3d hs1d HBWd
                generalize wd.drewN nq = we at *

                have hset := HOe.out.setHi (i := init.length) (x := t) (by simp) (z := y - 1) ⟨by omega, by omega⟩
                have hse : (init ++ [t]).set init.length ⟨t.lo, y - 1⟩ = init ++ [⟨t.lo, y - 1⟩] := by simp
                rw [hse] at hset
                have HO3 := hid hset
                have HB3 := hid (HBe.out.setCell (p := ⟨g, init.length * 2 + 1, none⟩) hg1 (.int .i64 (y - 1)))
                clear hset hse
                go_wp2_with fail
                have HE : Hid (∃ j' : Nat, j' ≤ (bordersF a b).length ∧ Value.int .i64 ((k : Int) + 1) = .int .i64 j' ∧ MakeI w1 _ f (bordersF a b) _ j') := hid ⟨k + 1, by omega, by push_cast; rfl, init ++ [⟨t.lo, y - 1⟩], HST2.out, by simpa using HO3.out, by simp; omega, HB3.out⟩
                first
                  | (refine ⟨HE.out, ?_⟩; simp [intOf]; omega)
                  | (go_simp; refine ⟨by simpa using HE.out, ?_⟩; simp [intOf]; omega)

              · have hm' : (t.hi == x - 1) = false := beq_f hm
                have HST2 : Hid (makeR f ((bordersF a b).drop (k + 1)) (init ++ [t] ++ [⟨x, y - 1⟩]) = makeR f (bordersF a b) []) := hid (by rw [← HST.out, stepR_ne hm])
                clear hm HST
                go_wp2_with fail
                go_quiet (fail)
                have c3e : (wd.drewN nq).cell? ⟨b3, o3 + k, none⟩ = some (.int .i64 x) := c3d
                have HOe : Hid (OwnS 46 (wd.drewN nq) w1.heap.size (.slice (some ⟨g, 0, none⟩) (init ++ [t]).length co) (init ++ [t])) := hid HOd.out
                have HBe : Hid (Below w1.heap.size w1 (wd.drewN nq)) := hid ⟨HBd.out.os, HBd.out.tape, HBd.out.output, HBd.out.size, HBd.out.block⟩
                have hb3e : b3 < (wd.drewN nq).heap.size := hb3d
                have hs1e : w1.heap.size ≤ (wd.drewN nq).heap.size := hs1d
                clear t1 t2 hfz hg2 hgt
                clear c3d HOd HBd hb3d hs1d HBWd
                generalize wd.drewN nq = we at *
                go_wp2_with (at_builtin; refine Hid.out ?_)
                refine hid ?_
                refine wpList_append_own _ rfl _ _ 38 rfl w1.heap.size 46 inf _ 2 16 Try.underlying38 hi0' hz0 hz1 hz2 rfl (by decide) (.slice (some ⟨g, 0, none⟩) (init ++ [t]).length co) _ _ (by first | rfl | (rw [show (init ++ [t]).length = init.length + 1 by simp]; rfl)) (HOe.out.1.alloc _) ⟨we.heap.size, 0, none⟩ 1 1 [.int .i64 x, .int .i64 (y - 1)] rfl rfl
                  (news_at (w := we) (cs := #[_, _]) rfl) (by simp [Value.oneCell']) (by unfold maxLen; simp; omega) (by simp; omega) (by simp; omega) ?_
                intro v' w3 hown3 hg3 hn3
                have hB3 : Below w1.heap.size we w3 := ((Below.refl _ we).alloc HBe.out.size _).trans (below_grown (HOe.out.1.alloc _) hg3 (Nat.le_refl _) (by simp; omega))
                have HO3 : Hid (OwnS 46 w3 w1.heap.size v' (init ++ [t] ++ [⟨x, y - 1⟩])) := hid (OwnS.push hown3 HOe.out.2 ⟨(⟨by omega, by omega⟩ : I64 x), (⟨by omega, by omega⟩ : I64 (y - 1))⟩)
                have HB3 := hid (HBe.out.trans hB3)
                clear hown3 hg3 hn3 hB3
                go_wp2_with fail
                have HE : Hid (∃ j' : Nat, j' ≤ (bordersF a b).length ∧ Value.int .i64 ((k : Int) + 1) = .int .i64 j' ∧ MakeI w1 w3 f (bordersF a b) _ j') := hid ⟨k + 1, by omega, by push_cast; rfl, init ++ [t] ++ [⟨x, y - 1⟩], HST2.out, HO3.out, by simp; omega, HB3.out⟩
                first
                  | (refine ⟨HE.out, ?_⟩; simp [intOf]; omega)
                  | (go_simp; refine ⟨by simpa using HE.out, ?_⟩; simp [intOf]; omega)
          · have hn' : ¬ (k : Int) + 1 < (bordersF a b).length := by omega
            have HST : Hid (makeR f ((bordersF a b).drop (k + 1)) (stepR out ⟨x, 1073741824⟩) = makeR f (bordersF a b) []) := hid (by rw [← HSTEP.out, if_pos hfx, List.drop_eq_nil_of_le (by omega)]; rfl)
            clear HSTEP hfx hn
            rcases list_snoc out with rfl | ⟨init, t, rfl⟩
            · have HST2 : Hid (makeR f ((bordersF a b).drop (k + 1)) [⟨x, 1073741824⟩] = makeR f (bordersF a b) []) := hid (by rw [← HST.out, stepR_nil])
              clear HST
              go_wp2_with fail
              go_quiet (fail)
              have c3e : (wd.drewN nq).cell? ⟨b3, o3 + k, none⟩ = some (.int .i64 x) := c3d
              have HOe : Hid (OwnS 46 (wd.drewN nq) w1.heap.size (.slice Ao ([] : List Span).length co) (([] : List Span))) := hid HOd.out
              have HBe : Hid (Below w1.heap.size w1 (wd.drewN nq)) := hid ⟨HBd.out.os, HBd.out.tape, HBd.out.output, HBd.out.size, HBd.out.block⟩
              have hb3e : b3 < (wd.drewN nq).heap.size := hb3d
              have hs1e : w1.heap.size ≤ (wd.drewN nq).heap.size := hs1d
              clear c3d HOd HBd hb3d hs1d HBWd
              generalize wd.drewN nq = we at *
              go_wp2_with (at_builtin; refine Hid.out ?_)
              refine hid ?_
              refine wpList_append_own _ rfl _ _ 38 rfl w1.heap.size 46 inf _ 2 16 Try.underlying38 hi0' hz0 hz1 hz2 rfl (by decide) (.slice Ao ([] : List Span).length co) _ _ (by first | rfl | (rw [show (init ++ [t]).length = init.length + 1 by simp]; rfl)) (HOe.out.1.alloc _) ⟨we.heap.size, 0, none⟩ 1 1 [.int .i64 x, .int .i64 (1073741824)] rfl rfl
                (news_at (w := we) (cs := #[_, _]) rfl) (by simp [Value.oneCell']) (by unfold maxLen; simp) (by simp) (by simp; omega) ?_
              intro v' w3 hown3 hg3 hn3
              have hB3 : Below w1.heap.size we w3 := ((Below.refl _ we).alloc HBe.out.size _).trans (below_grown (HOe.out.1.alloc _) hg3 (Nat.le_refl _) (by simp; omega))
              have HO3 : Hid (OwnS 46 w3 w1.heap.size v' ([] ++ [⟨x, 1073741824⟩])) := hid (OwnS.push hown3 HOe.out.2 ⟨(⟨by omega, by omega⟩ : I64 x), (⟨by omega, by omega⟩ : I64 (1073741824))⟩)
              have HB3 := hid (HBe.out.trans hB3)
              clear hown3 hg3 hn3 hB3
              go_wp2_with fail
              have HE : Hid (∃ j' : Nat, j' ≤ (bordersF a b).length ∧ Value.int .i64 ((k : Int) + 1) = .int .i64 j' ∧ MakeI w1 w3 f (bordersF a b) _ j') := hid ⟨k + 1, by omega, by push_cast; rfl, [] ++ [⟨x, 1073741824⟩], HST2.out, HO3.out, by simp, HB3.out⟩
              first
                | (refine ⟨HE.out, ?_⟩; simp [intOf]; omega)
                | (go_simp; refine ⟨by simpa using HE.out, ?_⟩; simp [intOf]; omega)

            · have hil : init.length + 1 ≤ k := by simpa using hlo
              obtain ⟨g, cap, cur, hvg, hg1, hg2, hg3, hg4, hg5, hg6⟩ := own_cons HOd.out.1 (by simp)
              cases hvg
              have hgt := heap_lt hg2
              have ht := (HOd.out.2 t (by simp))
              obtain ⟨t1, t2⟩ : wd.cell? ⟨g, init.length * 2, none⟩ = some (.int .i64 t.lo) ∧ wd.cell? ⟨g, init.length * 2 + 1, none⟩ = some (.int .i64 t.hi) := own_last HOd.out.1 hg2
              have hfz := frozen_of_row wd g (init.length * 2 + 1) _ _ hg2
              by_cases hm : t.hi = x - 1
              · have hm' : (t.hi == x - 1) = true := beq_t hm
                have HST2 : Hid (makeR f ((bordersF a b).drop (k + 1)) (init ++ [⟨t.lo, 1073741824⟩]) = makeR f (bordersF a b) []) := hid (by rw [← HST.out, stepR_eq hm])
                clear HST hm
                go_wp2_with fail
                go_quiet (fail)
                have c3e : (wd.drewN nq).cell? ⟨b3, o3 + k, none⟩ = some (.int .i64 x) := c3d
                have HOe : Hid (OwnS 46 (wd.drewN nq) w1.heap.size (.slice (some ⟨g, 0, none⟩) (init ++ [t]).length co) (init ++ [t])) := hid HOd.out
                have HBe : Hid (Below w1.heap.size w1 (wd.drewN nq)) := hid ⟨HBd.out.os, HBd.out.tape, HBd.out.output, HBd.out.size, HBd.out.block⟩
                have hb3e : b3 < (wd.drewN nq).heap.size := hb3d
                have hs1e : w1.heap.size ≤ (wd.drewN nq).heap.size := hs1d

                have t2e : (wd.drewN nq).cell? ⟨g, init.length * 2 + 1, none⟩ = some (.int .i64 t.hi) := t2
                have hfe : (wd.drewN nq).frozen? ⟨g, init.length * 2 + 1, none⟩ = false := hfz
                clear t1 t2 hfz hg2 hgt
                clear c3d HOd HBd hb3d hs1d HBWd
                generalize wd.drewN nq = we at *

                have hset := HOe.out.setHi (i := init.length) (x := t) (by simp) (z := 1073741824) ⟨by omega, by omega⟩
                have hse : (init ++ [t]).set init.length ⟨t.lo, 1073741824⟩ = init ++ [⟨t.lo, 1073741824⟩] := by simp
                rw [hse] at hset
                have HO3 := hid hset
                have HB3 := hid (HBe.out.setCell (p := ⟨g, init.length * 2 + 1, none⟩) hg1 (.int .i64 (1073741824)))
                clear hset hse
                go_wp2_with fail
                have HE : Hid (∃ j' : Nat, j' ≤ (bordersF a b).length ∧ Value.int .i64 ((k : Int) + 1) = .int .i64 j' ∧ MakeI w1 _ f (bordersF a b) _ j') := hid ⟨k + 1, by omega, by push_cast; rfl, init ++ [⟨t.lo, 1073741824⟩], HST2.out, by simpa using HO3.out, by simp; omega, HB3.out⟩
                first
                  | (refine ⟨HE.out, ?_⟩; simp [intOf]; omega)
                  | (go_simp; refine ⟨by simpa using HE.out, ?_⟩; simp [intOf]; omega)

              · have hm' : (t.hi == x - 1) = false := beq_f hm
                have HST2 : Hid (makeR f ((bordersF a b).drop (k + 1)) (init ++ [t] ++ [⟨x, 1073741824⟩]) = makeR f (bordersF a b) []) := hid (by rw [← HST.out, stepR_ne hm])
                clear hm HST
                go_wp2_with fail
                go_quiet (fail)
                have c3e : (wd.drewN nq).cell? ⟨b3, o3 + k, none⟩ = some (.int .i64 x) := c3d
                have HOe : Hid (OwnS 46 (wd.drewN nq) w1.heap.size (.slice (some ⟨g, 0, none⟩) (init ++ [t]).length co) (init ++ [t])) := hid HOd.out
                have HBe : Hid (Below w1.heap.size w1 (wd.drewN nq)) := hid ⟨HBd.out.os, HBd.out.tape, HBd.out.output, HBd.out.size, HBd.out.block⟩
                have hb3e : b3 < (wd.drewN nq).heap.size := hb3d
                have hs1e : w1.heap.size ≤ (wd.drewN nq).heap.size := hs1d
                clear t1 t2 hfz hg2 hgt
                clear c3d HOd HBd hb3d hs1d HBWd
                generalize wd.drewN nq = we at *
                go_wp2_with (at_builtin; refine Hid.out ?_)
                refine hid ?_
                refine wpList_append_own _ rfl _ _ 38 rfl w1.heap.size 46 inf _ 2 16 Try.underlying38 hi0' hz0 hz1 hz2 rfl (by decide) (.slice (some ⟨g, 0, none⟩) (init ++ [t]).length co) _ _ (by first | rfl | (rw [show (init ++ [t]).length = init.length + 1 by simp]; rfl)) (HOe.out.1.alloc _) ⟨we.heap.size, 0, none⟩ 1 1 [.int .i64 x, .int .i64 (1073741824)] rfl rfl
                  (news_at (w := we) (cs := #[_, _]) rfl) (by simp [Value.oneCell']) (by unfold maxLen; simp; omega) (by simp; omega) (by simp; omega) ?_
                intro v' w3 hown3 hg3 hn3
                have hB3 : Below w1.heap.size we w3 := ((Below.refl _ we).alloc HBe.out.size _).trans (below_grown (HOe.out.1.alloc _) hg3 (Nat.le_refl _) (by simp; omega))
                have HO3 : Hid (OwnS 46 w3 w1.heap.size v' (init ++ [t] ++ [⟨x, 1073741824⟩])) := hid (OwnS.push hown3 HOe.out.2 ⟨(⟨by omega, by omega⟩ : I64 x), (⟨by omega, by omega⟩ : I64 (1073741824))⟩)
                have HB3 := hid (HBe.out.trans hB3)
                clear hown3 hg3 hn3 hB3
                go_wp2_with fail
                have HE : Hid (∃ j' : Nat, j' ≤ (bordersF a b).length ∧ Value.int .i64 ((k : Int) + 1) = .int .i64 j' ∧ MakeI w1 w3 f (bordersF a b) _ j') := hid ⟨k + 1, by omega, by push_cast; rfl, init ++ [t] ++ [⟨x, 1073741824⟩], HST2.out, HO3.out, by simp; omega, HB3.out⟩
                first
                  | (refine ⟨HE.out, ?_⟩; simp [intOf]; omega)
                  | (go_simp; refine ⟨by simpa using HE.out, ?_⟩; simp [intOf]; omega)
        · have hfx : f x = true := by rw [HFX.out, ca, cb]; subst hh; rfl
          rw [ca] at HA
          rw [cb] at HBB
          clear ca cb HFX
          go_wp2_with fail
          obtain ⟨ι, W, ⟨i0, hi0⟩, hW, Wsur⟩ := ext_class wo.drew
          have hne : Nonempty ι := ⟨i0⟩
          have WS := hid Wsur; clear Wsur
          have HW := hid hW; clear hW
          have Hi0 := hid hi0; clear hi0
          refine region_anyL (S := fun w' => ∃ i, w' = W i) (last := 14) (by kernel_rfl) ?_
          have g1 : ∀ i, (W i).cell? ⟨b3, o3 + k, none⟩ = some (.int .i64 x) := fun i => ((HW.out i).cell (p := ⟨b3, o3 + k, none⟩) hb3').trans c3
          refine anyL_seg 0 5 (by kernel_rfl) (fun _ _ _ _ _ h => h) ⟨i0, Hi0.out.symm⟩ (f := 9) rfl (by kernel_rfl) (by kernel_rfl) ?_
          simp only [List.drop_zero, List.take_succ_cons, List.take_zero]
          repeat go_big_quiet_step (fail)
          refine wpQuiet_nil ?_
          refine anyL_seg 6 5 (by kernel_rfl) (fun _ _ _ _ _ h => h) ⟨i0, Hi0.out.symm⟩ (f := 4) rfl (by kernel_rfl) (by kernel_rfl) ?_
          simp only [List.drop_succ_cons, List.drop_zero, List.take_succ_cons, List.take_zero]
          repeat go_big_quiet_step (fail)
          refine wpQuiet_nil ?_
          refine anyL_act (i := 5) (by kernel_rfl) rfl rfl ?_
          intro K hK
          go_wp2_with fail
          refine (HA.out _ HBW.out.drew).mono ?_
          rintro e w2 ⟨rfl, rfl⟩
          go_wp2_with fail
          refine hK.out _ _ (fun _ => ⟨i0, Hi0.out.symm⟩) ?_
          clear hK K
          refine anyL_act (i := 11) (by kernel_rfl) rfl rfl ?_
          intro K hK
          go_wp2_with fail
          refine (HBB.out _ HBW.out.drew).mono ?_
          rintro e w2 ⟨rfl, rfl⟩
          go_wp2_with fail
          refine hK.out _ _ (fun _ => ⟨i0, Hi0.out.symm⟩) ?_
          clear hK K
          refine anyL_seg 12 2 (by kernel_rfl) (fun _ _ _ _ _ h => h) ⟨i0, Hi0.out.symm⟩ (f := 0) rfl (by kernel_rfl) (by kernel_rfl) ?_
          simp only [List.drop_succ_cons, List.drop_zero, List.take_succ_cons, List.take_zero]
          repeat go_big_quiet_step (fail)
          refine wpQuiet_nil ?_
          refine anyL_done (by kernel_rfl) ?_ 0
          clear g1 WS HW Hi0 hne i0 W ι HA HBB
          have c3d : wo.drew.cell? ⟨b3, o3 + k, none⟩ = some (.int .i64 x) := c3
          have HOd : Hid (OwnS 46 wo.drew w1.heap.size (.slice Ao out.length co) out) := hid HO.out
          have HBd : Hid (Below w1.heap.size w1 wo.drew) := hid HB.out.drew
          have HBWd : Hid (Below w.heap.size w wo.drew) := hid HBW.out.drew
          have hb3d : b3 < wo.drew.heap.size := hb3'
          have hs1d : w1.heap.size ≤ wo.drew.heap.size := hs1
          clear c3 HO HB HBW hb3' hs1
          generalize wo.drew = wd at *
          by_cases hn : k + 1 < (bordersF a b).length
          · obtain ⟨y, hy⟩ := at_lt hn
            obtain ⟨hy1, hy2⟩ := borders_bd (List.mem_of_getElem? hy)
            obtain ⟨b4, o4, y4, hA4, _, ⟨hv1, hv2⟩, hcz4⟩ := list_at1 rfl hrow hy
            simp only [List.cons.injEq, and_true] at hv1
            subst hv1
            cases hA4
            have c4 := (HBd.out.cell (p := ⟨b3, o3 + (k + 1), none⟩) hb3).trans (by simpa [intR] using hcz4)
            have hn' : (k : Int) + 1 < (bordersF a b).length := by omega
            have HST : Hid (makeR f ((bordersF a b).drop (k + 1)) (stepR out ⟨x, y - 1⟩) = makeR f (bordersF a b) []) := hid (by rw [← HSTEP.out, if_pos hfx, drop_cons hy]; rfl)
            clear HSTEP hfx hcz4 hv2 hy hn
            rcases list_snoc out with rfl | ⟨init, t, rfl⟩
            · have HST2 : Hid (makeR f ((bordersF a b).drop (k + 1)) [⟨x, y - 1⟩] = makeR f (bordersF a b) []) := hid (by rw [← HST.out, stepR_nil])
              clear HST
              go_wp2_with fail
              go_quiet (fail)
              have c3e : (wd.drewN nq).cell? ⟨b3, o3 + k, none⟩ = some (.int .i64 x) := c3d
              have HOe : Hid (OwnS 46 (wd.drewN nq) w1.heap.size (.slice Ao ([] : List Span).length co) (([] : List Span))) := hid HOd.out
              have HBe : Hid (Below w1.heap.size w1 (wd.drewN nq)) := hid ⟨HBd.out.os, HBd.out.tape, HBd.out.output, HBd.out.size, HBd.out.block⟩
              have hb3e : b3 < (wd.drewN nq).heap.size := hb3d
              have hs1e : w1.heap.size ≤ (wd.drewN nq).heap.size := hs1d
              clear c3d HOd HBd hb3d hs1d HBWd
              generalize wd.drewN nq = we at *
              go_wp2_with (at_builtin; refine Hid.out ?_)
              refine hid ?_
              refine wpList_append_own _ rfl _ _ 38 rfl w1.heap.size 46 inf _ 2 16 Try.underlying38 hi0' hz0 hz1 hz2 rfl (by decide) (.slice Ao ([] : List Span).length co) _ _ (by first | rfl | (rw [show (init ++ [t]).length = init.length + 1 by simp]; rfl)) (HOe.out.1.alloc _) ⟨we.heap.size, 0, none⟩ 1 1 [.int .i64 x, .int .i64 (y - 1)] rfl rfl
                (news_at (w := we) (cs := #[_, _]) rfl) (by simp [Value.oneCell']) (by unfold maxLen; simp) (by simp) (by simp; omega) ?_
              intro v' w3 hown3 hg3 hn3
              have hB3 : Below w1.heap.size we w3 := ((Below.refl _ we).alloc HBe.out.size _).trans (below_grown (HOe.out.1.alloc _) hg3 (Nat.le_refl _) (by simp; omega))
              have HO3 : Hid (OwnS 46 w3 w1.heap.size v' ([] ++ [⟨x, y - 1⟩])) := hid (OwnS.push hown3 HOe.out.2 ⟨(⟨by omega, by omega⟩ : I64 x), (⟨by omega, by omega⟩ : I64 (y - 1))⟩)
              have HB3 := hid (HBe.out.trans hB3)
              clear hown3 hg3 hn3 hB3
              go_wp2_with fail
              have HE : Hid (∃ j' : Nat, j' ≤ (bordersF a b).length ∧ Value.int .i64 ((k : Int) + 1) = .int .i64 j' ∧ MakeI w1 w3 f (bordersF a b) _ j') := hid ⟨k + 1, by omega, by push_cast; rfl, [] ++ [⟨x, y - 1⟩], HST2.out, HO3.out, by simp, HB3.out⟩
              first
                | (refine ⟨HE.out, ?_⟩; simp [intOf]; omega)
                | (go_simp; refine ⟨by simpa using HE.out, ?_⟩; simp [intOf]; omega)

            · have hil : init.length + 1 ≤ k := by simpa using hlo
              obtain ⟨g, cap, cur, hvg, hg1, hg2, hg3, hg4, hg5, hg6⟩ := own_cons HOd.out.1 (by simp)
              cases hvg
              have hgt := heap_lt hg2
              have ht := (HOd.out.2 t (by simp))
              obtain ⟨t1, t2⟩ : wd.cell? ⟨g, init.length * 2, none⟩ = some (.int .i64 t.lo) ∧ wd.cell? ⟨g, init.length * 2 + 1, none⟩ = some (.int .i64 t.hi) := own_last HOd.out.1 hg2
              have hfz := frozen_of_row wd g (init.length * 2 + 1) _ _ hg2
              by_cases hm : t.hi = x - 1
              · have hm' : (t.hi == x - 1) = true := beq_t hm
                have HST2 : Hid (makeR f ((bordersF a b).drop (k + 1)) (init ++ [⟨t.lo, y - 1⟩]) = makeR f (bordersF a b) []) := hid (by rw [← HST.out, stepR_eq hm])
                clear HST hm
                go_wp2_with fail
                go_quiet (fail)
                have c3e : (wd.drewN nq).cell? ⟨b3, o3 + k, none⟩ = some (.int .i64 x) := c3d
                have HOe : Hid (OwnS 46 (wd.drewN nq) w1.heap.size (.slice (some ⟨g, 0, none⟩) (init ++ [t]).length co) (init ++ [t])) := hid HOd.out
                have HBe : Hid (Below w1.heap.size w1 (wd.drewN nq)) := hid ⟨HBd.out.os, HBd.out.tape, HBd.out.output, HBd.out.size, HBd.out.block⟩
                have hb3e : b3 < (wd.drewN nq).heap.size := hb3d
                have hs1e : w1.heap.size ≤ (wd.drewN nq).heap.size := hs1d

                have t2e : (wd.drewN nq).cell? ⟨g, init.length * 2 + 1, none⟩ = some (.int .i64 t.hi) := t2
                have hfe : (wd.drewN nq).frozen? ⟨g, init.length * 2 + 1, none⟩ = false := hfz
                clear t1 t2 hfz hg2 hgt
                clear c3d HOd HBd hb3d hs1d HBWd
                generalize wd.drewN nq = we at *

                have hset := HOe.out.setHi (i := init.length) (x := t) (by simp) (z := y - 1) ⟨by omega, by omega⟩
                have hse : (init ++ [t]).set init.length ⟨t.lo, y - 1⟩ = init ++ [⟨t.lo, y - 1⟩] := by simp
                rw [hse] at hset
                have HO3 := hid hset
                have HB3 := hid (HBe.out.setCell (p := ⟨g, init.length * 2 + 1, none⟩) hg1 (.int .i64 (y - 1)))
                clear hset hse
                go_wp2_with fail
                have HE : Hid (∃ j' : Nat, j' ≤ (bordersF a b).length ∧ Value.int .i64 ((k : Int) + 1) = .int .i64 j' ∧ MakeI w1 _ f (bordersF a b) _ j') := hid ⟨k + 1, by omega, by push_cast; rfl, init ++ [⟨t.lo, y - 1⟩], HST2.out, by simpa using HO3.out, by simp; omega, HB3.out⟩
                first
                  | (refine ⟨HE.out, ?_⟩; simp [intOf]; omega)
                  | (go_simp; refine ⟨by simpa using HE.out, ?_⟩; simp [intOf]; omega)

              · have hm' : (t.hi == x - 1) = false := beq_f hm
                have HST2 : Hid (makeR f ((bordersF a b).drop (k + 1)) (init ++ [t] ++ [⟨x, y - 1⟩]) = makeR f (bordersF a b) []) := hid (by rw [← HST.out, stepR_ne hm])
                clear hm HST
                go_wp2_with fail
                go_quiet (fail)
                have c3e : (wd.drewN nq).cell? ⟨b3, o3 + k, none⟩ = some (.int .i64 x) := c3d
                have HOe : Hid (OwnS 46 (wd.drewN nq) w1.heap.size (.slice (some ⟨g, 0, none⟩) (init ++ [t]).length co) (init ++ [t])) := hid HOd.out
                have HBe : Hid (Below w1.heap.size w1 (wd.drewN nq)) := hid ⟨HBd.out.os, HBd.out.tape, HBd.out.output, HBd.out.size, HBd.out.block⟩
                have hb3e : b3 < (wd.drewN nq).heap.size := hb3d
                have hs1e : w1.heap.size ≤ (wd.drewN nq).heap.size := hs1d
                clear t1 t2 hfz hg2 hgt
                clear c3d HOd HBd hb3d hs1d HBWd
                generalize wd.drewN nq = we at *
                go_wp2_with (at_builtin; refine Hid.out ?_)
                refine hid ?_
                refine wpList_append_own _ rfl _ _ 38 rfl w1.heap.size 46 inf _ 2 16 Try.underlying38 hi0' hz0 hz1 hz2 rfl (by decide) (.slice (some ⟨g, 0, none⟩) (init ++ [t]).length co) _ _ (by first | rfl | (rw [show (init ++ [t]).length = init.length + 1 by simp]; rfl)) (HOe.out.1.alloc _) ⟨we.heap.size, 0, none⟩ 1 1 [.int .i64 x, .int .i64 (y - 1)] rfl rfl
                  (news_at (w := we) (cs := #[_, _]) rfl) (by simp [Value.oneCell']) (by unfold maxLen; simp; omega) (by simp; omega) (by simp; omega) ?_
                intro v' w3 hown3 hg3 hn3
                have hB3 : Below w1.heap.size we w3 := ((Below.refl _ we).alloc HBe.out.size _).trans (below_grown (HOe.out.1.alloc _) hg3 (Nat.le_refl _) (by simp; omega))
                have HO3 : Hid (OwnS 46 w3 w1.heap.size v' (init ++ [t] ++ [⟨x, y - 1⟩])) := hid (OwnS.push hown3 HOe.out.2 ⟨(⟨by omega, by omega⟩ : I64 x), (⟨by omega, by omega⟩ : I64 (y - 1))⟩)
                have HB3 := hid (HBe.out.trans hB3)
                clear hown3 hg3 hn3 hB3
                go_wp2_with fail
                have HE : Hid (∃ j' : Nat, j' ≤ (bordersF a b).length ∧ Value.int .i64 ((k : Int) + 1) = .int .i64 j' ∧ MakeI w1 w3 f (bordersF a b) _ j') := hid ⟨k + 1, by omega, by push_cast; rfl, init ++ [t] ++ [⟨x, y - 1⟩], HST2.out, HO3.out, by simp; omega, HB3.out⟩
                first
                  | (refine ⟨HE.out, ?_⟩; simp [intOf]; omega)
                  | (go_simp; refine ⟨by simpa using HE.out, ?_⟩; simp [intOf]; omega)
          · have hn' : ¬ (k : Int) + 1 < (bordersF a b).length := by omega
            have HST : Hid (makeR f ((bordersF a b).drop (k + 1)) (stepR out ⟨x, 1073741824⟩) = makeR f (bordersF a b) []) := hid (by rw [← HSTEP.out, if_pos hfx, List.drop_eq_nil_of_le (by omega)]; rfl)
            clear HSTEP hfx hn
            rcases list_snoc out with rfl | ⟨init, t, rfl⟩
            · have HST2 : Hid (makeR f ((bordersF a b).drop (k + 1)) [⟨x, 1073741824⟩] = makeR f (bordersF a b) []) := hid (by rw [← HST.out, stepR_nil])
              clear HST
              go_wp2_with fail
              go_quiet (fail)
              have c3e : (wd.drewN nq).cell? ⟨b3, o3 + k, none⟩ = some (.int .i64 x) := c3d
              have HOe : Hid (OwnS 46 (wd.drewN nq) w1.heap.size (.slice Ao ([] : List Span).length co) (([] : List Span))) := hid HOd.out
              have HBe : Hid (Below w1.heap.size w1 (wd.drewN nq)) := hid ⟨HBd.out.os, HBd.out.tape, HBd.out.output, HBd.out.size, HBd.out.block⟩
              have hb3e : b3 < (wd.drewN nq).heap.size := hb3d
              have hs1e : w1.heap.size ≤ (wd.drewN nq).heap.size := hs1d
              clear c3d HOd HBd hb3d hs1d HBWd
              generalize wd.drewN nq = we at *
              go_wp2_with (at_builtin; refine Hid.out ?_)
              refine hid ?_
              refine wpList_append_own _ rfl _ _ 38 rfl w1.heap.size 46 inf _ 2 16 Try.underlying38 hi0' hz0 hz1 hz2 rfl (by decide) (.slice Ao ([] : List Span).length co) _ _ (by first | rfl | (rw [show (init ++ [t]).length = init.length + 1 by simp]; rfl)) (HOe.out.1.alloc _) ⟨we.heap.size, 0, none⟩ 1 1 [.int .i64 x, .int .i64 (1073741824)] rfl rfl
                (news_at (w := we) (cs := #[_, _]) rfl) (by simp [Value.oneCell']) (by unfold maxLen; simp) (by simp) (by simp; omega) ?_
              intro v' w3 hown3 hg3 hn3
              have hB3 : Below w1.heap.size we w3 := ((Below.refl _ we).alloc HBe.out.size _).trans (below_grown (HOe.out.1.alloc _) hg3 (Nat.le_refl _) (by simp; omega))
              have HO3 : Hid (OwnS 46 w3 w1.heap.size v' ([] ++ [⟨x, 1073741824⟩])) := hid (OwnS.push hown3 HOe.out.2 ⟨(⟨by omega, by omega⟩ : I64 x), (⟨by omega, by omega⟩ : I64 (1073741824))⟩)
              have HB3 := hid (HBe.out.trans hB3)
              clear hown3 hg3 hn3 hB3
              go_wp2_with fail
              have HE : Hid (∃ j' : Nat, j' ≤ (bordersF a b).length ∧ Value.int .i64 ((k : Int) + 1) = .int .i64 j' ∧ MakeI w1 w3 f (bordersF a b) _ j') := hid ⟨k + 1, by omega, by push_cast; rfl, [] ++ [⟨x, 1073741824⟩], HST2.out, HO3.out, by simp, HB3.out⟩
              first
                | (refine ⟨HE.out, ?_⟩; simp [intOf]; omega)
                | (go_simp; refine ⟨by simpa using HE.out, ?_⟩; simp [intOf]; omega)

            · have hil : init.length + 1 ≤ k := by simpa using hlo
              obtain ⟨g, cap, cur, hvg, hg1, hg2, hg3, hg4, hg5, hg6⟩ := own_cons HOd.out.1 (by simp)
              cases hvg
              have hgt := heap_lt hg2
              have ht := (HOd.out.2 t (by simp))
              obtain ⟨t1, t2⟩ : wd.cell? ⟨g, init.length * 2, none⟩ = some (.int .i64 t.lo) ∧ wd.cell? ⟨g, init.length * 2 + 1, none⟩ = some (.int .i64 t.hi) := own_last HOd.out.1 hg2
              have hfz := frozen_of_row wd g (init.length * 2 + 1) _ _ hg2
              by_cases hm : t.hi = x - 1
              · have hm' : (t.hi == x - 1) = true := beq_t hm
                have HST2 : Hid (makeR f ((bordersF a b).drop (k + 1)) (init ++ [⟨t.lo, 1073741824⟩]) = makeR f (bordersF a b) []) := hid (by rw [← HST.out, stepR_eq hm])
                clear HST hm
                go_wp2_with fail
                go_quiet (fail)
                have c3e : (wd.drewN nq).cell? ⟨b3, o3 + k, none⟩ = some (.int .i64 x) := c3d
                have HOe : Hid (OwnS 46 (wd.drewN nq) w1.heap.size (.slice (some ⟨g, 0, none⟩) (init ++ [t]).length co) (init ++ [t])) := hid HOd.out
                have HBe : Hid (Below w1.heap.size w1 (wd.drewN nq)) := hid ⟨HBd.out.os, HBd.out.tape, HBd.out.output, HBd.out.size, HBd.out.block⟩
                have hb3e : b3 < (wd.drewN nq).heap.size := hb3d
                have hs1e : w1.heap.size ≤ (wd.drewN nq).heap.size := hs1d

                have t2e : (wd.drewN nq).cell? ⟨g, init.length * 2 + 1, none⟩ = some (.int .i64 t.hi) := t2
                have hfe : (wd.drewN nq).frozen? ⟨g, init.length * 2 + 1, none⟩ = false := hfz
                clear t1 t2 hfz hg2 hgt
                clear c3d HOd HBd hb3d hs1d HBWd
                generalize wd.drewN nq = we at *

                have hset := HOe.out.setHi (i := init.length) (x := t) (by simp) (z := 1073741824) ⟨by omega, by omega⟩
                have hse : (init ++ [t]).set init.length ⟨t.lo, 1073741824⟩ = init ++ [⟨t.lo, 1073741824⟩] := by simp
                rw [hse] at hset
                have HO3 := hid hset
                have HB3 := hid (HBe.out.setCell (p := ⟨g, init.length * 2 + 1, none⟩) hg1 (.int .i64 (1073741824)))
                clear hset hse
                go_wp2_with fail
                have HE : Hid (∃ j' : Nat, j' ≤ (bordersF a b).length ∧ Value.int .i64 ((k : Int) + 1) = .int .i64 j' ∧ MakeI w1 _ f (bordersF a b) _ j') := hid ⟨k + 1, by omega, by push_cast; rfl, init ++ [⟨t.lo, 1073741824⟩], HST2.out, by simpa using HO3.out, by simp; omega, HB3.out⟩
                first
                  | (refine ⟨HE.out, ?_⟩; simp [intOf]; omega)
                  | (go_simp; refine ⟨by simpa using HE.out, ?_⟩; simp [intOf]; omega)

              · have hm' : (t.hi == x - 1) = false := beq_f hm
                have HST2 : Hid (makeR f ((bordersF a b).drop (k + 1)) (init ++ [t] ++ [⟨x, 1073741824⟩]) = makeR f (bordersF a b) []) := hid (by rw [← HST.out, stepR_ne hm])
                clear hm HST
                go_wp2_with fail
                go_quiet (fail)
                have c3e : (wd.drewN nq).cell? ⟨b3, o3 + k, none⟩ = some (.int .i64 x) := c3d
                have HOe : Hid (OwnS 46 (wd.drewN nq) w1.heap.size (.slice (some ⟨g, 0, none⟩) (init ++ [t]).length co) (init ++ [t])) := hid HOd.out
                have HBe : Hid (Below w1.heap.size w1 (wd.drewN nq)) := hid ⟨HBd.out.os, HBd.out.tape, HBd.out.output, HBd.out.size, HBd.out.block⟩
                have hb3e : b3 < (wd.drewN nq).heap.size := hb3d
                have hs1e : w1.heap.size ≤ (wd.drewN nq).heap.size := hs1d
                clear t1 t2 hfz hg2 hgt
                clear c3d HOd HBd hb3d hs1d HBWd
                generalize wd.drewN nq = we at *
                go_wp2_with (at_builtin; refine Hid.out ?_)
                refine hid ?_
                refine wpList_append_own _ rfl _ _ 38 rfl w1.heap.size 46 inf _ 2 16 Try.underlying38 hi0' hz0 hz1 hz2 rfl (by decide) (.slice (some ⟨g, 0, none⟩) (init ++ [t]).length co) _ _ (by first | rfl | (rw [show (init ++ [t]).length = init.length + 1 by simp]; rfl)) (HOe.out.1.alloc _) ⟨we.heap.size, 0, none⟩ 1 1 [.int .i64 x, .int .i64 (1073741824)] rfl rfl
                  (news_at (w := we) (cs := #[_, _]) rfl) (by simp [Value.oneCell']) (by unfold maxLen; simp; omega) (by simp; omega) (by simp; omega) ?_
                intro v' w3 hown3 hg3 hn3
                have hB3 : Below w1.heap.size we w3 := ((Below.refl _ we).alloc HBe.out.size _).trans (below_grown (HOe.out.1.alloc _) hg3 (Nat.le_refl _) (by simp; omega))
                have HO3 : Hid (OwnS 46 w3 w1.heap.size v' (init ++ [t] ++ [⟨x, 1073741824⟩])) := hid (OwnS.push hown3 HOe.out.2 ⟨(⟨by omega, by omega⟩ : I64 x), (⟨by omega, by omega⟩ : I64 (1073741824))⟩)
                have HB3 := hid (HBe.out.trans hB3)
                clear hown3 hg3 hn3 hB3
                go_wp2_with fail
                have HE : Hid (∃ j' : Nat, j' ≤ (bordersF a b).length ∧ Value.int .i64 ((k : Int) + 1) = .int .i64 j' ∧ MakeI w1 w3 f (bordersF a b) _ j') := hid ⟨k + 1, by omega, by push_cast; rfl, init ++ [t] ++ [⟨x, 1073741824⟩], HST2.out, HO3.out, by simp; omega, HB3.out⟩
                first
                  | (refine ⟨HE.out, ?_⟩; simp [intOf]; omega)
                  | (go_simp; refine ⟨by simpa using HE.out, ?_⟩; simp [intOf]; omega)
    · obtain rfl : k = (bordersF a b).length := by omega
      have HST : Hid (out = refMake (gOf how) a b) := hid (by
        rw [← HREF.out, ← hst, List.drop_length]; rfl)
      clear hst ho hB hlt
      go_wp2_with fail
      go_ret
      exact ⟨_, rfl, by rw [← HST.out]; exact OwnS.base HO.out hBw1.size, HBW.out⟩
end Go.Proofs.Ytflllgbjlfpgcaa
