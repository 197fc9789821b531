/-
  The reference's spans: numbers as a set.
-/
import Derived.Test.YtflllgbjlfpgcaaKMakeW
import Derived.Test.YtflllgbjlfpgcaaKPlain
namespace Go.Proofs.Ytflllgbjlfpgcaa
open Go.RowKit Go.Um Go.Proofs
def SpansI (w1 wr : World) (l : List Int) (vo : Value) (k : Nat) : Prop := ∃ out, (l.drop k).foldl (fun out z => stepR out ⟨z, z⟩) out = spansF l ∧ OwnS 46 wr w1.heap.size vo out ∧ out.length ≤ k ∧ Below w1.heap.size w1 wr
set_option maxHeartbeats 4000000 in
set_option maxRecDepth 100000 in
theorem Spans_calls (l : List Int) (v : Value) (w1 : World) (h : (listR intR).rel w1 (upto w1.heap.size) [v] l) (hl : l.length ≤ 10000000) (hbd : ∀ z ∈ l, -1114111 ≤ z ∧ z ≤ 1114111) :
    Calls Try.prog 63 #[v] w1 fun e w' => ∃ u, e = .returned u ∧ OwnS 46 w' w1.heap.size u (spansF l) ∧ Below w1.heap.size w1 w' := by
  obtain ⟨inf, hi0', hz0, hz1, hz2⟩ := info_parts info46
  obtain ⟨A, c, rfl, hc, hm⟩ := list_form h
  unfold maxLen at hm
  go_enter Try.func63, Try.ntmps63
  go_wp2_with fail
  go_loopw [3, 4, 5] (fun vo vi vn wr => (∃ n, n = vn) ∧ ∃ k : Nat, k ≤ l.length ∧ vi = .int .i64 k ∧ SpansI w1 wr l vo k) (fun _ vi _ _ => l.length - (intOf vi).toNat)
  case atStart => exact ⟨⟨_, rfl⟩, 0, Nat.zero_le _, rfl, [], rfl, ⟨World.ownsRow_nil _ _ _ _, by simp⟩, by simp, Below.refl _ _⟩
  case round =>
    obtain ⟨⟨n0, rfl⟩, k, hk, rfl, out, hst, ho, hlo, hB⟩ := hrel
    obtain ⟨wd, hwo⟩ : ∃ wo, wo = wr := ⟨_, rfl⟩
    subst hwo
    have HOd := hid ho
    have HBd := hid hB
    have hs1 := hB.size
    obtain ⟨Ao, co, rfl, hco, hmo⟩ := list_form ho.rel
    unfold maxLen at hmo
    by_cases hlt : k < l.length
    · obtain ⟨x, hx⟩ := at_lt hlt
      have hlt' : (k : Int) < l.length := by omega
      have hxb := hbd x (List.mem_of_getElem? hx)
      obtain ⟨b3, o3, y3, rfl, hb3, ⟨hv1, hv2⟩, hcz3⟩ := list_at1 rfl h hx
      simp only [List.cons.injEq, and_true] at hv1
      subst hv1
      have c3d := (hB.cell (p := ⟨b3, o3 + k, none⟩) hb3).trans (by simpa [intR] using hcz3)
      have hb3d : b3 < wd.heap.size := Nat.lt_of_lt_of_le hb3 hs1
      have HST : Hid ((l.drop (k + 1)).foldl (fun out z => stepR out ⟨z, z⟩) (stepR out ⟨x, x⟩) = spansF l) := hid (by rw [drop_cons hx] at hst; exact hst)
      clear hst ho hB hlt hcz3 hv2
      rcases list_snoc out with rfl | ⟨init, t, rfl⟩
      · have HST2 : Hid ((l.drop (k + 1)).foldl (fun out z => stepR out ⟨z, z⟩) ([] ++ [⟨x, x⟩]) = spansF l) := hid HST.out
        clear HST
        go_wp2_with fail
        go_quiet (fail)
        have c3e : (wd.drewN nq).cell? ⟨b3, o3 + k, none⟩ = some (.int .i64 x) := c3d
        have HOe : Hid (OwnS 46 (wd.drewN nq) w1.heap.size (.slice Ao ([] : List Span).length co) (([] : List Span))) := hid HOd.out
        have HBe : Hid (Below w1.heap.size w1 (wd.drewN nq)) := hid ⟨HBd.out.os, HBd.out.tape, HBd.out.output, HBd.out.size, HBd.out.block⟩
        have hb3e : b3 < (wd.drewN nq).heap.size := hb3d
        have hs1e : w1.heap.size ≤ (wd.drewN nq).heap.size := hs1
        clear c3d HOd HBd hb3d hs1
        generalize wd.drewN nq = we at *
        go_wp2_with fail
        obtain ⟨ι, Wc, ⟨i0, hi0⟩, hWc, Wsur⟩ := held_class we.drew (fun g => g < w1.heap.size)
        have hne : Nonempty ι := ⟨i0⟩
        have WS := hid Wsur; clear Wsur
        have HWc := hid hWc; clear hWc
        have Hi0 := hid hi0; clear hi0
        have g1 : ∀ i, (Wc i).cell? ⟨b3, o3 + k, none⟩ = some (.int .i64 x) := fun i => (cell_of_heap_eq (p := ⟨b3, o3 + k, none⟩) (HWc.out i _ hb3)).trans c3e
        refine region_anyL (S := fun w' => ∃ i, w' = Wc i) (last := 13) (by kernel_rfl) ?_
        refine anyL_seg 0 10 (by kernel_rfl) (fun _ _ _ _ _ h => h) ⟨i0, Hi0.out.symm⟩ (f := 3) rfl (by kernel_rfl) (by kernel_rfl) ?_
        simp only [List.drop_zero, List.take_succ_cons, List.take_zero]
        repeat go_big_quiet_step (fail)
        refine wpQuiet_nil ?_
        refine anyL_act (i := 10) (by kernel_rfl) rfl rfl ?_
        intro K hK
        go_wp2_with fail
        have hS1 : ∃ i, (we.alloc (.cells #[.int .i64 (x), .int .i64 (x)] 46)).drew = Wc i := WS.out _ (fun g hg => Below.heap_alloc _ _ _ (by omega))
        refine hK.out _ _ (fun _ => hS1) ?_
        clear hK K
        refine anyL_act (i := 11) (by kernel_rfl) rfl rfl ?_
        intro K hK
        have hv1 : ((we.alloc (.cells #[.int .i64 (x), .int .i64 (x)] 46)).drew).ownsRow w1.heap.size 46 2 (.slice Ao 0 co) 0 (([] : List Span).flatMap Span.cells) := HOe.out.1.alloc _
        refine act_append_at _ _ 38 rfl w1.heap.size 46 inf _ 2 16 Try.underlying38 hi0' hz0 hz1 hz2 rfl (by decide) (.slice Ao 0 co) 0 _ rfl hv1 ⟨we.heap.size, 0, none⟩ 1 1 [.int .i64 (x), .int .i64 (x)] rfl rfl (news_at (w := we) (cs := #[_, _]) rfl) (by simp [Value.oneCell']) (by unfold maxLen; simp) (by simp) (by simp; omega) ?_
        intro v' w6 hown' hgrow _ hloc
        have hw6 : we.heap.size + 1 ≤ w6.heap.size := by have := hgrow.size; simpa using this
        have hnB : ∀ g, g < w1.heap.size → w6.heap[g]? = we.heap[g]? := fun g hg => by
          rw [hgrow.block g (by simp; omega) (fun h => ?_)]
          · exact Below.heap_alloc _ _ _ (by omega)
          · have := (hv1.lt g h.symm).1; omega
        have hS2 : ∃ i, w6 = Wc i := WS.out _ (fun g hg => hnB g hg)
        refine hK.out _ _ (fun _ => hS2) ?_
        clear hK K
        have hB3 : Below w1.heap.size we w6 := ((Below.refl _ we).alloc HBe.out.size _).trans (below_grown hv1 (show (we.alloc (.cells #[.int .i64 (x), .int .i64 (x)] 46)).grownBy w6 _ from ⟨hgrow.os, hgrow.tape, hgrow.output, hgrow.size, hgrow.block⟩) (Nat.le_refl _) (by simp; omega))
        go_simp
        refine anyL_act (i := 12) (by kernel_rfl) rfl rfl ?_
        intro K hK
        go_wp2_with fail
        refine hK.out _ _ (fun _ => hS2) ?_
        clear hK K
        refine anyL_done (by kernel_rfl) ?_ 0
        have HO3 : Hid (OwnS 46 w6 w1.heap.size v' (([] : List Span) ++ [⟨x, x⟩])) := hid (OwnS.push (x := ⟨x, x⟩) hown' HOe.out.2 ⟨(⟨by omega, by omega⟩ : I64 x), (⟨by omega, by omega⟩ : I64 x)⟩)
        have HB3 := hid (HBe.out.trans hB3)
        clear hown' hgrow hloc hv1 hS1 hS2 hnB hB3 WS HWc Hi0 hne i0 Wc ι g1
        go_wp2_with fail
        have HE : Hid (∃ j' : Nat, j' ≤ l.length ∧ Value.int .i64 ((k : Int) + 1) = .int .i64 j' ∧ SpansI w1 w6 l v' j') := hid ⟨k + 1, by omega, by push_cast; rfl, ([] : List Span) ++ [⟨x, x⟩], HST2.out, HO3.out, by simp, HB3.out⟩
        first
          | (refine ⟨HE.out, ?_⟩; simp [intOf]; omega)
          | (go_simp; refine ⟨by simpa using HE.out, ?_⟩; simp [intOf]; omega)
      · have hil : init.length + 1 ≤ k := by simpa using hlo
        obtain ⟨g, cap, cur, hvg, hg1, hg2, hg3, hg4, hg5, hg6⟩ := own_cons HOd.out.1 (by simp)
        cases hvg
        have hgt := heap_lt hg2
        have ht := (HOd.out.2 t (by simp))
        obtain ⟨t1, t2⟩ : wd.cell? ⟨g, init.length * 2, none⟩ = some (.int .i64 t.lo) ∧ wd.cell? ⟨g, init.length * 2 + 1, none⟩ = some (.int .i64 t.hi) := own_last HOd.out.1 hg2
        have hfz := frozen_of_row wd g (init.length * 2 + 1) _ _ hg2
        by_cases hm : t.hi = x - 1
        · have hm' : (t.hi == x - 1) = true := beq_t hm
          have HST2 : Hid ((l.drop (k + 1)).foldl (fun out z => stepR out ⟨z, z⟩) (init ++ [⟨t.lo, x⟩]) = spansF l) := hid (by rw [← HST.out, stepR_eq hm])
          clear HST hm
          go_wp2_with fail
          go_quiet (fail)
          have c3e : (wd.drewN nq).cell? ⟨b3, o3 + k, none⟩ = some (.int .i64 x) := c3d
          have HOe : Hid (OwnS 46 (wd.drewN nq) w1.heap.size (.slice (some ⟨g, 0, none⟩) (init ++ [t]).length co) (init ++ [t])) := hid HOd.out
          have HBe : Hid (Below w1.heap.size w1 (wd.drewN nq)) := hid ⟨HBd.out.os, HBd.out.tape, HBd.out.output, HBd.out.size, HBd.out.block⟩
          have hb3e : b3 < (wd.drewN nq).heap.size := hb3d
          have hs1e : w1.heap.size ≤ (wd.drewN nq).heap.size := hs1

          have t2e : (wd.drewN nq).cell? ⟨g, init.length * 2 + 1, none⟩ = some (.int .i64 t.hi) := t2
          have hfe : (wd.drewN nq).frozen? ⟨g, init.length * 2 + 1, none⟩ = false := hfz
          clear t1 t2 hfz hg2 hgt
          clear c3d HOd HBd hb3d hs1
          generalize wd.drewN nq = we at *

          have hset := HOe.out.setHi (i := init.length) (x := t) (by simp) (z := x) ⟨by omega, by omega⟩
          have hse : (init ++ [t]).set init.length ⟨t.lo, x⟩ = init ++ [⟨t.lo, x⟩] := by simp
          rw [hse] at hset
          have HO3 := hid hset
          have HB3 := hid (HBe.out.setCell (p := ⟨g, init.length * 2 + 1, none⟩) hg1 (.int .i64 (x)))
          clear hset hse
          go_wp2_with fail
          have HE : Hid (∃ j' : Nat, j' ≤ l.length ∧ Value.int .i64 ((k : Int) + 1) = .int .i64 j' ∧ SpansI w1 _ l _ j') := hid ⟨k + 1, by omega, by push_cast; rfl, init ++ [⟨t.lo, x⟩], HST2.out, by simpa using HO3.out, by simp; omega, HB3.out⟩
          first
            | (refine ⟨HE.out, ?_⟩; simp [intOf]; omega)
            | (go_simp; refine ⟨by simpa using HE.out, ?_⟩; simp [intOf]; omega)

        · have hm' : (t.hi == x - 1) = false := beq_f hm
          have HST2 : Hid ((l.drop (k + 1)).foldl (fun out z => stepR out ⟨z, z⟩) (init ++ [t] ++ [⟨x, x⟩]) = spansF l) := hid (by rw [← HST.out, stepR_ne hm])
          clear hm HST
          go_wp2_with fail
          go_quiet (fail)
          have c3e : (wd.drewN nq).cell? ⟨b3, o3 + k, none⟩ = some (.int .i64 x) := c3d
          have HOe : Hid (OwnS 46 (wd.drewN nq) w1.heap.size (.slice (some ⟨g, 0, none⟩) (init ++ [t]).length co) (init ++ [t])) := hid HOd.out
          have HBe : Hid (Below w1.heap.size w1 (wd.drewN nq)) := hid ⟨HBd.out.os, HBd.out.tape, HBd.out.output, HBd.out.size, HBd.out.block⟩
          have hb3e : b3 < (wd.drewN nq).heap.size := hb3d
          have hs1e : w1.heap.size ≤ (wd.drewN nq).heap.size := hs1
          clear t1 t2 hfz hg2 hgt
          clear c3d HOd HBd hb3d hs1
          generalize wd.drewN nq = we at *
          go_wp2_with fail
          obtain ⟨ι, Wc, ⟨i0, hi0⟩, hWc, Wsur⟩ := held_class we.drew (fun g => g < w1.heap.size)
          have hne : Nonempty ι := ⟨i0⟩
          have WS := hid Wsur; clear Wsur
          have HWc := hid hWc; clear hWc
          have Hi0 := hid hi0; clear hi0
          have g1 : ∀ i, (Wc i).cell? ⟨b3, o3 + k, none⟩ = some (.int .i64 x) := fun i => (cell_of_heap_eq (p := ⟨b3, o3 + k, none⟩) (HWc.out i _ hb3)).trans c3e
          refine region_anyL (S := fun w' => ∃ i, w' = Wc i) (last := 13) (by kernel_rfl) ?_
          refine anyL_seg 0 10 (by kernel_rfl) (fun _ _ _ _ _ h => h) ⟨i0, Hi0.out.symm⟩ (f := 3) rfl (by kernel_rfl) (by kernel_rfl) ?_
          simp only [List.drop_zero, List.take_succ_cons, List.take_zero]
          repeat go_big_quiet_step (fail)
          refine wpQuiet_nil ?_
          refine anyL_act (i := 10) (by kernel_rfl) rfl rfl ?_
          intro K hK
          go_wp2_with fail
          have hS1 : ∃ i, (we.alloc (.cells #[.int .i64 (x), .int .i64 (x)] 46)).drew = Wc i := WS.out _ (fun g hg => Below.heap_alloc _ _ _ (by omega))
          refine hK.out _ _ (fun _ => hS1) ?_
          clear hK K
          refine anyL_act (i := 11) (by kernel_rfl) rfl rfl ?_
          intro K hK
          have hv1 : ((we.alloc (.cells #[.int .i64 (x), .int .i64 (x)] 46)).drew).ownsRow w1.heap.size 46 2 (.slice (some ⟨g, 0, none⟩) (init ++ [t]).length co) (init ++ [t]).length ((init ++ [t]).flatMap Span.cells) := HOe.out.1.alloc _
          refine act_append_at _ _ 38 rfl w1.heap.size 46 inf _ 2 16 Try.underlying38 hi0' hz0 hz1 hz2 rfl (by decide) (.slice (some ⟨g, 0, none⟩) (init ++ [t]).length co) (init ++ [t]).length _ (by first | rfl | (rw [show (init ++ [t]).length = init.length + 1 by simp]; rfl)) hv1 ⟨we.heap.size, 0, none⟩ 1 1 [.int .i64 (x), .int .i64 (x)] rfl rfl (news_at (w := we) (cs := #[_, _]) rfl) (by simp [Value.oneCell']) (by unfold maxLen; simp; omega) (by simp; omega) (by simp; omega) ?_
          intro v' w6 hown' hgrow _ hloc
          have hw6 : we.heap.size + 1 ≤ w6.heap.size := by have := hgrow.size; simpa using this
          have hnB : ∀ g, g < w1.heap.size → w6.heap[g]? = we.heap[g]? := fun g hg => by
            rw [hgrow.block g (by simp; omega) (fun h => ?_)]
            · exact Below.heap_alloc _ _ _ (by omega)
            · have := (hv1.lt g h.symm).1; omega
          have hS2 : ∃ i, w6 = Wc i := WS.out _ (fun g hg => hnB g hg)
          refine hK.out _ _ (fun _ => hS2) ?_
          clear hK K
          have hB3 : Below w1.heap.size we w6 := ((Below.refl _ we).alloc HBe.out.size _).trans (below_grown hv1 (show (we.alloc (.cells #[.int .i64 (x), .int .i64 (x)] 46)).grownBy w6 _ from ⟨hgrow.os, hgrow.tape, hgrow.output, hgrow.size, hgrow.block⟩) (Nat.le_refl _) (by simp; omega))
          go_simp
          refine anyL_act (i := 12) (by kernel_rfl) rfl rfl ?_
          intro K hK
          go_wp2_with fail
          refine hK.out _ _ (fun _ => hS2) ?_
          clear hK K
          refine anyL_done (by kernel_rfl) ?_ 0
          have HO3 : Hid (OwnS 46 w6 w1.heap.size v' ((init ++ [t]) ++ [⟨x, x⟩])) := hid (OwnS.push (x := ⟨x, x⟩) hown' HOe.out.2 ⟨(⟨by omega, by omega⟩ : I64 x), (⟨by omega, by omega⟩ : I64 x)⟩)
          have HB3 := hid (HBe.out.trans hB3)
          clear hown' hgrow hloc hv1 hS1 hS2 hnB hB3 WS HWc Hi0 hne i0 Wc ι g1
          go_wp2_with fail
          have HE : Hid (∃ j' : Nat, j' ≤ l.length ∧ Value.int .i64 ((k : Int) + 1) = .int .i64 j' ∧ SpansI w1 w6 l v' j') := hid ⟨k + 1, by omega, by push_cast; rfl, (init ++ [t]) ++ [⟨x, x⟩], HST2.out, HO3.out, by simp; omega, HB3.out⟩
          first
            | (refine ⟨HE.out, ?_⟩; simp [intOf]; omega)
            | (go_simp; refine ⟨by simpa using HE.out, ?_⟩; simp [intOf]; omega)
    · obtain rfl : k = l.length := by omega
      have HST : Hid (out = spansF l) := hid (by rw [List.drop_length] at hst; exact hst)
      clear hst ho hB hlt
      go_wp2_with fail
      go_ret
      exact ⟨_, rfl, by rw [← HST.out]; exact HOd.out, HBd.out⟩
end Go.Proofs.Ytflllgbjlfpgcaa
