/-
  The reference's Print.
-/
import Derived.Test.YtcdnkmefcldfmaaDoorPgR3
import Derived.Test.YtcdnkmefcldfmaaDoorPgR5
namespace Go.Proofs.YtcdnkmefcldfmaaDoor
open Go.RowKit Go.Um

set_option maxHeartbeats 4000000 in
set_option maxRecDepth 100000 in
theorem rPrint_calls (d : Desc) (v u : Value) (w : World) (hr : (listR ruleR).rel w (upto w.heap.size) [v] d.rules) (hf : (listR finalR).rel w (upto w.heap.size) [u] d.finals) (hd : I64 d.inn ∧ I64 d.out ∧ I64 d.states ∧ I64 d.start) (hbd : (printL d).length ≤ 1000000000000) :
    Calls Tryd.prog 11 #[.agg #[.int .i64 d.inn, .int .i64 d.out, .int .i64 d.states, .int .i64 d.start, v, u]] w fun e w' => e = .returned (.string (bs (printL d))) ∧ Below w.heap.size w w' := by
  obtain ⟨A1, c1, rfl, hc1, hm1⟩ := list_form hr
  obtain ⟨A2, c2, rfl, hc2, hm2⟩ := list_form hf
  unfold maxLen at hm1 hm2
  have hx4 : allI [d.inn, d.out, d.states, d.start] := by intro y hy; simp at hy; rcases hy with rfl | rfl | rfl | rfl <;> first | exact hd.1 | exact hd.2.1 | exact hd.2.2.1 | exact hd.2.2.2
  have hn4 := nums_le hx4 0
  have hsn : (bs (numsFrom 0 [d.inn, d.out, d.states, d.start])).size ≤ 1000 := by rw [bs_size]; simp only [List.length_cons, List.length_nil] at hn4; omega
  have hum : (⟨#[117, 109, 108, 97, 117, 116, 32]⟩ : ByteArray).size = 7 := rfl
  have h10 : (⟨#[10]⟩ : ByteArray).size = 1 := rfl
  have hsu : (⟨#[117, 109, 108, 97, 117, 116, 32]⟩ ++ bs (numsFrom 0 [d.inn, d.out, d.states, d.start]) : ByteArray).size ≤ 1007 := by rw [ByteArray.size_append, hum]; omega
  have HNU := hid (rnumbers_calls (w.heap.size + 1) [d.inn, d.out, d.states, d.start] 4 hx4 (by simp) ((w.alloc (.cells #[.int .i64 d.inn, .int .i64 d.out, .int .i64 d.states, .int .i64 d.start, .slice A1 d.rules.length c1, .slice A2 d.finals.length c2] 26)).alloc (.cells #[.int .i64 d.inn, .int .i64 d.out, .int .i64 d.states, .int .i64 d.start] 3)) (by
    have := heap_alloc_new (w.alloc (.cells #[.int .i64 d.inn, .int .i64 d.out, .int .i64 d.states, .int .i64 d.start, .slice A1 d.rules.length c1, .slice A2 d.finals.length c2] 26)) (.cells #[.int .i64 d.inn, .int .i64 d.out, .int .i64 d.states, .int .i64 d.start] 3)
    simpa using this))
  clear hn4
  go_enter Tryd.func11, Tryd.ntmps11
  go_wp2_with fail
  refine HNU.out.mono ?_
  rintro e w1 ⟨rfl, hb1⟩
  clear HNU
  go_wp2_with fail
  have hT0 : ((w.alloc (.cells #[.int .i64 d.inn, .int .i64 d.out, .int .i64 d.states, .int .i64 d.start, .slice A1 d.rules.length c1, .slice A2 d.finals.length c2] 26)).alloc (.cells #[.int .i64 d.inn, .int .i64 d.out, .int .i64 d.states, .int .i64 d.start] 3)).heap[w.heap.size]? = some (.cells #[.int .i64 d.inn, .int .i64 d.out, .int .i64 d.states, .int .i64 d.start, .slice A1 d.rules.length c1, .slice A2 d.finals.length c2] 26 (0, 0)) := (Below.heap_alloc _ _ _ (by simp)).trans (heap_alloc_new _ _)
  have hT1 : w.heap.size < ((w.alloc (.cells #[.int .i64 d.inn, .int .i64 d.out, .int .i64 d.states, .int .i64 d.start, .slice A1 d.rules.length c1, .slice A2 d.finals.length c2] 26)).alloc (.cells #[.int .i64 d.inn, .int .i64 d.out, .int .i64 d.states, .int .i64 d.start] 3)).heap.size := by simp; omega
  have hbp : Below w.heap.size w ((w.alloc (.cells #[.int .i64 d.inn, .int .i64 d.out, .int .i64 d.states, .int .i64 d.start, .slice A1 d.rules.length c1, .slice A2 d.finals.length c2] 26)).alloc (.cells #[.int .i64 d.inn, .int .i64 d.out, .int .i64 d.states, .int .i64 d.start] 3)) := ((Below.refl _ _).alloc (Nat.le_refl _) _).alloc (by simp) _
  have hT := (hb1.block _ hT1).trans hT0
  have hT2 : w.heap.size < w1.heap.size := Nat.lt_of_lt_of_le hT1 hb1.size
  have hb01 := hbp.trans (hb1.mono hbp.size)
  have hr1 := (listR ruleR).later hr hb01
  have hf1 := (listR finalR).later hf hb01
  clear hT0 hT1 hbp hb1
  rw [show (⟨#[117, 109, 108, 97, 117, 116, 32]⟩ ++ bs (numsFrom 0 [d.inn, d.out, d.states, d.start]) ++ ⟨#[10]⟩ : ByteArray) = bs (nl (headL d)) from by unfold nl headL; rw [← bs_app, ← bs_app]; rfl]
  have hbd1 : (nl (headL d) ++ rulesL d.rules).length ≤ 1000000000000 := by simp only [printL, List.length_append] at hbd ⊢; omega
  go_loopw [3, 4, 5] (fun vs vi v5 wr => (∃ z, z = v5) ∧ ∃ (k : Nat) (M : By), k ≤ d.rules.length ∧ vi = .int .i64 k ∧ vs = .string (bs M) ∧ M ++ rulesL (d.rules.drop k) = nl (headL d) ++ rulesL d.rules ∧ Below w1.heap.size w1 wr) (fun _ vi _ _ => d.rules.length - (intOf vi).toNat)
  case atStart => exact ⟨⟨_, rfl⟩, 0, _, Nat.zero_le _, rfl, rfl, rfl, Below.refl _ _⟩
  case round =>
    obtain ⟨⟨z5, rfl⟩, k, M, hk, rfl, rfl, hM, hB⟩ := hrel
    obtain ⟨wo, hwo⟩ : ∃ wo, wo = wr := ⟨_, rfl⟩
    subst hwo
    have hMl : M.length ≤ 1000000000000 := by have := congrArg List.length hM; rw [List.length_append] at this; omega
    have HM := hid hM; clear hM
    have hms : (bs M).size ≤ 1000000000000 := by rw [bs_size]; exact hMl
    have t4 : wo.cell? ⟨w.heap.size, 4, none⟩ = some (.slice A1 d.rules.length c1) := by rw [Lib.cell_of_heap ((hB.block _ hT2).trans hT)]; rfl
    have t5 : wo.cell? ⟨w.heap.size, 5, none⟩ = some (.slice A2 d.finals.length c2) := by rw [Lib.cell_of_heap ((hB.block _ hT2).trans hT)]; rfl
    have hrr := (listR ruleR).later hr1 hB
    by_cases hlt : k < d.rules.length
    · obtain ⟨x, hxk⟩ := at_lt hlt
      obtain ⟨b1, o1, y1, y2, rfl, hl1, z10, z11, z12, z13, z14, hI, hy1, hy2⟩ := rule_at hrr hxk
      obtain ⟨A3, c3, rfl, hc3, hm3⟩ := list_form hy1
      obtain ⟨A4, c4, rfl, hc4, hm4⟩ := list_form hy2
      have hlt' : (k : Int) < d.rules.length := by omega
      have hx3 : allI [x.src, x.dst, x.eat] := by intro y hy; simp at hy; rcases hy with rfl | rfl | rfl <;> first | exact hI.1 | exact hI.2.1 | exact hI.2.2
      have hn3 := nums_le hx3 0
      have HM2 : Hid ((((M ++ [114, 117, 108, 101, 32]) ++ numsFrom 0 [x.src, x.dst, x.eat]) ++ nl (bodyL x.guards x.out)) ++ rulesL (d.rules.drop (k + 1)) = nl (headL d) ++ rulesL d.rules) := hid (by have := HM.out; rw [drop_cons hxk] at this; simpa only [rulesL, ruleL, nl, List.append_assoc] using this)
      have hbl : (nl (bodyL x.guards x.out)).length ≤ 1000000000000 := by have := congrArg List.length HM2.out; simp only [List.length_append] at this hbd1; omega
      have hbs : (bs (nl (bodyL x.guards x.out))).size ≤ 1000000000000 := by rw [bs_size]; exact hbl
      have hru : (⟨#[114, 117, 108, 101, 32]⟩ : ByteArray).size = 5 := rfl
      have hsn3 : (bs (numsFrom 0 [x.src, x.dst, x.eat])).size ≤ 1000 := by rw [bs_size]; simp only [List.length_cons, List.length_nil] at hn3; omega
      have hms2 : (bs M ++ ⟨#[114, 117, 108, 101, 32]⟩ : ByteArray).size ≤ 1000000000005 := by rw [ByteArray.size_append, hru]; omega
      have hms3 : (bs M ++ ⟨#[114, 117, 108, 101, 32]⟩ ++ bs (numsFrom 0 [x.src, x.dst, x.eat]) : ByteArray).size ≤ 1000000001005 := by rw [ByteArray.size_append]; omega
      have HBO := hid (fun w' (hb : Below wo.heap.size wo w') => rbody_calls x.guards x.out _ _ w' ((listR spansR).later hy1 hb) ((listR termR).later hy2 hb) hbl)
      clear hxk hlt hrr hn3 hy1 hy2
      go_wp2_with fail
      obtain ⟨ι, W, ⟨i0, hi0⟩, hW, Wsur⟩ := ext_class (wo.alloc (.cells #[.int .i64 x.src, .int .i64 x.dst, .slice A3 x.guards.length c3, .int .i64 x.eat, .slice A4 x.out.length c4] 45)).drew
      have hne : Nonempty ι := ⟨i0⟩
      have hR0 : (wo.alloc (.cells #[.int .i64 x.src, .int .i64 x.dst, .slice A3 x.guards.length c3, .int .i64 x.eat, .slice A4 x.out.length c4] 45)).drew.heap[wo.heap.size]? = some (.cells #[.int .i64 x.src, .int .i64 x.dst, .slice A3 x.guards.length c3, .int .i64 x.eat, .slice A4 x.out.length c4] 45 (0, 0)) := heap_alloc_new wo _
      have hR1 : wo.heap.size < (wo.alloc (.cells #[.int .i64 x.src, .int .i64 x.dst, .slice A3 x.guards.length c3, .int .i64 x.eat, .slice A4 x.out.length c4] 45)).drew.heap.size := by
        show wo.heap.size < (wo.alloc (.cells #[.int .i64 x.src, .int .i64 x.dst, .slice A3 x.guards.length c3, .int .i64 x.eat, .slice A4 x.out.length c4] 45)).heap.size
        simp
      have q0 : ∀ i, (W i).cell? ⟨wo.heap.size, 0, none⟩ = some (.int .i64 x.src) := fun i => by rw [Lib.cell_of_heap (((hW i).block _ hR1).trans hR0)]; rfl
      have q1 : ∀ i, (W i).cell? ⟨wo.heap.size, 1, none⟩ = some (.int .i64 x.dst) := fun i => by rw [Lib.cell_of_heap (((hW i).block _ hR1).trans hR0)]; rfl
      have q2 : ∀ i, (W i).cell? ⟨wo.heap.size, 2, none⟩ = some (.slice A3 x.guards.length c3) := fun i => by rw [Lib.cell_of_heap (((hW i).block _ hR1).trans hR0)]; rfl
      have q3 : ∀ i, (W i).cell? ⟨wo.heap.size, 3, none⟩ = some (.int .i64 x.eat) := fun i => by rw [Lib.cell_of_heap (((hW i).block _ hR1).trans hR0)]; rfl
      have q4 : ∀ i, (W i).cell? ⟨wo.heap.size, 4, none⟩ = some (.slice A4 x.out.length c4) := fun i => by rw [Lib.cell_of_heap (((hW i).block _ hR1).trans hR0)]; rfl
      have WS := hid Wsur; clear Wsur
      have HW := hid hW; clear hW
      have Hi0 := hid hi0; clear hi0
      have hbw : Below wo.heap.size wo (wo.alloc (.cells #[.int .i64 x.src, .int .i64 x.dst, .slice A3 x.guards.length c3, .int .i64 x.eat, .slice A4 x.out.length c4] 45)).drew := ((Below.refl _ _).alloc (Nat.le_refl _) _).drew
      clear hR0
      refine region_anyL (S := fun w' => ∃ i, w' = W i) (last := 18) (by kernel_rfl) ?_
      refine anyL_seg 0 8 (by kernel_rfl) (fun _ _ _ _ _ h => h) ⟨i0, Hi0.out.symm⟩ (f := 10) rfl (by kernel_rfl) (by kernel_rfl) ?_
      simp only [List.drop_zero, List.take_succ_cons, List.take_zero]
      repeat go_big_quiet_step (fail)
      refine wpQuiet_nil ?_
      refine anyL_seg 11 4 (by kernel_rfl) (fun _ _ _ _ _ h => h) ⟨i0, Hi0.out.symm⟩ (f := 6) rfl (by kernel_rfl) (by kernel_rfl) ?_
      simp only [List.drop_succ_cons, List.drop_zero, List.take_succ_cons, List.take_zero]
      repeat go_big_quiet_step (fail)
      refine wpQuiet_nil ?_
      refine anyL_act (i := 8) (by kernel_rfl) rfl rfl ?_
      intro K hK
      go_wp2_with fail
      have hz8 : ((wo.alloc (.cells #[.int .i64 x.src, .int .i64 x.dst, .slice A3 x.guards.length c3, .int .i64 x.eat, .slice A4 x.out.length c4] 45)).alloc (.cells #[.int .i64 x.src, .int .i64 x.dst, .int .i64 x.eat] 3)).drew.heap[wo.heap.size + 1]? = some (.cells ⟨[x.src, x.dst, x.eat].map (Value.int .i64)⟩ 3 (0, 0)) := by
        have := heap_alloc_new (wo.alloc (.cells #[.int .i64 x.src, .int .i64 x.dst, .slice A3 x.guards.length c3, .int .i64 x.eat, .slice A4 x.out.length c4] 45)) (.cells #[.int .i64 x.src, .int .i64 x.dst, .int .i64 x.eat] 3)
        show ((wo.alloc (.cells #[.int .i64 x.src, .int .i64 x.dst, .slice A3 x.guards.length c3, .int .i64 x.eat, .slice A4 x.out.length c4] 45)).alloc (.cells #[.int .i64 x.src, .int .i64 x.dst, .int .i64 x.eat] 3)).heap[wo.heap.size + 1]? = _
        simpa using this
      have hb8 : Below (wo.alloc (.cells #[.int .i64 x.src, .int .i64 x.dst, .slice A3 x.guards.length c3, .int .i64 x.eat, .slice A4 x.out.length c4] 45)).drew.heap.size (wo.alloc (.cells #[.int .i64 x.src, .int .i64 x.dst, .slice A3 x.guards.length c3, .int .i64 x.eat, .slice A4 x.out.length c4] 45)).drew ((wo.alloc (.cells #[.int .i64 x.src, .int .i64 x.dst, .slice A3 x.guards.length c3, .int .i64 x.eat, .slice A4 x.out.length c4] 45)).alloc (.cells #[.int .i64 x.src, .int .i64 x.dst, .int .i64 x.eat] 3)).drew := (Below.refl _ _).alloc (Nat.le_refl _) _
      refine hK.out _ _ (fun _ => WS.out i0 _ (by rw [Hi0.out]; exact hb8)) ?_
      clear hK K
      generalize ((wo.alloc (.cells #[.int .i64 x.src, .int .i64 x.dst, .slice A3 x.guards.length c3, .int .i64 x.eat, .slice A4 x.out.length c4] 45)).alloc (.cells #[.int .i64 x.src, .int .i64 x.dst, .int .i64 x.eat] 3)).drew = w8 at hz8 hb8 ⊢
      refine anyL_act (i := 9) (by kernel_rfl) rfl rfl ?_
      intro K hK
      go_wp2_with fail
      refine (rnumbers_calls (wo.heap.size + 1) [x.src, x.dst, x.eat] 3 hx3 (by simp) w8 hz8).mono ?_
      rintro e w9 ⟨rfl, hbw9⟩
      go_wp2_with fail
      have hb09 := hb8.trans (hbw9.mono hb8.size)
      have hS9 : ∃ i, w9 = W i := WS.out i0 _ (by rw [Hi0.out]; exact hb09)
      refine hK.out _ _ (fun _ => hS9) ?_
      clear hK K
      refine anyL_seg 10 1 (by kernel_rfl) (fun _ _ _ _ _ h => h) hS9 (f := 3) rfl (by kernel_rfl) (by kernel_rfl) ?_
      simp only [List.drop_succ_cons, List.drop_zero, List.take_succ_cons, List.take_zero]
      repeat go_big_quiet_step (fail)
      refine wpQuiet_nil ?_
      have hbo9 := hbw.trans (hb09.mono hbw.size)
      refine anyL_act (i := 15) (by kernel_rfl) rfl rfl ?_
      intro K hK
      go_wp2_with fail
      refine (HBO.out w9 hbo9).mono ?_
      rintro e w15 ⟨rfl, hbw15⟩
      go_wp2_with fail
      have hb15 := hb09.trans (hbw15.mono hb09.size)
      have hS15 : ∃ i, w15 = W i := WS.out i0 _ (by rw [Hi0.out]; exact hb15)
      refine hK.out _ _ (fun _ => hS15) ?_
      clear hK K
      refine anyL_seg 16 2 (by kernel_rfl) (fun _ _ _ _ _ h => h) hS15 (f := 0) rfl (by kernel_rfl) (by kernel_rfl) ?_
      simp only [List.drop_succ_cons, List.drop_zero, List.take_succ_cons, List.take_zero]
      repeat go_big_quiet_step (fail)
      refine wpQuiet_nil ?_
      refine anyL_done (by kernel_rfl) ?_ 0
      go_wp2_with fail
      refine ⟨⟨⟨_, rfl⟩, k + 1, ((M ++ [114, 117, 108, 101, 32]) ++ numsFrom 0 [x.src, x.dst, x.eat]) ++ nl (bodyL x.guards x.out), by omega, by go_num, by rw [← bs_app, ← bs_app, ← bs_app]; rfl, HM2.out, hB.trans ((hbw.trans (hb15.mono hbw.size)).mono hB.size)⟩, ?_⟩
      simp [intOf]; omega
    · have hke : k = d.rules.length := by omega
      have hM2 : M = nl (headL d) ++ rulesL d.rules := by have := HM.out; rw [hke, List.drop_length] at this; simpa only [rulesL, List.append_nil] using this
      have HME := hid hM2; clear hM2
      have hlt' : ¬ (k : Int) < d.rules.length := by omega
      clear HM hrr
      go_wp2_with fail
      have hmt : (M ++ finalsL d.finals).length ≤ 1000000000000 := by rw [HME.out]; exact hbd
      go_loopw [3, 6, 7] (fun vs vi v7 wr => (∃ z, z = v7) ∧ ∃ (k : Nat) (N : By), k ≤ d.finals.length ∧ vi = .int .i64 k ∧ vs = .string (bs N) ∧ N ++ finalsL (d.finals.drop k) = M ++ finalsL d.finals ∧ Below w1.heap.size w1 wr) (fun _ vi _ _ => d.finals.length - (intOf vi).toNat)
      case atStart => exact ⟨⟨_, rfl⟩, 0, M, Nat.zero_le _, rfl, rfl, rfl, hB⟩
      case round =>
        obtain ⟨⟨z7, rfl⟩, k, N, hk, rfl, rfl, hN, hB⟩ := hrel
        obtain ⟨wp, hwp⟩ : ∃ wp, wp = wr := ⟨_, rfl⟩
        subst hwp
        have hNl : N.length ≤ 1000000000000 := by have := congrArg List.length hN; simp only [List.length_append] at this hmt; omega
        have HN := hid hN; clear hN
        have hns : (bs N).size ≤ 1000000000000 := by rw [bs_size]; exact hNl
        have t5 : wp.cell? ⟨w.heap.size, 5, none⟩ = some (.slice A2 d.finals.length c2) := by rw [Lib.cell_of_heap ((hB.block _ hT2).trans hT)]; rfl
        have hff := (listR finalR).later hf1 hB
        by_cases hlt : k < d.finals.length
        · obtain ⟨x, hxk⟩ := at_lt hlt
          obtain ⟨b1, o1, y1, y2, rfl, hl1, z10, z11, z12, hI, hy1, hy2⟩ := final_at hff hxk
          obtain ⟨A3, c3, rfl, hc3, hm3⟩ := list_form hy1
          obtain ⟨A4, c4, rfl, hc4, hm4⟩ := list_form hy2
          have hlt' : (k : Int) < d.finals.length := by omega
          have HN2 : Hid ((((N ++ [102, 105, 110, 97, 108, 32]) ++ Lib.itoa x.src) ++ nl (bodyL x.guards x.out)) ++ finalsL (d.finals.drop (k + 1)) = M ++ finalsL d.finals) := hid (by have := HN.out; rw [drop_cons hxk] at this; simpa [finalsL, finalL, nl, numsFrom, sepL] using this)
          have hbl : (nl (bodyL x.guards x.out)).length ≤ 1000000000000 := by have := congrArg List.length HN2.out; simp only [List.length_append] at this hmt; omega
          have hbs : (bs (nl (bodyL x.guards x.out))).size ≤ 1000000000000 := by rw [bs_size]; exact hbl
          have hru : (⟨#[102, 105, 110, 97, 108, 32]⟩ : ByteArray).size = 6 := rfl
          have hle := itoaB_le hI
          have hns2 : (bs N ++ ⟨#[102, 105, 110, 97, 108, 32]⟩ : ByteArray).size ≤ 1000000000006 := by rw [ByteArray.size_append, hru]; omega
          have hns3 : (bs N ++ ⟨#[102, 105, 110, 97, 108, 32]⟩ ++ bs (Lib.itoa x.src) : ByteArray).size ≤ 1000000001006 := by rw [ByteArray.size_append]; omega
          have HBO := hid (fun w' (hb : Below wp.heap.size wp w') => rbody_calls x.guards x.out _ _ w' ((listR spansR).later hy1 hb) ((listR termR).later hy2 hb) hbl)
          clear hxk hlt hff hy1 hy2
          go_wp2_with fail
          obtain ⟨ι, W, ⟨i0, hi0⟩, hW, Wsur⟩ := ext_class (wp.alloc (.cells #[.int .i64 x.src, .slice A3 x.guards.length c3, .slice A4 x.out.length c4] 47)).drew
          have hne : Nonempty ι := ⟨i0⟩
          have hR0 : (wp.alloc (.cells #[.int .i64 x.src, .slice A3 x.guards.length c3, .slice A4 x.out.length c4] 47)).drew.heap[wp.heap.size]? = some (.cells #[.int .i64 x.src, .slice A3 x.guards.length c3, .slice A4 x.out.length c4] 47 (0, 0)) := heap_alloc_new wp _
          have hR1 : wp.heap.size < (wp.alloc (.cells #[.int .i64 x.src, .slice A3 x.guards.length c3, .slice A4 x.out.length c4] 47)).drew.heap.size := by
            show wp.heap.size < (wp.alloc (.cells #[.int .i64 x.src, .slice A3 x.guards.length c3, .slice A4 x.out.length c4] 47)).heap.size
            simp
          have q0 : ∀ i, (W i).cell? ⟨wp.heap.size, 0, none⟩ = some (.int .i64 x.src) := fun i => by rw [Lib.cell_of_heap (((hW i).block _ hR1).trans hR0)]; rfl
          have q1 : ∀ i, (W i).cell? ⟨wp.heap.size, 1, none⟩ = some (.slice A3 x.guards.length c3) := fun i => by rw [Lib.cell_of_heap (((hW i).block _ hR1).trans hR0)]; rfl
          have q2 : ∀ i, (W i).cell? ⟨wp.heap.size, 2, none⟩ = some (.slice A4 x.out.length c4) := fun i => by rw [Lib.cell_of_heap (((hW i).block _ hR1).trans hR0)]; rfl
          have WS := hid Wsur; clear Wsur
          have HW := hid hW; clear hW
          have Hi0 := hid hi0; clear hi0
          have hbw : Below wp.heap.size wp (wp.alloc (.cells #[.int .i64 x.src, .slice A3 x.guards.length c3, .slice A4 x.out.length c4] 47)).drew := ((Below.refl _ _).alloc (Nat.le_refl _) _).drew
          clear hR0
          refine region_anyL (S := fun w' => ∃ i, w' = W i) (last := 13) (by kernel_rfl) ?_
          refine anyL_seg 0 4 (by kernel_rfl) (fun _ _ _ _ _ h => h) ⟨i0, Hi0.out.symm⟩ (f := 9) rfl (by kernel_rfl) (by kernel_rfl) ?_
          simp only [List.drop_zero, List.take_succ_cons, List.take_zero]
          repeat go_big_quiet_step (fail)
          refine wpQuiet_nil ?_
          refine anyL_seg 6 4 (by kernel_rfl) (fun _ _ _ _ _ h => h) ⟨i0, Hi0.out.symm⟩ (f := 5) rfl (by kernel_rfl) (by kernel_rfl) ?_
          simp only [List.drop_succ_cons, List.drop_zero, List.take_succ_cons, List.take_zero]
          repeat go_big_quiet_step (fail)
          refine wpQuiet_nil ?_
          refine anyL_act (i := 4) (by kernel_rfl) rfl rfl ?_
          intro K hK
          go_wp2_with fail
          refine (Number_calls x.src hI _).mono ?_
          rintro e w9 ⟨rfl, hbw9⟩
          go_wp2_with fail
          have hS9 : ∃ i, w9 = W i := WS.out i0 _ (by rw [Hi0.out]; exact hbw9)
          refine hK.out _ _ (fun _ => hS9) ?_
          clear hK K
          refine anyL_seg 5 1 (by kernel_rfl) (fun _ _ _ _ _ h => h) hS9 (f := 3) rfl (by kernel_rfl) (by kernel_rfl) ?_
          simp only [List.drop_succ_cons, List.drop_zero, List.take_succ_cons, List.take_zero]
          repeat go_big_quiet_step (fail)
          refine wpQuiet_nil ?_
          have hbo9 := hbw.trans (hbw9.mono hbw.size)
          refine anyL_act (i := 10) (by kernel_rfl) rfl rfl ?_
          intro K hK
          go_wp2_with fail
          refine (HBO.out w9 hbo9).mono ?_
          rintro e w15 ⟨rfl, hbw15⟩
          go_wp2_with fail
          have hb15 := hbw9.trans (hbw15.mono hbw9.size)
          have hS15 : ∃ i, w15 = W i := WS.out i0 _ (by rw [Hi0.out]; exact hb15)
          refine hK.out _ _ (fun _ => hS15) ?_
          clear hK K
          refine anyL_seg 11 2 (by kernel_rfl) (fun _ _ _ _ _ h => h) hS15 (f := 0) rfl (by kernel_rfl) (by kernel_rfl) ?_
          simp only [List.drop_succ_cons, List.drop_zero, List.take_succ_cons, List.take_zero]
          repeat go_big_quiet_step (fail)
          refine wpQuiet_nil ?_
          refine anyL_done (by kernel_rfl) ?_ 0
          go_wp2_with fail
          refine ⟨⟨⟨_, rfl⟩, k + 1, ((N ++ [102, 105, 110, 97, 108, 32]) ++ Lib.itoa x.src) ++ nl (bodyL x.guards x.out), by omega, by go_num, by rw [← bs_app, ← bs_app, ← bs_app]; rfl, HN2.out, hB.trans ((hbw.trans (hb15.mono hbw.size)).mono hB.size)⟩, ?_⟩
          simp [intOf]; omega
        · have hke : k = d.finals.length := by omega
          have hN2 : N = M ++ finalsL d.finals := by have := HN.out; rw [hke, List.drop_length] at this; simpa only [finalsL, List.append_nil] using this
          have HNE := hid hN2; clear hN2
          have hlt' : ¬ (k : Int) < d.finals.length := by omega
          clear HN hff
          go_wp2_with fail
          go_ret
          exact ⟨congrArg (fun s => Ending.returned (.string s)) (by rw [HNE.out, HME.out]; rfl), hb01.trans (hB.mono hb01.size)⟩
end Go.Proofs.YtcdnkmefcldfmaaDoor
