/-
  The law EscapeSymbols: its walk.
-/
import Derived.Test.YthfcbbdghggefaaGreatQSyA
import Derived.Test.YthfcbbdghggefaaGreatQEsW
import Derived.Test.YthfcbbdghggefaaGreatPc
import Derived.Laws.BytesArg
namespace Go.Proofs.YthfcbbdghggefaaGreat
open Go.RowKit Go.Um Go.Proofs
/-- the worlds that may come may be told more narrowly. -/
theorem anyL_strong {P : Program} {md : Region.Mode} {ops : Array Oper} {Q : Exit → Act → World → Prop} {S S' : World → Prop} {last : Nat} (hs : ∀ w, S' w → S w) : ∀ (f : Nat) (listed : Array Bool) (a : Act) (w : World), anyL P md ops Q S' last f listed a w → anyL P md ops Q S last f listed a w
  | 0, _, _, _, h => h
  | f + 1, _, _, _, h => ⟨h.1, fun i hi => wpOp_mono (fun a' w' h' => ⟨fun hn => hs _ (h'.1 hn), anyL_strong hs f _ a' w' h'.2⟩) (h.2 i hi)⟩
theorem anyL_twoG {P : Program} {md : Region.Mode} {ops : Array Oper} {Q : Exit → Act → World → Prop} {S : World → Prop} {last i j f : Nat} {oi oj : Oper} {listed : Array Bool} {a : Act} {w : World} (hr : Region.ready md ops listed = [i, j]) (hi : ops[i]? = some oi) (hj : ops[j]? = some oj) (hgi : Region.wanted oi (yielded ops a.tmps) = true) (hgj : Region.wanted oj (yielded ops a.tmps) = true)
    (h1 : ∀ K : Act → World → Prop, Hid (∀ a' w', (i ≠ last → S w') → anyL P md ops Q S last f (listed.setIfInBounds i true) a' w' → K a' w') → oi.wp P a w K Q)
    (h2 : ∀ K : Act → World → Prop, Hid (∀ a' w', (j ≠ last → S w') → anyL P md ops Q S last f (listed.setIfInBounds j true) a' w' → K a' w') → oj.wp P a w K Q) : anyL P md ops Q S last (f + 1) listed a w := by
  refine ⟨fun h0 => (by rw [hr] at h0; cases h0), fun q hq => ?_⟩
  rw [hr] at hq
  simp only [List.mem_cons, List.not_mem_nil, or_false] at hq
  unfold wpOp
  rcases hq with rfl | rfl
  · simp only [hi]
    rw [if_pos hgi]
    exact .inl (h1 _ (fun a' w' q1 q2 => ⟨q1, q2⟩))
  · simp only [hj]
    rw [if_pos hgj]
    exact .inl (h2 _ (fun a' w' q1 q2 => ⟨q1, q2⟩))
theorem conv_text {w : World} {S : Nat → Prop} {v : Value} {xs : List Int} (hne : xs ≠ []) (h : bytesR.rel w S [v] xs) : (convert 31 9 v).run Tryz.prog w = .ok (.string (strOfNums xs)) w := by
  obtain ⟨A, cap, rfl, _, _⟩ := list_form h
  cases xs with
  | nil => exact absurd rfl hne
  | cons x t =>
    obtain ⟨b, o, rfl, _, _, _, _⟩ := byte_at h (i := 0) (x := x) rfl
    refine run_convert_bytes_arg w 31 5 Tryz.underlying31 Tryz.underlying5 b o _ cap (x :: t) rfl (fun i hi => ?_) 9 Tryz.underlying9
    obtain ⟨z, hz⟩ := at_lt hi
    obtain ⟨b', o', he, _, hc, _, _⟩ := byte_at h hz
    injection he with he
    injection he with e1 e2
    subst e1 e2
    rw [List.getD_eq_getElem?_getD, hz]
    exact hc
theorem urlB_ne (b : Int) : urlB b ≠ [] := by unfold urlB; split <;> simp
theorem ownB_block {e : TypeId} {w : World} {base : Nat} {v : Value} {x : List Int} (h : OwnB e w base v x) (hne : x ≠ []) : ∃ g, base ≤ g ∧ g < w.heap.size ∧ ∀ w', w'.heap[g]? = w.heap[g]? → OwnB e w' base v x := by
  rcases h.1.2 with ⟨h1, h2⟩ | ⟨g, cap, cur, h1, h2, h3, h4⟩
  · exact absurd (List.eq_nil_of_length_eq_zero h2) hne
  · exact ⟨g, h2, (Array.getElem?_eq_some_iff.1 h3).1, fun w' hw => ⟨⟨h.1.1, .inr ⟨g, cap, cur, h1, h2, hw.trans h3, h4⟩⟩, h.2⟩⟩
set_option maxHeartbeats 2000000 in
set_option maxRecDepth 100000 in
theorem symbols_law (z b : Int) (hz : I32 z) (hb : 0 ≤ b ∧ b ≤ 255) (w : World) : Calls Tryz.prog 6 #[.int .i32 z, .int .u8 b] w fun e w' => e = .returned (.bool true) ∧ Below w.heap.size w w' := by
  have HAW := hid fun W => eawake_calls W
  have HE := hid fun W => Esc_calls z hz W
  have HR := hid fun W => resc_calls z hz W
  have HSM := hid fun v u W h1 h2 => rsame_calls (escF z) (escF z) v u W h1 h2
  have HU := hid fun W => Unres_calls b hb W
  have HRU := hid fun W => runres_calls b hb W
  have HP := hid fun W => Percent_calls b hb W
  have HRL := hid fun v W h => rurl_calls [b] (by simp) v W h
  rw [show urlF [b] = urlB b by unfold urlF; simp] at HRL
  have HBB := hid hb
  have hbb : (b == b) = true := by simp
  clear hz
  obtain ⟨pb, hpb⟩ : ∃ x, x = plainB b := ⟨_, rfl⟩
  rw [← hpb] at HU HRU
  have hpp : (pb == pb) = true := by cases pb <;> rfl
  clear hpb
  go_enter Tryz.func6, Tryz.ntmps6
  go_wp2_with fail
  obtain ⟨ι, Wc, ⟨i0, hi0'⟩, hWc, Wsur⟩ := held_class w.drew (fun _ => False)
  have hne : Nonempty ι := ⟨i0⟩
  have WS : Hid (∀ W, ∃ i, W = Wc i) := hid fun W => Wsur W fun g hg => hg.elim
  clear Wsur hWc
  have hS0 : ∃ i, w.drew = Wc i := ⟨i0, hi0'.symm⟩
  have hBd : Below w.heap.size w w.drew := have h := Below.refl w.heap.size w; ⟨h.os, h.tape, h.output, h.size, h.block⟩
  have HBd := hid hBd
  clear hBd hi0'
  refine region_anyL (S := fun w' => ∃ i, w' = Wc i) (last := 26) (by kernel_rfl) ?_
  refine anyL_pick [0, 2] (by decide) (by kernel_rfl) (fun _ _ _ _ _ h => h) hS0 (f := 24) rfl (by kernel_rfl) ?_
  show wpQuiet _ _ _ _ [_, _] _
  repeat go_big_quiet_step (fail)
  refine wpQuiet_nil ?_
  refine anyL_act (i := 1) (by kernel_rfl) rfl rfl ?_
  intro K hK
  go_wp2_with fail
  refine (HE.out _).mono ?_
  rintro e w1 ⟨u1, rfl, ho1, hB1⟩
  have HB1 := hid (low' HBd.out hB1)
  have HR1 := hid (rel_up (ho1.fresh (Nat.le_refl _)).1)
  have HO1 := hid ho1
  clear ho1 hB1
  go_wp2_with fail
  refine hK.out _ _ (fun _ => WS.out _) ?_
  clear hK K
  refine anyL_act (i := 3) (by kernel_rfl) rfl rfl ?_
  intro K hK
  go_wp2_with fail
  refine (HR.out _).mono ?_
  rintro e w2 ⟨u2, rfl, ho2, hB2⟩
  have HB2 := hid (low' HB1.out hB2)
  have HR2 := hid (rel_up (ho2.fresh (Nat.le_refl _)).1)
  have HR12 := hid (wordR.below HR1.out hB2 hB2.size)
  clear ho2 hB2
  go_wp2_with fail
  refine hK.out _ _ (fun _ => WS.out _) ?_
  clear hK K
  refine anyL_act (i := 4) (by kernel_rfl) rfl rfl ?_
  intro K hK
  go_wp2_with fail
  refine (HSM.out _ _ _ HR12.out HR2.out).mono ?_
  rintro e w3 ⟨rfl, hB3⟩
  have HB3 := hid (low' HB2.out hB3)
  clear hB3
  go_wp2_with fail
  refine hK.out _ _ (fun _ => WS.out _) ?_
  clear hK K
  refine anyL_pick [5, 6, 8] (by decide) (by kernel_rfl) (fun _ _ _ _ _ h => h) (WS.out _) (f := 18) rfl (by kernel_rfl) ?_
  show wpQuiet _ _ _ _ [_, _, _] _
  repeat go_big_quiet_step (fail)
  refine wpQuiet_nil ?_
  refine anyL_actG (i := 7) (by kernel_rfl) rfl (by rfl) ?_
  intro K hK
  go_wp2_with fail
  refine (HU.out _).mono ?_
  rintro e w4 ⟨rfl, hB4⟩
  have HB4 := hid (low' HB3.out hB4)
  clear hB4
  go_wp2_with fail
  refine hK.out _ _ (fun _ => WS.out _) ?_
  clear hK K
  refine anyL_actG (i := 9) (by kernel_rfl) rfl (by rfl) ?_
  intro K hK
  go_wp2_with fail
  refine (HRU.out _).mono ?_
  rintro e w4' ⟨rfl, hw4⟩
  rw [hw4]
  clear hw4 w4'
  go_wp2_with fail
  refine hK.out _ _ (fun _ => WS.out _) ?_
  clear hK K
  refine anyL_pick [10, 11, 12, 13, 16] (by decide) (by kernel_rfl) (fun _ _ _ _ _ h => h) (WS.out _) (f := 11) rfl (by kernel_rfl) ?_
  show wpQuiet _ _ _ _ [_, _, _, _, _] _
  repeat go_big_quiet_step (fail)
  refine wpQuiet_nil ?_
  refine anyL_twoG (i := 14) (j := 17) (by kernel_rfl) rfl rfl (by rfl) (by rfl) ?_ ?_
  · intro K hK
    go_wp2_with fail
    refine (HP.out _).mono ?_
    rintro e w5 ⟨u5, rfl, ho5, hB5⟩
    have HB5 := hid (low' HB4.out hB5)
    obtain ⟨g5, hg5, hl5, hk5⟩ := ownB_block ho5 (urlB_ne b)
    have HK5 := hid hk5
    obtain ⟨A5, c5, rfl, _, _⟩ := list_form (ho5.rel (S := fun _ => True) fun _ _ => trivial)
    clear ho5 hB5 hk5
    go_wp2_with fail
    refine hK.out _ _ (fun _ => WS.out _) ?_
    clear hK K
    obtain ⟨κ, Wk, ⟨k0, hk0'⟩, hWk, Wsur2⟩ := held_class w5 (fun g => g = g5)
    have hne2 : Nonempty κ := ⟨k0⟩
    refine anyL_strong (S' := fun w' => ∃ i, w' = Wk i) (fun W _ => WS.out W) _ _ _ _ ?_
    have WT := hid Wsur2; clear Wsur2
    have cv : ∀ i, (convert 31 9 (.slice A5 (urlB b).length c5)).run Tryz.prog (Wk i) = .ok (.string (strOfNums (urlB b))) (Wk i) := fun i => conv_text (urlB_ne b) ((HK5.out _ (hWk i _ rfl)).rel (S := fun _ => True) fun _ _ => trivial)
    have hS5 : ∃ i, w5 = Wk i := ⟨k0, hk0'.symm⟩
    refine anyL_pick [15] (by decide) (by kernel_rfl) (fun _ _ _ _ _ h => h) hS5 (f := 9) rfl (by kernel_rfl) ?_
    show wpQuiet _ _ _ _ [_] _
    repeat go_big_quiet_step (fail)
    refine wpQuiet_nil ?_
    clear cv hk0'
    refine anyL_actG (i := 17) (by kernel_rfl) rfl (by rfl) ?_
    intro K hK
    go_wp2_with fail
    have hA6 : Below w5.heap.size w5 (w5.alloc (.cells #[.int .u8 b] 5)) := (Below.refl _ w5).alloc (Nat.le_refl _) _
    have HRO := hid (lit_bytes (w := w5) (C := #[.int .u8 b]) (L := [b]) (ty := 5) (fr := (0, 0)) rfl (by intro y hy; simp at hy; subst hy; exact HBB.out) (by simp))
    have HB6 := hid (low' HB5.out hA6)
    have hS6 : ∃ i, (w5.alloc (.cells #[.int .u8 b] 5)) = Wk i := WT.out _ fun g hg => hA6.block _ (by rw [hg]; exact hl5)
    refine hK.out _ _ (fun _ => hS6) ?_
    clear hK K hA6 hS6
    refine anyL_actG (i := 18) (by kernel_rfl) rfl (by rfl) ?_
    intro K hK
    go_wp2_with fail
    refine (HRL.out _ _ HRO.out).mono ?_
    rintro e w7 ⟨u7, rfl, ho7, hB7⟩
    have HB7 := hid (low' HB6.out hB7)
    have HCV := hid (conv_text (urlB_ne b) (ho7.rel (S := fun _ => True) fun _ _ => trivial))
    have he7 : w7.heap[g5]? = w5.heap[g5]? := (hB7.block _ (by simp; omega)).trans (Below.heap_alloc _ _ _ hl5)
    have hl7 : g5 < w7.heap.size := Nat.lt_of_lt_of_le hl5 (by have := hB7.size; simp at this; omega)
    have hS7 : ∃ i, w7 = Wk i := WT.out _ fun g hg => by rw [hg]; exact he7
    obtain ⟨A7, c7, rfl, _, _⟩ := list_form (ho7.rel (S := fun _ => True) fun _ _ => trivial)
    clear ho7 hB7
    go_wp2_with fail
    refine hK.out _ _ (fun _ => hS7) ?_
    clear hK K
    refine anyL_actG (i := 19) (by kernel_rfl) rfl (by rfl) ?_
    intro K hK
    have hcv7 := HCV.out
    go_wp2_with fail
    refine hK.out _ _ (fun _ => hS7) ?_
    clear hK K hcv7
    have hss : ((strOfNums (urlB b)).toList == (strOfNums (urlB b)).toList) = true := by simp
    refine anyL_pick [20, 21, 22] (by decide) (by kernel_rfl) (fun _ _ _ _ _ h => h) hS7 (f := 3) rfl (by kernel_rfl) ?_
    show wpQuiet _ _ _ _ [_, _, _] _
    repeat go_big_quiet_step (fail)
    refine wpQuiet_nil ?_
    refine anyL_strong (S' := fun w' => ∃ i, w' = Wk i) (fun W h => h) _ _ _ _ ?_
    refine anyL_actG (i := 23) (by kernel_rfl) rfl (by rfl) ?_
    intro K hK
    go_wp2_with fail
    refine (HAW.out _).mono ?_
    rintro e w8 ⟨rfl, hB8⟩
    have HB8 := hid (low' HB7.out hB8)
    have hS8 : ∃ i, w8 = Wk i := WT.out _ fun g hg => by rw [hg]; exact (hB8.block _ hl7).trans he7
    clear hB8
    go_wp2_with fail
    refine hK.out _ _ (fun _ => hS8) ?_
    clear hK K
    refine anyL_pick [24, 25] (by decide) (by kernel_rfl) (fun _ _ _ _ _ h => h) hS8 (f := 0) rfl (by kernel_rfl) ?_
    show wpQuiet _ _ _ _ [_, _] _
    repeat go_big_quiet_step (fail)
    refine wpQuiet_nil ?_
    refine anyL_done (by kernel_rfl) ?_ 0
    clear hS8 hS7 hS5 hS0 WT hWk hne2 k0 Wk κ WS hne i0 Wc ι
    go_wp2_with fail
    go_ret
    exact ⟨rfl, HB8.out⟩
  · intro K hK
    go_wp2_with fail
    have hA6 : Below w4.heap.size w4 (w4.alloc (.cells #[.int .u8 b] 5)) := (Below.refl _ w4).alloc (Nat.le_refl _) _
    have HRO0 := hid (lit_bytes (w := w4) (C := #[.int .u8 b]) (L := [b]) (ty := 5) (fr := (0, 0)) rfl (by intro y hy; simp at hy; subst hy; exact HBB.out) (by simp))
    have HB6 := hid (low' HB4.out hA6)
    refine hK.out _ _ (fun _ => WS.out _) ?_
    clear hK K hA6
    refine anyL_actG (i := 14) (by kernel_rfl) rfl (by rfl) ?_
    intro K hK
    go_wp2_with fail
    refine (HP.out _).mono ?_
    rintro e w5 ⟨u5, rfl, ho5, hB5⟩
    have HB5 := hid (low' HB6.out hB5)
    obtain ⟨g5, hg5, hl5, hk5⟩ := ownB_block ho5 (urlB_ne b)
    have HK5 := hid hk5
    obtain ⟨A5, c5, rfl, _, _⟩ := list_form (ho5.rel (S := fun _ => True) fun _ _ => trivial)
    have HRO := hid (bytesR.below HRO0.out hB5 hB5.size)
    clear ho5 hB5 hk5
    go_wp2_with fail
    refine hK.out _ _ (fun _ => WS.out _) ?_
    clear hK K
    obtain ⟨κ, Wk, ⟨k0, hk0'⟩, hWk, Wsur2⟩ := held_class w5 (fun g => g = g5)
    have hne2 : Nonempty κ := ⟨k0⟩
    refine anyL_strong (S' := fun w' => ∃ i, w' = Wk i) (fun W _ => WS.out W) _ _ _ _ ?_
    have WT := hid Wsur2; clear Wsur2
    have cv : ∀ i, (convert 31 9 (.slice A5 (urlB b).length c5)).run Tryz.prog (Wk i) = .ok (.string (strOfNums (urlB b))) (Wk i) := fun i => conv_text (urlB_ne b) ((HK5.out _ (hWk i _ rfl)).rel (S := fun _ => True) fun _ _ => trivial)
    have hS5 : ∃ i, w5 = Wk i := ⟨k0, hk0'.symm⟩
    refine anyL_pick [15] (by decide) (by kernel_rfl) (fun _ _ _ _ _ h => h) hS5 (f := 8) rfl (by kernel_rfl) ?_
    show wpQuiet _ _ _ _ [_] _
    repeat go_big_quiet_step (fail)
    refine wpQuiet_nil ?_
    clear cv hk0'
    replace HB6 := HB5
    refine anyL_actG (i := 18) (by kernel_rfl) rfl (by rfl) ?_
    intro K hK
    go_wp2_with fail
    refine (HRL.out _ _ HRO.out).mono ?_
    rintro e w7 ⟨u7, rfl, ho7, hB7⟩
    have HB7 := hid (low' HB6.out hB7)
    have HCV := hid (conv_text (urlB_ne b) (ho7.rel (S := fun _ => True) fun _ _ => trivial))
    have he7 : w7.heap[g5]? = w5.heap[g5]? := hB7.block _ hl5
    have hl7 : g5 < w7.heap.size := Nat.lt_of_lt_of_le hl5 (hB7.size)
    have hS7 : ∃ i, w7 = Wk i := WT.out _ fun g hg => by rw [hg]; exact he7
    obtain ⟨A7, c7, rfl, _, _⟩ := list_form (ho7.rel (S := fun _ => True) fun _ _ => trivial)
    clear ho7 hB7
    go_wp2_with fail
    refine hK.out _ _ (fun _ => hS7) ?_
    clear hK K
    refine anyL_actG (i := 19) (by kernel_rfl) rfl (by rfl) ?_
    intro K hK
    have hcv7 := HCV.out
    go_wp2_with fail
    refine hK.out _ _ (fun _ => hS7) ?_
    clear hK K hcv7
    have hss : ((strOfNums (urlB b)).toList == (strOfNums (urlB b)).toList) = true := by simp
    refine anyL_pick [20, 21, 22] (by decide) (by kernel_rfl) (fun _ _ _ _ _ h => h) hS7 (f := 3) rfl (by kernel_rfl) ?_
    show wpQuiet _ _ _ _ [_, _, _] _
    repeat go_big_quiet_step (fail)
    refine wpQuiet_nil ?_
    refine anyL_strong (S' := fun w' => ∃ i, w' = Wk i) (fun W h => h) _ _ _ _ ?_
    refine anyL_actG (i := 23) (by kernel_rfl) rfl (by rfl) ?_
    intro K hK
    go_wp2_with fail
    refine (HAW.out _).mono ?_
    rintro e w8 ⟨rfl, hB8⟩
    have HB8 := hid (low' HB7.out hB8)
    have hS8 : ∃ i, w8 = Wk i := WT.out _ fun g hg => by rw [hg]; exact (hB8.block _ hl7).trans he7
    clear hB8
    go_wp2_with fail
    refine hK.out _ _ (fun _ => hS8) ?_
    clear hK K
    refine anyL_pick [24, 25] (by decide) (by kernel_rfl) (fun _ _ _ _ _ h => h) hS8 (f := 0) rfl (by kernel_rfl) ?_
    show wpQuiet _ _ _ _ [_, _] _
    repeat go_big_quiet_step (fail)
    refine wpQuiet_nil ?_
    refine anyL_done (by kernel_rfl) ?_ 0
    clear hS8 hS7 hS5 hS0 WT hWk hne2 k0 Wk κ WS hne i0 Wc ι
    go_wp2_with fail
    go_ret
    exact ⟨rfl, HB8.out⟩
theorem wf_u8 {n : Int} (h : (Lit.int .u8 n).wf = true) : 0 ≤ n ∧ n ≤ 255 := by
  unfold Lit.wf at h
  rw [Bool.and_eq_true, decide_eq_true_eq, decide_eq_true_eq] at h
  exact h
theorem wf_i32 {n : Int} (h : (Lit.int .i32 n).wf = true) : I32 n := by
  unfold Lit.wf at h
  rw [Bool.and_eq_true, decide_eq_true_eq, decide_eq_true_eq] at h
  exact h
theorem symbols_row (z b : Int) (w : World) (hz : (Lit.int .i32 z).wf = true) (hb : (Lit.int .u8 b).wf = true) : Calls Tryz.prog 6 #[.int .i32 z, .int .u8 b] w fun e w' => e = .returned (.bool true) ∧ Below w.heap.size w w' := symbols_law z b (wf_i32 hz) (wf_u8 hb) w
end Go.Proofs.YthfcbbdghggefaaGreat
