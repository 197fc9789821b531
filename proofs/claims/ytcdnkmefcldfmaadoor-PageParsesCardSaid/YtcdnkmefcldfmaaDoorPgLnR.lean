/-
  page.line: a rule's line.
-/
import Derived.Test.YtcdnkmefcldfmaaDoorPgLn
namespace Go.Proofs.YtcdnkmefcldfmaaDoor
open Go.RowKit Go.Um

set_option maxHeartbeats 8000000 in
set_option maxRecDepth 100000 in
theorem line_rule (base p B : Nat) (hBb : B ≤ base) (s : ByteArray) (hs : s.size ≤ 65536) (d : Desc) (vr vf : Value) (w : World) (h : DescAt base p d w vr vf) (hv : Vars B w) (hn : d.rules.length ≤ 70000) (hf : d.finals = []) (l1 : By) (hl1 : lit [114, 117, 108, 101, 32] s.data.toList = some l1) :
    Calls Tryd.prog 26 #[.pointer (some ⟨p, 0, none⟩), .string s, .bool false] w (LinePost base p false d s.data.toList w) := by
  obtain ⟨infR, hiR, hr0, hr1, hr2⟩ := info_parts infoRl
  have hlt := h.lt
  have hlow := h.low
  have hBw : B ≤ w.heap.size := by omega
  have hA : Below w.heap.size w (w.alloc (.cells #[.string s, .bool false] 92)) := (Below.refl _ _).alloc (Nat.le_refl _) _
  have HV := hid (hv.on (hA.mono hBw))
  have HRD := hid (rd_new (w := w) hs)
  obtain ⟨A4, c4, rfl⟩ : ∃ A c, vr = .slice A d.rules.length c := by obtain ⟨_, _, ho, _⟩ := h.rules; exact row_form ho
  obtain ⟨Af, cf, rfl⟩ : ∃ A c, vf = .slice A 0 c := by
    obtain ⟨_, _, ho, _⟩ := h.finals
    have := row_form ho
    rwa [hf] at this
  have HD : Hid (DescAt base p d w (.slice A4 d.rules.length c4) (.slice Af 0 cf)) := hid h
  have HFE := hid hf
  have HL1 := hid hl1
  have z5 : (w.alloc (.cells #[.string s, .bool false] 92)).cell? ⟨p, 5, none⟩ = some (.slice Af 0 cf) := by rw [Lib.cell_of_heap (h.later hA).cells]; rfl
  have he := eat_calls w.heap.size (some s.data.toList) ⟨#[114, 117, 108, 101, 32]⟩ _ HRD.out
  have e1 : (some s.data.toList).bind (lit (⟨#[114, 117, 108, 101, 32]⟩ : ByteArray).data.toList) = some l1 := hl1
  have e2 : (some s.data.toList).map (fun l => (lit (⟨#[114, 117, 108, 101, 32]⟩ : ByteArray).data.toList l).getD l) = some l1 := by simp only [Option.map_some]; rw [show lit (⟨#[114, 117, 108, 101, 32]⟩ : ByteArray).data.toList s.data.toList = some l1 from hl1]; rfl
  rw [e1, e2] at he
  have HE := hid he
  clear hv h hf hl1 he e1 e2
  go_enter Tryd.func26, Tryd.ntmps26
  go_wp2_with fail
  refine HE.out.mono ?_
  rintro e w1 ⟨rfl, hrd1, hg1⟩
  have hb1 := below_only hA hg1 (Nat.le_refl _)
  have HV1 := hid (HV.out.on (below_of_only hg1 hBw HRD.out.lt))
  clear z5
  go_wp2_with fail
  refine (rnums_calls w.heap.size B hBw (some l1) 3 (by decide) _ hrd1 HV1.out).mono ?_
  rintro e w2 ⟨g1, xs, s2, rfl, hg1ge, hgc, hxl, hall, hrd2, hfin, hg2⟩
  obtain ⟨x0, x1, x2, rfl⟩ := list3 hxl
  have hg1lt : g1 < w2.heap.size := by
    rcases Nat.lt_or_ge g1 w2.heap.size with h' | h'
    · exact h'
    · simp [Array.getElem?_eq_none h'] at hgc
  have HG1 := hid hgc
  have hb2 := below_only hb1 hg2 (Nat.le_refl _)
  have HFIN := hid hfin
  have HV2 := hid (HV1.out.on (below_of_only hg2 hBw hrd1.lt))
  have hg1b : w.heap.size < g1 := by have := hrd1.lt; omega
  have HIX : Hid (I64 x0 ∧ I64 x1 ∧ I64 x2) := hid ⟨hall x0 (by simp), hall x1 (by simp), hall x2 (by simp)⟩
  have hsw := hb2.size
  clear hgc hfin hxl hall
  go_wp2_with fail
  obtain ⟨ι, W, ⟨i0, hi0⟩, hW, Wsur⟩ := held_class w2.drew (fun g => g = g1)
  have hne : Nonempty ι := ⟨i0⟩
  have q0 : ∀ i, (W i).cell? ⟨g1, 0, none⟩ = some (.int .i64 x0) := fun i => by rw [Lib.cell_of_heap ((hW i _ rfl).trans HG1.out)]; rfl
  have q1 : ∀ i, (W i).cell? ⟨g1, 1, none⟩ = some (.int .i64 x1) := fun i => by rw [Lib.cell_of_heap ((hW i _ rfl).trans HG1.out)]; rfl
  have q2 : ∀ i, (W i).cell? ⟨g1, 2, none⟩ = some (.int .i64 x2) := fun i => by rw [Lib.cell_of_heap ((hW i _ rfl).trans HG1.out)]; rfl
  have WS := hid Wsur; clear Wsur
  have HW := hid hW; clear hW
  have Hi0 := hid hi0; clear hi0
  refine region_anyL (S := fun w' => ∃ i, w' = W i) (last := 13) (by kernel_rfl) ?_
  refine anyL_seg 0 10 (by kernel_rfl) (fun _ _ _ _ _ h => h) ⟨i0, Hi0.out.symm⟩ (f := 4) rfl (by kernel_rfl) (by kernel_rfl) ?_
  simp only [List.drop_zero, List.take_succ_cons, List.take_zero]
  repeat go_big_quiet_step (fail)
  refine wpQuiet_nil ?_
  refine anyL_two (i := 10) (j := 12) (by kernel_rfl) rfl rfl rfl rfl ?_ ?_
  · intro K hK
    go_wp2_with fail
    refine (guards_calls w.heap.size B hBw s2 _ (hrd2.later (Below.drew (Below.refl _ _))) (HV2.out.on (Below.drew (Below.refl _ _)))).mono ?_
    rintro e w3 ⟨vg, gs, s3, rfl, hgs, hrd3, hf3, hg3⟩
    obtain ⟨A5, c5, rfl, _, _⟩ := list_form hgs
    go_wp2_with fail
    have hS : ∃ i, w3 = W i := WS.out _ (fun g hg => by subst hg; exact hg3.block _ hg1lt (by simp; omega))
    refine hK.out _ _ (fun _ => hS) ?_
    clear hK K
    refine anyL_seg 11 1 (by kernel_rfl) (fun _ _ _ _ _ h => h) hS (f := 2) rfl (by kernel_rfl) (by kernel_rfl) ?_
    simp only [List.drop_succ_cons, List.drop_zero, List.take_succ_cons, List.take_zero]
    repeat go_big_quiet_step (fail)
    refine wpQuiet_nil ?_
    refine anyL_act (i := 12) (by kernel_rfl) rfl rfl ?_
    intro K hK
    go_wp2_with fail
    refine hK.out _ _ (fun _ => WS.out _ (fun g hg => by subst hg; exact (Below.heap_alloc _ _ _ (Nat.lt_of_lt_of_le hg1lt hg3.size)).trans (hg3.block _ hg1lt (by simp; omega)))) ?_
    clear hK K
    refine anyL_act (i := 13) (by kernel_rfl) rfl rfl ?_
    intro K hK
    go_wp2_with fail
    refine hK.out _ _ (fun h => absurd rfl h) ?_
    clear hK K
    refine anyL_done (by kernel_rfl) ?_ _
    clear q0 q1 q2 hS WS HW Hi0 hne i0 W ι
    have hb3 := below_only (hb2.drew) hg3 (Nat.le_refl _)
    obtain ⟨q, hqe⟩ : ∃ q, q = w3.heap.size := ⟨_, rfl⟩
    have hq : w.heap.size < q := by have := hrd3.lt; omega
    have hb5 : Below w.heap.size w (w3.alloc (.cells #[.int .i64 x0, .int .i64 x1, .slice A5 gs.length c5, .int .i64 x2, .slice none 0 0] 45)) := hb3.alloc hb3.size _
    have hk5 : ∀ g, g < w3.heap.size → (w3.alloc (.cells #[.int .i64 x0, .int .i64 x1, .slice A5 gs.length c5, .int .i64 x2, .slice none 0 0] 45)).heap[g]? = w3.heap[g]? := fun g hg => Below.heap_alloc _ _ _ hg
    have hq5 : (w3.alloc (.cells #[.int .i64 x0, .int .i64 x1, .slice A5 gs.length c5, .int .i64 x2, .slice none 0 0] 45)).heap[q]? = some (.cells #[.int .i64 x0, .int .i64 x1, .slice A5 gs.length c5, .int .i64 x2, .slice none 0 0] 45 (0, 0)) := by rw [hqe]; exact heap_alloc_new _ _
    have HV5 := hid ((HV2.out.on (Below.drew (Below.refl _ _))).on (below_of_only hg3 hBw hrd2.lt) |>.on ((Below.refl _ _).alloc (by have := hb3.size; omega) (.cells #[.int .i64 x0, .int .i64 x1, .slice A5 gs.length c5, .int .i64 x2, .slice none 0 0] 45)))
    rw [← hqe]
    generalize w3.alloc (.cells #[.int .i64 x0, .int .i64 x1, .slice A5 gs.length c5, .int .i64 x2, .slice none 0 0] 45) = w5 at hb5 hk5 hq5 HV5 ⊢
    have HG5 := hid ((listR spansR).mono (w' := w5) (S' := Dat w5) (fun p' hp' => cell_of_heap_eq (hk5 _ (hp'.elim Tag.lt Tag.lt))) (fun g hg' => (show Dat w3 g from hg'.imp id .inl).keep (hk5 g (hg'.elim Tag.lt Tag.lt))) hgs)
    have hrd5 := hrd3.keep (hk5 _ hrd3.lt)
    have HQ5 := hid hq5
    have HF3 := hid hf3
    clear hqe hk5 hq5 hf3 hgs
    go_wp2_with fail
    refine (terms_calls w.heap.size B hBw s3 _ hrd5 HV5.out).mono ?_
    rintro e w6 ⟨vt, ts, s4, rfl, hts, hrd6, htl, hg6⟩
    obtain ⟨A6, c6, rfl, _, _⟩ := list_form hts
    have hq5lt : q < w5.heap.size := by
      have h1 := HQ5.out
      rcases Nat.lt_or_ge q w5.heap.size with h' | h'
      · exact h'
      · simp [Array.getElem?_eq_none h'] at h1
    have hqb : q ≠ w.heap.size := by omega
    have HQ6 := hid ((hg6.block q hq5lt (by simp; exact hqb)).trans HQ5.out)
    have hb6 := below_only hb5 hg6 (Nat.le_refl _)
    have z6 : w6.cell? ⟨q, 4, none⟩ = some (.slice none 0 0) := by rw [Lib.cell_of_heap HQ6.out]; rfl
    have f6 : w6.frozen? ⟨q, 4, none⟩ = false := Lib.frozen_of_heap HQ6.out _
    have HTL := hid htl
    have hrb5 := hrd5.tag
    clear htl
    have HGS6 := hid ((listR spansR).mono (w' := w6) (S' := Dat w6) (fun p' hp' => cell_of_heap_eq (hg6.block _ hp'.lt (by simp; exact Dat.ne hp' hrb5 (by decide) (by decide) (by decide) (by decide)))) (fun g hg' => hg'.keep (hg6.block g hg'.lt (by simp; exact Dat.ne hg' hrb5 (by decide) (by decide) (by decide) (by decide)))) HG5.out)
    have HTS6 := hid ((listR termR).mono (w' := w6) (S' := Dat w6) (fun _ _ => rfl) (fun g hg' => by rcases hg' with h1 | h1; exact .inr (.inr (.inl h1)); exact .inr (.inr (.inr h1))) hts)
    clear hts
    go_wp2_with fail
    have hq6lt : q < w6.heap.size := Nat.lt_of_lt_of_le hq5lt hg6.size
    have hset : ∀ (u : Value) (g : Nat), g ≠ q → (w6.setCell ⟨q, 4, none⟩ u).heap[g]? = w6.heap[g]? := fun u g hg => Below.heap_setCell _ _ _ _ hg
    have hq7 := heap_set w6 q 4 (.slice A6 ts.length c6) HQ6.out
    have htq : Tag 45 w6 q := ⟨_, _, HQ6.out⟩
    have HGS7 := hid ((listR spansR).mono (w' := w6.setCell ⟨q, 4, none⟩ (.slice A6 ts.length c6)) (S' := Dat (w6.setCell ⟨q, 4, none⟩ (.slice A6 ts.length c6))) (fun p' hp' => cell_of_heap_eq (hset _ _ (Dat.ne hp' htq (by decide) (by decide) (by decide) (by decide)))) (fun g hg' => hg'.keep (hset _ g (Dat.ne hg' htq (by decide) (by decide) (by decide) (by decide)))) HGS6.out)
    have HTS7 := hid ((listR termR).mono (w' := w6.setCell ⟨q, 4, none⟩ (.slice A6 ts.length c6)) (S' := Dat (w6.setCell ⟨q, 4, none⟩ (.slice A6 ts.length c6))) (fun p' hp' => cell_of_heap_eq (hset _ _ (Dat.ne hp' htq (by decide) (by decide) (by decide) (by decide)))) (fun g hg' => hg'.keep (hset _ g (Dat.ne hg' htq (by decide) (by decide) (by decide) (by decide)))) HTS6.out)
    have hb7 : Below w.heap.size w (w6.setCell ⟨q, 4, none⟩ (.slice A6 ts.length c6)) := hb6.setCell (by show w.heap.size ≤ q; omega) _
    have hrd7 : RdS w.heap.size (w6.setCell ⟨q, 4, none⟩ (.slice A6 ts.length c6)) s4 := hrd6.keep (hset _ _ (Ne.symm hqb))
    have hs7 : (w6.setCell ⟨q, 4, none⟩ (.slice A6 ts.length c6)).heap.size ≥ w6.heap.size := by simp [World.setCell]
    generalize w6.setCell ⟨q, 4, none⟩ (.slice A6 ts.length c6) = w7 at hq7 HGS7 HTS7 hb7 hrd7 hs7 ⊢
    have HQ7 : Hid (w7.heap[q]? = some (.cells #[.int .i64 x0, .int .i64 x1, .slice A5 gs.length c5, .int .i64 x2, .slice A6 ts.length c6] 45 (0, 0))) := hid hq7
    have HD7 := hid (HD.out.later hb7)
    clear z6 f6 hset hq7 htq HGS6 HTS6 hrd6
    obtain ⟨css, hcl, hown, hel⟩ := HD7.out.rules
    clear hel
    have hrow : ∀ g, (Value.slice A4 d.rules.length c4).ownBlock = some g → Tag 45 w7 g ∧ base ≤ g ∧ g < w.heap.size := fun g hg' => ⟨(own_tag hown g hg').1, (own_tag hown g hg').2, (HD.out.rules.tag g hg').1.lt⟩
    have hq7lt : q < w7.heap.size := by omega
    have hp7lt : p < w7.heap.size := HD7.out.lt
    go_wp2_with fail
    obtain ⟨ι, W, ⟨i0, hi0⟩, hW, Wsur⟩ := held_class w7.drew (fun g => g = p ∨ g = q)
    have hne : Nonempty ι := ⟨i0⟩
    have q0 : ∀ i, (W i).cell? ⟨p, 4, none⟩ = some (.slice A4 d.rules.length c4) := fun i => by rw [Lib.cell_of_heap ((hW i _ (.inl rfl)).trans HD7.out.cells)]; rfl
    have q1 : ∀ i, (W i).cell? ⟨q, 0, none⟩ = some (.int .i64 x0) := fun i => by rw [Lib.cell_of_heap ((hW i _ (.inr rfl)).trans HQ7.out)]; rfl
    have q2 : ∀ i, (W i).cell? ⟨q, 1, none⟩ = some (.int .i64 x1) := fun i => by rw [Lib.cell_of_heap ((hW i _ (.inr rfl)).trans HQ7.out)]; rfl
    have q3 : ∀ i, (W i).cell? ⟨q, 2, none⟩ = some (.slice A5 gs.length c5) := fun i => by rw [Lib.cell_of_heap ((hW i _ (.inr rfl)).trans HQ7.out)]; rfl
    have q4 : ∀ i, (W i).cell? ⟨q, 3, none⟩ = some (.int .i64 x2) := fun i => by rw [Lib.cell_of_heap ((hW i _ (.inr rfl)).trans HQ7.out)]; rfl
    have q5 : ∀ i, (W i).cell? ⟨q, 4, none⟩ = some (.slice A6 ts.length c6) := fun i => by rw [Lib.cell_of_heap ((hW i _ (.inr rfl)).trans HQ7.out)]; rfl
    have WS := hid Wsur; clear Wsur
    have HW := hid hW; clear hW
    have Hi0 := hid hi0; clear hi0
    refine region_anyL (S := fun w' => ∃ i, w' = W i) (last := 10) (by kernel_rfl) ?_
    refine anyL_seg 0 6 (by kernel_rfl) (fun _ _ _ _ _ h => h) ⟨i0, Hi0.out.symm⟩ (f := 5) rfl (by kernel_rfl) (by kernel_rfl) ?_
    simp only [List.drop_zero, List.take_succ_cons, List.take_zero]
    repeat go_big_quiet_step (fail)
    refine wpQuiet_nil ?_
    refine anyL_act (i := 6) (by kernel_rfl) rfl rfl ?_
    intro K hK
    go_wp2_with fail
    refine hK.out _ _ (fun _ => WS.out _ (fun g hg => by rcases hg with rfl | rfl; exact Below.heap_alloc _ _ _ hp7lt; exact Below.heap_alloc _ _ _ hq7lt)) ?_
    clear hK K
    have hA7 : Below w7.heap.size w7 (w7.alloc (.cells #[.int .i64 x0, .int .i64 x1, .slice A5 gs.length c5, .int .i64 x2, .slice A6 ts.length c6] 45)).drew := ((Below.refl _ _).alloc (Nat.le_refl _) _).drew
    have hown7 : (w7.alloc (.cells #[.int .i64 x0, .int .i64 x1, .slice A5 gs.length c5, .int .i64 x2, .slice A6 ts.length c6] 45)).drew.ownsRow base 45 5 (.slice A4 d.rules.length c4) d.rules.length css.flatten := hown.alloc _
    have hbs : base ≤ w7.heap.size := by have := HD7.out.lt; omega
    refine anyL_act (i := 7) (by kernel_rfl) rfl rfl ?_
    intro K hK
    refine act_append_at _ _ 23 rfl base 45 infR _ 5 72 Tryd.underlying23 hiR hr0 hr1 hr2 rfl (by decide) _ _ _ rfl hown7 ⟨w7.heap.size, 0, none⟩ 1 1 [.int .i64 x0, .int .i64 x1, .slice A5 gs.length c5, .int .i64 x2, .slice A6 ts.length c6] rfl rfl (news_at (w := w7) (cs := #[.int .i64 x0, .int .i64 x1, .slice A5 gs.length c5, .int .i64 x2, .slice A6 ts.length c6]) rfl) (by simp [Value.oneCell']) (by unfold maxLen; omega) (by omega) (by simp; omega) ?_
    intro v9 w9 hown9 hg9 _ _
    go_simp
    have hk9 := after_append hA7 hg9 (fun g hg => (hrow g hg).1)
    have hkp : w9.heap[p]? = w7.heap[p]? := hk9 p hp7lt (fun ht => Tag.ne HD7.out.tag ht (by decide) rfl)
    have hkq : w9.heap[q]? = w7.heap[q]? := (hg9.block q (Nat.lt_of_lt_of_le hq7lt hA7.size) (fun he => by have := (hrow q he.symm).2.2; omega)).trans (hA7.block q hq7lt)
    have hs9 : ∃ i, w9 = W i := WS.out _ (fun g hg => by rcases hg with rfl | rfl; exact hkp; exact hkq)
    refine hK.out _ _ (fun _ => hs9) ?_
    clear hK K
    refine anyL_seg 8 2 (by kernel_rfl) (fun _ _ _ _ _ h => h) hs9 (f := 1) rfl (by kernel_rfl) (by kernel_rfl) ?_
    simp only [List.drop_succ_cons, List.drop_zero, List.take_succ_cons, List.take_zero]
    repeat go_big_quiet_step (fail)
    refine wpQuiet_nil ?_
    have HP9 := hid (hkp.trans HD7.out.cells)
    have z9 : w9.cell? ⟨p, 4, none⟩ = some (.slice A4 d.rules.length c4) := by rw [Lib.cell_of_heap HP9.out]; rfl
    have zf : w9.frozen? ⟨p, 4, none⟩ = false := Lib.frozen_of_heap HP9.out _
    obtain ⟨A9, c9, rfl⟩ := row_form hown9
    have HO9 := hid hown9
    have HG9 := hid hg9
    have hrd9 := hrd7.keep (hk9 _ hrd7.lt (fun ht => Tag.ne hrd7.tag ht (by decide) rfl))
    clear hown9 hg9
    refine anyL_act (i := 10) (by kernel_rfl) rfl rfl ?_
    intro K hK
    go_wp2_with fail
    refine hK.out _ _ (fun h => absurd rfl h) ?_
    clear hK K
    refine anyL_done (by kernel_rfl) ?_ _
    clear q0 q1 q2 q3 q4 q5 hs9 WS HW Hi0 hne i0 W ι z9 zf
    have hpb : p ≠ w.heap.size := by omega
    have h10 : ∀ g, g ≠ p → (w9.setCell ⟨p, 4, none⟩ (.slice A9 (d.rules.length + 1) c9)).heap[g]? = w9.heap[g]? := fun g hg => Below.heap_setCell _ _ _ _ hg
    have hp10 := heap_set w9 p 4 (.slice A9 (d.rules.length + 1) c9) HP9.out
    have hb10 : Below base w (w9.setCell ⟨p, 4, none⟩ (.slice A9 (d.rules.length + 1) c9)) := ((((hb7.mono (by omega)).trans (hA7.mono hbs)).grown HG9.out (by have := hA7.size; omega) (fun g hg => (hrow g hg).2.1))).setCell (by show base ≤ p; omega) _
    have hrd10 := hrd9.keep (h10 _ (Ne.symm hpb))
    generalize w9.setCell ⟨p, 4, none⟩ (.slice A9 (d.rules.length + 1) c9) = w10 at h10 hp10 hb10 hrd10 ⊢
    have HDE : Hid (DescAt base p (addR d (ruleOf gs ts [x0, x1, x2])) w10 (.slice A9 (d.rules.length + 1) c9) (.slice Af 0 cf)) := hid (by
      refine DescAt.addRule (w5 := w7) (wA := (w7.alloc (.cells #[.int .i64 x0, .int .i64 x1, .slice A5 gs.length c5, .int .i64 x2, .slice A6 ts.length c6] 45)).drew) (w6 := w9) (cs := [.int .i64 x0, .int .i64 x1, .slice A5 gs.length c5, .int .i64 x2, .slice A6 ts.length c6]) HD7.out hA7 HG9.out hp10 h10 (fun css' hl' ho' => ?_) ?_
      · have e : css'.flatten = css.flatten := own_same ho' hown
        rw [e]
        exact HO9.out
      · exact ⟨_, _, rfl, HIX.out, HGS7.out, HTS7.out⟩)
    obtain ⟨s', bad, hbb, hsz', hst'⟩ := hrd10
    have xb : w10.cell? ⟨w.heap.size, 1, none⟩ = some (.bool bad) := by rw [Lib.cell_of_heap hbb]; rfl
    have HRES := hid (rule_res HFIN.out HF3.out HTL.out)
    clear hbb hrow hk9 hkp hkq h10 hp10 hown hown7
    cases hs4 : s4 with
    | none =>
      subst hs4
      simp only at hst'
      subst hst'
      have HF : Hid (lineF false d s.data.toList = none) := hid (by
        rcases HRES.out with ⟨h1, _⟩ | ⟨_, h2⟩
        · cases h1
        · exact line_rule_none HFE.out HL1.out h2)
      go_wp2_with fail
      go_ret
      exact post_none (first := false) (d := d) HF.out hb10
    | some r =>
      subst hs4
      simp only at hst'
      obtain ⟨rfl, _⟩ := hst'
      have HF : Hid (lineF false d s.data.toList = some (addR d (ruleOf gs ts [x0, x1, x2]))) := hid (by
        rcases HRES.out with ⟨_, h2⟩ | ⟨h1, _⟩
        · exact line_rule_some HFE.out HL1.out h2
        · cases h1)
      go_wp2_with fail
      go_ret
      exact post_some (first := false) (d := d) HF.out ⟨_, _, HDE.out⟩ hb10
  · intro K hK
    go_wp2_with fail
    refine hK.out _ _ (fun _ => WS.out _ (fun g hg => by subst hg; exact Below.heap_alloc _ _ _ hg1lt)) ?_
    clear hK K
    refine anyL_act (i := 10) (by kernel_rfl) rfl rfl ?_
    intro K hK
    have hBz : Below w2.heap.size w2 (w2.alloc (.cells #[.int .i64 0, .int .i64 0, .slice none 0 0, .int .i64 0, .slice none 0 0] 45)).drew := ((Below.refl _ _).alloc (Nat.le_refl _) _).drew
    have hqz : (w2.alloc (.cells #[.int .i64 0, .int .i64 0, .slice none 0 0, .int .i64 0, .slice none 0 0] 45)).drew.heap[w2.heap.size]? = some (.cells #[.int .i64 0, .int .i64 0, .slice none 0 0, .int .i64 0, .slice none 0 0] 45 (0, 0)) := heap_alloc_new _ _
    have hgz : (w2.alloc (.cells #[.int .i64 0, .int .i64 0, .slice none 0 0, .int .i64 0, .slice none 0 0] 45)).drew.heap[g1]? = w2.heap[g1]? := Below.heap_alloc _ _ _ hg1lt
    have hsz : w2.heap.size < (w2.alloc (.cells #[.int .i64 0, .int .i64 0, .slice none 0 0, .int .i64 0, .slice none 0 0] 45)).drew.heap.size := by show _ < (w2.alloc _).heap.size; simp
    go_wp2_with fail
    generalize (w2.alloc (.cells #[.int .i64 0, .int .i64 0, .slice none 0 0, .int .i64 0, .slice none 0 0] 45)).drew = wz at hBz hqz hgz hsz ⊢
    have hrdz := hrd2.later hBz
    refine (guards_calls w.heap.size B hBw s2 _ hrdz (HV2.out.on (hBz.mono (by omega)))).mono ?_
    rintro e w3 ⟨vg, gs, s3, rfl, hgs, hrd3, hf3, hg3⟩
    obtain ⟨A5, c5, rfl, _, _⟩ := list_form hgs
    go_wp2_with fail
    have hS : ∃ i, w3 = W i := WS.out _ (fun g hg => by subst hg; exact (hg3.block _ (Nat.lt_trans hg1lt hsz) (by simp; omega)).trans hgz)
    refine hK.out _ _ (fun _ => hS) ?_
    clear hK K
    refine anyL_seg 11 1 (by kernel_rfl) (fun _ _ _ _ _ h => h) hS (f := 1) rfl (by kernel_rfl) (by kernel_rfl) ?_
    simp only [List.drop_succ_cons, List.drop_zero, List.take_succ_cons, List.take_zero]
    repeat go_big_quiet_step (fail)
    refine wpQuiet_nil ?_
    have hql : w.heap.size < w2.heap.size := hrd2.lt
    have HQ3 : Hid (w3.heap[w2.heap.size]? = some (.cells #[.int .i64 0, .int .i64 0, .slice none 0 0, .int .i64 0, .slice none 0 0] 45 (0, 0))) := hid ((hg3.block w2.heap.size (by omega) (by simp; omega)).trans hqz)
    have y0 : w3.cell? ⟨w2.heap.size, 0, none⟩ = some (.int .i64 0) := by rw [Lib.cell_of_heap HQ3.out]; rfl
    have y1 : w3.cell? ⟨w2.heap.size, 1, none⟩ = some (.int .i64 0) := by rw [Lib.cell_of_heap HQ3.out]; rfl
    have y2 : w3.cell? ⟨w2.heap.size, 2, none⟩ = some (.slice none 0 0) := by rw [Lib.cell_of_heap HQ3.out]; rfl
    have y3 : w3.cell? ⟨w2.heap.size, 3, none⟩ = some (.int .i64 0) := by rw [Lib.cell_of_heap HQ3.out]; rfl
    have y4 : w3.cell? ⟨w2.heap.size, 4, none⟩ = some (.slice none 0 0) := by rw [Lib.cell_of_heap HQ3.out]; rfl
    have t0 : w3.frozen? ⟨w2.heap.size, 0, none⟩ = false := Lib.frozen_of_heap HQ3.out _
    have t1 : w3.frozen? ⟨w2.heap.size, 1, none⟩ = false := Lib.frozen_of_heap HQ3.out _
    have t2 : w3.frozen? ⟨w2.heap.size, 2, none⟩ = false := Lib.frozen_of_heap HQ3.out _
    have t3 : w3.frozen? ⟨w2.heap.size, 3, none⟩ = false := Lib.frozen_of_heap HQ3.out _
    have t4 : w3.frozen? ⟨w2.heap.size, 4, none⟩ = false := Lib.frozen_of_heap HQ3.out _
    refine anyL_act (i := 13) (by kernel_rfl) rfl rfl ?_
    intro K hK
    go_wp2_with fail
    refine hK.out _ _ (fun h => absurd rfl h) ?_
    clear hK K y0 y1 y2 y3 y4 t0 t1 t2 t3 t4
    refine anyL_done (by kernel_rfl) ?_ _
    clear q0 q1 q2 hS WS HW Hi0 hne i0 W ι
    have hb3 := below_only (hb2.trans (hBz.mono hb2.size)) hg3 (Nat.le_refl _)
    have hq5 := heap_set _ w2.heap.size 4 (.slice none 0 0) (heap_set _ w2.heap.size 3 (.int .i64 x2) (heap_set _ w2.heap.size 2 (.slice A5 gs.length c5) (heap_set _ w2.heap.size 1 (.int .i64 x1) (heap_set w3 w2.heap.size 0 (.int .i64 x0) HQ3.out))))
    have hk5 : ∀ g, g ≠ w2.heap.size → (((((w3.setCell ⟨w2.heap.size, 0, none⟩ (.int .i64 x0)).setCell ⟨w2.heap.size, 1, none⟩ (.int .i64 x1)).setCell ⟨w2.heap.size, 2, none⟩ (.slice A5 gs.length c5)).setCell ⟨w2.heap.size, 3, none⟩ (.int .i64 x2)).setCell ⟨w2.heap.size, 4, none⟩ (.slice none 0 0)).heap[g]? = w3.heap[g]? := fun g hg => by
      rw [Below.heap_setCell _ _ _ _ hg, Below.heap_setCell _ _ _ _ hg, Below.heap_setCell _ _ _ _ hg, Below.heap_setCell _ _ _ _ hg, Below.heap_setCell _ _ _ _ hg]
    have hql2 : w.heap.size ≤ w2.heap.size := by omega
    have hbb5 : Below w.heap.size w3 (((((w3.setCell ⟨w2.heap.size, 0, none⟩ (.int .i64 x0)).setCell ⟨w2.heap.size, 1, none⟩ (.int .i64 x1)).setCell ⟨w2.heap.size, 2, none⟩ (.slice A5 gs.length c5)).setCell ⟨w2.heap.size, 3, none⟩ (.int .i64 x2)).setCell ⟨w2.heap.size, 4, none⟩ (.slice none 0 0)) :=
      (((((Below.refl _ _).setCell (p := ⟨w2.heap.size, 0, none⟩) hql2 _).setCell (p := ⟨w2.heap.size, 1, none⟩) hql2 _).setCell (p := ⟨w2.heap.size, 2, none⟩) hql2 _).setCell (p := ⟨w2.heap.size, 3, none⟩) hql2 _).setCell (p := ⟨w2.heap.size, 4, none⟩) hql2 _
    have hb5 := hb3.trans hbb5
    have HV5 := hid (((HV2.out.on (hBz.mono (by omega))).on (below_of_only hg3 hBw hrdz.lt)).on (hbb5.mono hBw))
    generalize (((((w3.setCell ⟨w2.heap.size, 0, none⟩ (.int .i64 x0)).setCell ⟨w2.heap.size, 1, none⟩ (.int .i64 x1)).setCell ⟨w2.heap.size, 2, none⟩ (.slice A5 gs.length c5)).setCell ⟨w2.heap.size, 3, none⟩ (.int .i64 x2)).setCell ⟨w2.heap.size, 4, none⟩ (.slice none 0 0)) = w5 at hb5 hbb5 hk5 hq5 HV5 ⊢
    obtain ⟨q, hqe⟩ : ∃ q, q = w2.heap.size := ⟨_, rfl⟩
    have HTQ : Hid (Tag 45 w3 q) := hid ⟨_, _, by rw [hqe]; exact HQ3.out⟩
    have hq : w.heap.size < q := by omega
    rw [← hqe] at hq5 hk5 ⊢
    have htq := HTQ.out
    have HG5 := hid ((listR spansR).mono (w' := w5) (S' := Dat w5) (fun p' hp' => cell_of_heap_eq (hk5 _ (Dat.ne (show Dat w3 _ from hp'.imp id .inl) htq (by decide) (by decide) (by decide) (by decide)))) (fun g hg' => (show Dat w3 g from hg'.imp id .inl).keep (hk5 g (Dat.ne (show Dat w3 g from hg'.imp id .inl) htq (by decide) (by decide) (by decide) (by decide)))) hgs)
    have hrd5 := hrd3.keep (hk5 _ (by omega))
    have HQ5 : Hid (w5.heap[q]? = some (.cells #[.int .i64 x0, .int .i64 x1, .slice A5 gs.length c5, .int .i64 x2, .slice none 0 0] 45 (0, 0))) := hid hq5
    have HF3 := hid hf3
    clear hqe hk5 hq5 hf3 hgs hqz hgz htq
    go_wp2_with fail
    refine (terms_calls w.heap.size B hBw s3 _ hrd5 HV5.out).mono ?_
    rintro e w6 ⟨vt, ts, s4, rfl, hts, hrd6, htl, hg6⟩
    obtain ⟨A6, c6, rfl, _, _⟩ := list_form hts
    have hq5lt : q < w5.heap.size := by
      have h1 := HQ5.out
      rcases Nat.lt_or_ge q w5.heap.size with h' | h'
      · exact h'
      · simp [Array.getElem?_eq_none h'] at h1
    have hqb : q ≠ w.heap.size := by omega
    have HQ6 := hid ((hg6.block q hq5lt (by simp; exact hqb)).trans HQ5.out)
    have hb6 := below_only hb5 hg6 (Nat.le_refl _)
    have z6 : w6.cell? ⟨q, 4, none⟩ = some (.slice none 0 0) := by rw [Lib.cell_of_heap HQ6.out]; rfl
    have f6 : w6.frozen? ⟨q, 4, none⟩ = false := Lib.frozen_of_heap HQ6.out _
    have HTL := hid htl
    have hrb5 := hrd5.tag
    clear htl
    have HGS6 := hid ((listR spansR).mono (w' := w6) (S' := Dat w6) (fun p' hp' => cell_of_heap_eq (hg6.block _ hp'.lt (by simp; exact Dat.ne hp' hrb5 (by decide) (by decide) (by decide) (by decide)))) (fun g hg' => hg'.keep (hg6.block g hg'.lt (by simp; exact Dat.ne hg' hrb5 (by decide) (by decide) (by decide) (by decide)))) HG5.out)
    have HTS6 := hid ((listR termR).mono (w' := w6) (S' := Dat w6) (fun _ _ => rfl) (fun g hg' => by rcases hg' with h1 | h1; exact .inr (.inr (.inl h1)); exact .inr (.inr (.inr h1))) hts)
    clear hts
    go_wp2_with fail
    have hq6lt : q < w6.heap.size := Nat.lt_of_lt_of_le hq5lt hg6.size
    have hset : ∀ (u : Value) (g : Nat), g ≠ q → (w6.setCell ⟨q, 4, none⟩ u).heap[g]? = w6.heap[g]? := fun u g hg => Below.heap_setCell _ _ _ _ hg
    have hq7 := heap_set w6 q 4 (.slice A6 ts.length c6) HQ6.out
    have htq : Tag 45 w6 q := ⟨_, _, HQ6.out⟩
    have HGS7 := hid ((listR spansR).mono (w' := w6.setCell ⟨q, 4, none⟩ (.slice A6 ts.length c6)) (S' := Dat (w6.setCell ⟨q, 4, none⟩ (.slice A6 ts.length c6))) (fun p' hp' => cell_of_heap_eq (hset _ _ (Dat.ne hp' htq (by decide) (by decide) (by decide) (by decide)))) (fun g hg' => hg'.keep (hset _ g (Dat.ne hg' htq (by decide) (by decide) (by decide) (by decide)))) HGS6.out)
    have HTS7 := hid ((listR termR).mono (w' := w6.setCell ⟨q, 4, none⟩ (.slice A6 ts.length c6)) (S' := Dat (w6.setCell ⟨q, 4, none⟩ (.slice A6 ts.length c6))) (fun p' hp' => cell_of_heap_eq (hset _ _ (Dat.ne hp' htq (by decide) (by decide) (by decide) (by decide)))) (fun g hg' => hg'.keep (hset _ g (Dat.ne hg' htq (by decide) (by decide) (by decide) (by decide)))) HTS6.out)
    have hb7 : Below w.heap.size w (w6.setCell ⟨q, 4, none⟩ (.slice A6 ts.length c6)) := hb6.setCell (by show w.heap.size ≤ q; omega) _
    have hrd7 : RdS w.heap.size (w6.setCell ⟨q, 4, none⟩ (.slice A6 ts.length c6)) s4 := hrd6.keep (hset _ _ (Ne.symm hqb))
    have hs7 : (w6.setCell ⟨q, 4, none⟩ (.slice A6 ts.length c6)).heap.size ≥ w6.heap.size := by simp [World.setCell]
    generalize w6.setCell ⟨q, 4, none⟩ (.slice A6 ts.length c6) = w7 at hq7 HGS7 HTS7 hb7 hrd7 hs7 ⊢
    have HQ7 : Hid (w7.heap[q]? = some (.cells #[.int .i64 x0, .int .i64 x1, .slice A5 gs.length c5, .int .i64 x2, .slice A6 ts.length c6] 45 (0, 0))) := hid hq7
    have HD7 := hid (HD.out.later hb7)
    clear z6 f6 hset hq7 htq HGS6 HTS6 hrd6
    obtain ⟨css, hcl, hown, hel⟩ := HD7.out.rules
    clear hel
    have hrow : ∀ g, (Value.slice A4 d.rules.length c4).ownBlock = some g → Tag 45 w7 g ∧ base ≤ g ∧ g < w.heap.size := fun g hg' => ⟨(own_tag hown g hg').1, (own_tag hown g hg').2, (HD.out.rules.tag g hg').1.lt⟩
    have hq7lt : q < w7.heap.size := by omega
    have hp7lt : p < w7.heap.size := HD7.out.lt
    go_wp2_with fail
    obtain ⟨ι, W, ⟨i0, hi0⟩, hW, Wsur⟩ := held_class w7.drew (fun g => g = p ∨ g = q)
    have hne : Nonempty ι := ⟨i0⟩
    have q0 : ∀ i, (W i).cell? ⟨p, 4, none⟩ = some (.slice A4 d.rules.length c4) := fun i => by rw [Lib.cell_of_heap ((hW i _ (.inl rfl)).trans HD7.out.cells)]; rfl
    have q1 : ∀ i, (W i).cell? ⟨q, 0, none⟩ = some (.int .i64 x0) := fun i => by rw [Lib.cell_of_heap ((hW i _ (.inr rfl)).trans HQ7.out)]; rfl
    have q2 : ∀ i, (W i).cell? ⟨q, 1, none⟩ = some (.int .i64 x1) := fun i => by rw [Lib.cell_of_heap ((hW i _ (.inr rfl)).trans HQ7.out)]; rfl
    have q3 : ∀ i, (W i).cell? ⟨q, 2, none⟩ = some (.slice A5 gs.length c5) := fun i => by rw [Lib.cell_of_heap ((hW i _ (.inr rfl)).trans HQ7.out)]; rfl
    have q4 : ∀ i, (W i).cell? ⟨q, 3, none⟩ = some (.int .i64 x2) := fun i => by rw [Lib.cell_of_heap ((hW i _ (.inr rfl)).trans HQ7.out)]; rfl
    have q5 : ∀ i, (W i).cell? ⟨q, 4, none⟩ = some (.slice A6 ts.length c6) := fun i => by rw [Lib.cell_of_heap ((hW i _ (.inr rfl)).trans HQ7.out)]; rfl
    have WS := hid Wsur; clear Wsur
    have HW := hid hW; clear hW
    have Hi0 := hid hi0; clear hi0
    refine region_anyL (S := fun w' => ∃ i, w' = W i) (last := 10) (by kernel_rfl) ?_
    refine anyL_seg 0 6 (by kernel_rfl) (fun _ _ _ _ _ h => h) ⟨i0, Hi0.out.symm⟩ (f := 5) rfl (by kernel_rfl) (by kernel_rfl) ?_
    simp only [List.drop_zero, List.take_succ_cons, List.take_zero]
    repeat go_big_quiet_step (fail)
    refine wpQuiet_nil ?_
    refine anyL_act (i := 6) (by kernel_rfl) rfl rfl ?_
    intro K hK
    go_wp2_with fail
    refine hK.out _ _ (fun _ => WS.out _ (fun g hg => by rcases hg with rfl | rfl; exact Below.heap_alloc _ _ _ hp7lt; exact Below.heap_alloc _ _ _ hq7lt)) ?_
    clear hK K
    have hA7 : Below w7.heap.size w7 (w7.alloc (.cells #[.int .i64 x0, .int .i64 x1, .slice A5 gs.length c5, .int .i64 x2, .slice A6 ts.length c6] 45)).drew := ((Below.refl _ _).alloc (Nat.le_refl _) _).drew
    have hown7 : (w7.alloc (.cells #[.int .i64 x0, .int .i64 x1, .slice A5 gs.length c5, .int .i64 x2, .slice A6 ts.length c6] 45)).drew.ownsRow base 45 5 (.slice A4 d.rules.length c4) d.rules.length css.flatten := hown.alloc _
    have hbs : base ≤ w7.heap.size := by have := HD7.out.lt; omega
    refine anyL_act (i := 7) (by kernel_rfl) rfl rfl ?_
    intro K hK
    refine act_append_at _ _ 23 rfl base 45 infR _ 5 72 Tryd.underlying23 hiR hr0 hr1 hr2 rfl (by decide) _ _ _ rfl hown7 ⟨w7.heap.size, 0, none⟩ 1 1 [.int .i64 x0, .int .i64 x1, .slice A5 gs.length c5, .int .i64 x2, .slice A6 ts.length c6] rfl rfl (news_at (w := w7) (cs := #[.int .i64 x0, .int .i64 x1, .slice A5 gs.length c5, .int .i64 x2, .slice A6 ts.length c6]) rfl) (by simp [Value.oneCell']) (by unfold maxLen; omega) (by omega) (by simp; omega) ?_
    intro v9 w9 hown9 hg9 _ _
    go_simp
    have hk9 := after_append hA7 hg9 (fun g hg => (hrow g hg).1)
    have hkp : w9.heap[p]? = w7.heap[p]? := hk9 p hp7lt (fun ht => Tag.ne HD7.out.tag ht (by decide) rfl)
    have hkq : w9.heap[q]? = w7.heap[q]? := (hg9.block q (Nat.lt_of_lt_of_le hq7lt hA7.size) (fun he => by have := (hrow q he.symm).2.2; omega)).trans (hA7.block q hq7lt)
    have hs9 : ∃ i, w9 = W i := WS.out _ (fun g hg => by rcases hg with rfl | rfl; exact hkp; exact hkq)
    refine hK.out _ _ (fun _ => hs9) ?_
    clear hK K
    refine anyL_seg 8 2 (by kernel_rfl) (fun _ _ _ _ _ h => h) hs9 (f := 1) rfl (by kernel_rfl) (by kernel_rfl) ?_
    simp only [List.drop_succ_cons, List.drop_zero, List.take_succ_cons, List.take_zero]
    repeat go_big_quiet_step (fail)
    refine wpQuiet_nil ?_
    have HP9 := hid (hkp.trans HD7.out.cells)
    have z9 : w9.cell? ⟨p, 4, none⟩ = some (.slice A4 d.rules.length c4) := by rw [Lib.cell_of_heap HP9.out]; rfl
    have zf : w9.frozen? ⟨p, 4, none⟩ = false := Lib.frozen_of_heap HP9.out _
    obtain ⟨A9, c9, rfl⟩ := row_form hown9
    have HO9 := hid hown9
    have HG9 := hid hg9
    have hrd9 := hrd7.keep (hk9 _ hrd7.lt (fun ht => Tag.ne hrd7.tag ht (by decide) rfl))
    clear hown9 hg9
    refine anyL_act (i := 10) (by kernel_rfl) rfl rfl ?_
    intro K hK
    go_wp2_with fail
    refine hK.out _ _ (fun h => absurd rfl h) ?_
    clear hK K
    refine anyL_done (by kernel_rfl) ?_ _
    clear q0 q1 q2 q3 q4 q5 hs9 WS HW Hi0 hne i0 W ι z9 zf
    have hpb : p ≠ w.heap.size := by omega
    have h10 : ∀ g, g ≠ p → (w9.setCell ⟨p, 4, none⟩ (.slice A9 (d.rules.length + 1) c9)).heap[g]? = w9.heap[g]? := fun g hg => Below.heap_setCell _ _ _ _ hg
    have hp10 := heap_set w9 p 4 (.slice A9 (d.rules.length + 1) c9) HP9.out
    have hb10 : Below base w (w9.setCell ⟨p, 4, none⟩ (.slice A9 (d.rules.length + 1) c9)) := ((((hb7.mono (by omega)).trans (hA7.mono hbs)).grown HG9.out (by have := hA7.size; omega) (fun g hg => (hrow g hg).2.1))).setCell (by show base ≤ p; omega) _
    have hrd10 := hrd9.keep (h10 _ (Ne.symm hpb))
    generalize w9.setCell ⟨p, 4, none⟩ (.slice A9 (d.rules.length + 1) c9) = w10 at h10 hp10 hb10 hrd10 ⊢
    have HDE : Hid (DescAt base p (addR d (ruleOf gs ts [x0, x1, x2])) w10 (.slice A9 (d.rules.length + 1) c9) (.slice Af 0 cf)) := hid (by
      refine DescAt.addRule (w5 := w7) (wA := (w7.alloc (.cells #[.int .i64 x0, .int .i64 x1, .slice A5 gs.length c5, .int .i64 x2, .slice A6 ts.length c6] 45)).drew) (w6 := w9) (cs := [.int .i64 x0, .int .i64 x1, .slice A5 gs.length c5, .int .i64 x2, .slice A6 ts.length c6]) HD7.out hA7 HG9.out hp10 h10 (fun css' hl' ho' => ?_) ?_
      · have e : css'.flatten = css.flatten := own_same ho' hown
        rw [e]
        exact HO9.out
      · exact ⟨_, _, rfl, HIX.out, HGS7.out, HTS7.out⟩)
    obtain ⟨s', bad, hbb, hsz', hst'⟩ := hrd10
    have xb : w10.cell? ⟨w.heap.size, 1, none⟩ = some (.bool bad) := by rw [Lib.cell_of_heap hbb]; rfl
    have HRES := hid (rule_res HFIN.out HF3.out HTL.out)
    clear hbb hrow hk9 hkp hkq h10 hp10 hown hown7
    cases hs4 : s4 with
    | none =>
      subst hs4
      simp only at hst'
      subst hst'
      have HF : Hid (lineF false d s.data.toList = none) := hid (by
        rcases HRES.out with ⟨h1, _⟩ | ⟨_, h2⟩
        · cases h1
        · exact line_rule_none HFE.out HL1.out h2)
      go_wp2_with fail
      go_ret
      exact post_none (first := false) (d := d) HF.out hb10
    | some r =>
      subst hs4
      simp only at hst'
      obtain ⟨rfl, _⟩ := hst'
      have HF : Hid (lineF false d s.data.toList = some (addR d (ruleOf gs ts [x0, x1, x2]))) := hid (by
        rcases HRES.out with ⟨_, h2⟩ | ⟨h1, _⟩
        · exact line_rule_some HFE.out HL1.out h2
        · cases h1)
      go_wp2_with fail
      go_ret
      exact post_some (first := false) (d := d) HF.out ⟨_, _, HDE.out⟩ hb10

end Go.Proofs.YtcdnkmefcldfmaaDoor
