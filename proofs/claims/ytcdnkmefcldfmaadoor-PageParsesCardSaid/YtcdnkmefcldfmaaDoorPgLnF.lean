/-
  page.line: a final's line.
-/
import Derived.Test.YtcdnkmefcldfmaaDoorPgLn
namespace Go.Proofs.YtcdnkmefcldfmaaDoor
open Go.RowKit Go.Um

set_option maxHeartbeats 8000000 in
set_option maxRecDepth 100000 in
theorem line_final_a (base p B : Nat) (hBb : B ≤ base) (s : ByteArray) (hs : s.size ≤ 65536) (d : Desc) (vr vf : Value) (w : World) (h : DescAt base p d w vr vf) (hv : Vars B w) (hn : d.finals.length ≤ 70000) (hf : d.finals = []) (hl1 : lit [114, 117, 108, 101, 32] s.data.toList = none) :
    Calls Tryd.prog 26 #[.pointer (some ⟨p, 0, none⟩), .string s, .bool false] w (LinePost base p false d s.data.toList w) := by
  obtain ⟨infF, hiF, hf0, hf1, hf2⟩ := info_parts infoFn
  have hlt := h.lt
  have hlow := h.low
  have hBw : B ≤ w.heap.size := by omega
  have hA : Below w.heap.size w (w.alloc (.cells #[.string s, .bool false] 92)) := (Below.refl _ _).alloc (Nat.le_refl _) _
  have HV := hid (hv.on (hA.mono hBw))
  have HRD := hid (rd_new (w := w) hs)
  obtain ⟨A5, c5, rfl⟩ : ∃ A c, vf = .slice A d.finals.length c := by obtain ⟨_, _, ho, _⟩ := h.finals; exact row_form ho
  have HD : Hid (DescAt base p d w vr (.slice A5 d.finals.length c5)) := hid h
  have HFE : Hid ((if d.finals = [] then lit [114, 117, 108, 101, 32] s.data.toList else none) = none) := hid (by rw [if_pos hf, hl1])
  have hlen : d.finals.length = 0 := by rw [hf]; rfl
  have z5 : (w.alloc (.cells #[.string s, .bool false] 92)).cell? ⟨p, 5, none⟩ = some (.slice A5 0 c5) := by rw [Lib.cell_of_heap (h.later hA).cells, ← hlen]; rfl
  have he := eat_calls w.heap.size (some s.data.toList) ⟨#[114, 117, 108, 101, 32]⟩ _ HRD.out
  have e1 : (some s.data.toList).bind (lit (⟨#[114, 117, 108, 101, 32]⟩ : ByteArray).data.toList) = none := hl1
  have e2 : (some s.data.toList).map (fun l => (lit (⟨#[114, 117, 108, 101, 32]⟩ : ByteArray).data.toList l).getD l) = some s.data.toList := by simp only [Option.map_some]; rw [show lit (⟨#[114, 117, 108, 101, 32]⟩ : ByteArray).data.toList s.data.toList = none from hl1]; rfl
  rw [e1, e2] at he
  have HE := hid he
  clear hv h hf hl1 he e1 e2 hlen
  go_enter Tryd.func26, Tryd.ntmps26
  go_wp2_with fail
  refine HE.out.mono ?_
  rintro e wa ⟨rfl, hrd0, hg0⟩
  have hb0 := below_only hA hg0 (Nat.le_refl _)
  have HV0 := hid (HV.out.on (below_of_only hg0 hBw HRD.out.lt))
  clear z5
  go_wp2_with fail
  refine (must_calls w.heap.size (some s.data.toList) ⟨#[102, 105, 110, 97, 108, 32]⟩ _ hrd0).mono ?_
  rintro e w1 ⟨rfl, hrd1, hg1⟩
  have hb1 := below_only hb0 hg1 (Nat.le_refl _)
  have HV1 := hid (HV0.out.on (below_of_only hg1 hBw hrd0.lt))
  go_wp2_with fail
  refine (num_calls w.heap.size B hBw _ _ hrd1 HV1.out).mono ?_
  rintro e w2 ⟨x0, s2, rfl, hIx, hrd2, hfin, hg2⟩
  have hb2 := below_only hb1 hg2 (Nat.le_refl _)
  have HFIN : Hid (Fin s2 ((lit [102, 105, 110, 97, 108, 32] s.data.toList).bind numF) x0) := hid hfin
  have HV2 := hid (HV1.out.on (below_of_only hg2 hBw hrd1.lt))
  have HIX := hid hIx
  clear hfin hIx
  go_wp2_with fail
  refine (guards_calls w.heap.size B hBw s2 _ hrd2 HV2.out).mono ?_
  rintro e w3 ⟨vg, gs, s3, rfl, hgs, hrd3, hf3, hg3⟩
  obtain ⟨A7, c7, rfl, _, _⟩ := list_form hgs
  obtain ⟨A8, hA8x⟩ : ∃ A8, A8 = A7 := ⟨_, rfl⟩
  subst hA8x
  obtain ⟨c8, hc8x⟩ : ∃ c8, c8 = c7 := ⟨_, rfl⟩
  subst hc8x
  have hb3 := below_only hb2 hg3 (Nat.le_refl _)
  obtain ⟨q, hqe⟩ : ∃ q, q = w3.heap.size := ⟨_, rfl⟩
  have hq : w.heap.size < q := by have := hrd3.lt; omega
  have HF3 := hid hf3
  clear hf3
  go_wp2_with fail
  have hb5 : Below w.heap.size w (w3.alloc (.cells #[.int .i64 x0, .slice A8 gs.length c8, .slice none 0 0] 47)) := hb3.alloc hb3.size _
  have hk5 : ∀ g, g < w3.heap.size → (w3.alloc (.cells #[.int .i64 x0, .slice A8 gs.length c8, .slice none 0 0] 47)).heap[g]? = w3.heap[g]? := fun g hg => Below.heap_alloc _ _ _ hg
  have hq5 : (w3.alloc (.cells #[.int .i64 x0, .slice A8 gs.length c8, .slice none 0 0] 47)).heap[q]? = some (.cells #[.int .i64 x0, .slice A8 gs.length c8, .slice none 0 0] 47 (0, 0)) := by rw [hqe]; exact heap_alloc_new _ _
  have HV5 := hid ((HV2.out.on (below_of_only hg3 hBw hrd2.lt)).on ((Below.refl _ _).alloc (by have := hb3.size; omega) (.cells #[.int .i64 x0, .slice A8 gs.length c8, .slice none 0 0] 47)))
  rw [← hqe]
  generalize w3.alloc (.cells #[.int .i64 x0, .slice A8 gs.length c8, .slice none 0 0] 47) = w5 at hb5 hk5 hq5 HV5 ⊢
  have HG5 := hid ((listR spansR).mono (w' := w5) (S' := Dat w5) (fun p' hp' => cell_of_heap_eq (hk5 _ (hp'.elim Tag.lt Tag.lt))) (fun g hg' => (show Dat w3 g from hg'.imp id .inl).keep (hk5 g (hg'.elim Tag.lt Tag.lt))) hgs)
  have hrd5 := hrd3.keep (hk5 _ hrd3.lt)
  have HQ5 := hid hq5
  clear hqe hk5 hq5 hgs
  refine (terms_calls w.heap.size B hBw s3 _ hrd5 HV5.out).mono ?_
  rintro e w6 ⟨vt, ts, s4, rfl, hts, hrd6, htl, hg6⟩
  obtain ⟨A6, c6, rfl, _, _⟩ := list_form hts
  have hq5lt : q < w5.heap.size := by
    have h1 := HQ5.out
    rcases Nat.lt_or_ge q w5.heap.size with h' | h'
    · exact h'
    · simp [Array.getElem?_eq_none h'] at h1
  have hqb : q ≠ w.heap.size := by omega
  have HQ6 := hid ((hg6.block q hq5lt (by simp; exact hqb)).trans HQ5.out)
  have hb6 := below_only hb5 hg6 (Nat.le_refl _)
  have z6 : w6.cell? ⟨q, 2, none⟩ = some (.slice none 0 0) := by rw [Lib.cell_of_heap HQ6.out]; rfl
  have f6 : w6.frozen? ⟨q, 2, none⟩ = false := Lib.frozen_of_heap HQ6.out _
  have HTL := hid htl
  have hrb5 := hrd5.tag
  clear htl
  have HGS6 := hid ((listR spansR).mono (w' := w6) (S' := Dat w6) (fun p' hp' => cell_of_heap_eq (hg6.block _ hp'.lt (by simp; exact Dat.ne hp' hrb5 (by decide) (by decide) (by decide) (by decide)))) (fun g hg' => hg'.keep (hg6.block g hg'.lt (by simp; exact Dat.ne hg' hrb5 (by decide) (by decide) (by decide) (by decide)))) HG5.out)
  have HTS6 := hid ((listR termR).mono (w' := w6) (S' := Dat w6) (fun _ _ => rfl) (fun g hg' => by rcases hg' with h1 | h1; exact .inr (.inr (.inl h1)); exact .inr (.inr (.inr h1))) hts)
  clear hts
  go_wp2_with fail
  have hq6lt : q < w6.heap.size := Nat.lt_of_lt_of_le hq5lt hg6.size
  have hset : ∀ (u : Value) (g : Nat), g ≠ q → (w6.setCell ⟨q, 2, none⟩ u).heap[g]? = w6.heap[g]? := fun u g hg => Below.heap_setCell _ _ _ _ hg
  have hq7 := heap_set w6 q 2 (.slice A6 ts.length c6) HQ6.out
  have htq : Tag 47 w6 q := ⟨_, _, HQ6.out⟩
  have HGS7 := hid ((listR spansR).mono (w' := w6.setCell ⟨q, 2, none⟩ (.slice A6 ts.length c6)) (S' := Dat (w6.setCell ⟨q, 2, none⟩ (.slice A6 ts.length c6))) (fun p' hp' => cell_of_heap_eq (hset _ _ (Dat.ne hp' htq (by decide) (by decide) (by decide) (by decide)))) (fun g hg' => hg'.keep (hset _ g (Dat.ne hg' htq (by decide) (by decide) (by decide) (by decide)))) HGS6.out)
  have HTS7 := hid ((listR termR).mono (w' := w6.setCell ⟨q, 2, none⟩ (.slice A6 ts.length c6)) (S' := Dat (w6.setCell ⟨q, 2, none⟩ (.slice A6 ts.length c6))) (fun p' hp' => cell_of_heap_eq (hset _ _ (Dat.ne hp' htq (by decide) (by decide) (by decide) (by decide)))) (fun g hg' => hg'.keep (hset _ g (Dat.ne hg' htq (by decide) (by decide) (by decide) (by decide)))) HTS6.out)
  have hb7 : Below w.heap.size w (w6.setCell ⟨q, 2, none⟩ (.slice A6 ts.length c6)) := hb6.setCell (by show w.heap.size ≤ q; omega) _
  have hrd7 : RdS w.heap.size (w6.setCell ⟨q, 2, none⟩ (.slice A6 ts.length c6)) s4 := hrd6.keep (hset _ _ (Ne.symm hqb))
  have hs7 : (w6.setCell ⟨q, 2, none⟩ (.slice A6 ts.length c6)).heap.size ≥ w6.heap.size := by simp [World.setCell]
  generalize w6.setCell ⟨q, 2, none⟩ (.slice A6 ts.length c6) = w7 at hq7 HGS7 HTS7 hb7 hrd7 hs7 ⊢
  have HQ7 : Hid (w7.heap[q]? = some (.cells #[.int .i64 x0, .slice A8 gs.length c8, .slice A6 ts.length c6] 47 (0, 0))) := hid hq7
  have HD7 := hid (HD.out.later hb7)
  clear z6 f6 hset hq7 htq HGS6 HTS6 hrd6
  obtain ⟨css, hcl, hown, hel⟩ := HD7.out.finals
  clear hel
  have hrow : ∀ g, (Value.slice A5 d.finals.length c5).ownBlock = some g → Tag 47 w7 g ∧ base ≤ g ∧ g < w.heap.size := fun g hg' => ⟨(own_tag hown g hg').1, (own_tag hown g hg').2, (HD.out.finals.tag g hg').1.lt⟩
  have hq7lt : q < w7.heap.size := by omega
  have hp7lt : p < w7.heap.size := HD7.out.lt
  go_wp2_with fail
  obtain ⟨ι, W, ⟨i0, hi0⟩, hW, Wsur⟩ := held_class w7.drew (fun g => g = p ∨ g = q)
  have hne : Nonempty ι := ⟨i0⟩
  have q0 : ∀ i, (W i).cell? ⟨p, 5, none⟩ = some (.slice A5 d.finals.length c5) := fun i => by rw [Lib.cell_of_heap ((hW i _ (.inl rfl)).trans HD7.out.cells)]; rfl
  have q1 : ∀ i, (W i).cell? ⟨q, 0, none⟩ = some (.int .i64 x0) := fun i => by rw [Lib.cell_of_heap ((hW i _ (.inr rfl)).trans HQ7.out)]; rfl
  have q2 : ∀ i, (W i).cell? ⟨q, 1, none⟩ = some (.slice A8 gs.length c8) := fun i => by rw [Lib.cell_of_heap ((hW i _ (.inr rfl)).trans HQ7.out)]; rfl
  have q3 : ∀ i, (W i).cell? ⟨q, 2, none⟩ = some (.slice A6 ts.length c6) := fun i => by rw [Lib.cell_of_heap ((hW i _ (.inr rfl)).trans HQ7.out)]; rfl
  have WS := hid Wsur; clear Wsur
  have HW := hid hW; clear hW
  have Hi0 := hid hi0; clear hi0
  refine region_anyL (S := fun w' => ∃ i, w' = W i) (last := 10) (by kernel_rfl) ?_
  refine anyL_seg 0 6 (by kernel_rfl) (fun _ _ _ _ _ h => h) ⟨i0, Hi0.out.symm⟩ (f := 5) rfl (by kernel_rfl) (by kernel_rfl) ?_
  simp only [List.drop_zero, List.take_succ_cons, List.take_zero]
  repeat go_big_quiet_step (fail)
  refine wpQuiet_nil ?_
  refine anyL_act (i := 6) (by kernel_rfl) rfl rfl ?_
  intro K hK
  go_wp2_with fail
  refine hK.out _ _ (fun _ => WS.out _ (fun g hg => by rcases hg with rfl | rfl; exact Below.heap_alloc _ _ _ hp7lt; exact Below.heap_alloc _ _ _ hq7lt)) ?_
  clear hK K
  have hA7 : Below w7.heap.size w7 (w7.alloc (.cells #[.int .i64 x0, .slice A8 gs.length c8, .slice A6 ts.length c6] 47)).drew := ((Below.refl _ _).alloc (Nat.le_refl _) _).drew
  have hown7 : (w7.alloc (.cells #[.int .i64 x0, .slice A8 gs.length c8, .slice A6 ts.length c6] 47)).drew.ownsRow base 47 3 (.slice A5 d.finals.length c5) d.finals.length css.flatten := hown.alloc _
  have hbs : base ≤ w7.heap.size := by have := HD7.out.lt; omega
  refine anyL_act (i := 7) (by kernel_rfl) rfl rfl ?_
  intro K hK
  refine act_append_at _ _ 24 rfl base 47 infF _ 3 56 Tryd.underlying24 hiF hf0 hf1 hf2 rfl (by decide) _ _ _ rfl hown7 ⟨w7.heap.size, 0, none⟩ 1 1 [.int .i64 x0, .slice A8 gs.length c8, .slice A6 ts.length c6] rfl rfl (news_at (w := w7) (cs := #[.int .i64 x0, .slice A8 gs.length c8, .slice A6 ts.length c6]) rfl) (by simp [Value.oneCell']) (by unfold maxLen; omega) (by omega) (by simp; omega) ?_
  intro v9 w9 hown9 hg9 _ _
  go_simp
  have hk9 := after_append hA7 hg9 (fun g hg => (hrow g hg).1)
  have hkp : w9.heap[p]? = w7.heap[p]? := hk9 p hp7lt (fun ht => Tag.ne HD7.out.tag ht (by decide) rfl)
  have hkq : w9.heap[q]? = w7.heap[q]? := (hg9.block q (Nat.lt_of_lt_of_le hq7lt hA7.size) (fun he => by have := (hrow q he.symm).2.2; omega)).trans (hA7.block q hq7lt)
  have hs9 : ∃ i, w9 = W i := WS.out _ (fun g hg => by rcases hg with rfl | rfl; exact hkp; exact hkq)
  refine hK.out _ _ (fun _ => hs9) ?_
  clear hK K
  refine anyL_seg 8 2 (by kernel_rfl) (fun _ _ _ _ _ h => h) hs9 (f := 1) rfl (by kernel_rfl) (by kernel_rfl) ?_
  simp only [List.drop_succ_cons, List.drop_zero, List.take_succ_cons, List.take_zero]
  repeat go_big_quiet_step (fail)
  refine wpQuiet_nil ?_
  have HP9 := hid (hkp.trans HD7.out.cells)
  have z9 : w9.cell? ⟨p, 5, none⟩ = some (.slice A5 d.finals.length c5) := by rw [Lib.cell_of_heap HP9.out]; rfl
  have zf : w9.frozen? ⟨p, 5, none⟩ = false := Lib.frozen_of_heap HP9.out _
  obtain ⟨A9, c9, rfl⟩ := row_form hown9
  have HO9 := hid hown9
  have HG9 := hid hg9
  have hrd9 := hrd7.keep (hk9 _ hrd7.lt (fun ht => Tag.ne hrd7.tag ht (by decide) rfl))
  clear hown9 hg9
  refine anyL_act (i := 10) (by kernel_rfl) rfl rfl ?_
  intro K hK
  go_wp2_with fail
  refine hK.out _ _ (fun h => absurd rfl h) ?_
  clear hK K
  refine anyL_done (by kernel_rfl) ?_ _
  clear q0 q1 q2 q3 hs9 WS HW Hi0 hne i0 W ι z9 zf
  have hpb : p ≠ w.heap.size := by omega
  have h10 : ∀ g, g ≠ p → (w9.setCell ⟨p, 5, none⟩ (.slice A9 (d.finals.length + 1) c9)).heap[g]? = w9.heap[g]? := fun g hg => Below.heap_setCell _ _ _ _ hg
  have hp10 := heap_set w9 p 5 (.slice A9 (d.finals.length + 1) c9) HP9.out
  have hb10 : Below base w (w9.setCell ⟨p, 5, none⟩ (.slice A9 (d.finals.length + 1) c9)) := ((((hb7.mono (by omega)).trans (hA7.mono hbs)).grown HG9.out (by have := hA7.size; omega) (fun g hg => (hrow g hg).2.1))).setCell (by show base ≤ p; omega) _
  have hrd10 := hrd9.keep (h10 _ (Ne.symm hpb))
  generalize w9.setCell ⟨p, 5, none⟩ (.slice A9 (d.finals.length + 1) c9) = w10 at h10 hp10 hb10 hrd10 ⊢
  have HDE : Hid (DescAt base p (addE d (⟨x0, gs, ts⟩ : Final)) w10 vr (.slice A9 (d.finals.length + 1) c9)) := hid (by
    refine DescAt.addFinal (w5 := w7) (wA := (w7.alloc (.cells #[.int .i64 x0, .slice A8 gs.length c8, .slice A6 ts.length c6] 47)).drew) (w6 := w9) (cs := [.int .i64 x0, .slice A8 gs.length c8, .slice A6 ts.length c6]) HD7.out hA7 HG9.out hp10 h10 (fun css' hl' ho' => ?_) ?_
    · have e : css'.flatten = css.flatten := own_same ho' hown
      rw [e]
      exact HO9.out
    · exact ⟨_, _, rfl, HIX.out, HGS7.out, HTS7.out⟩)
  obtain ⟨s', bad, hbb, hsz', hst'⟩ := hrd10
  have xb : w10.cell? ⟨w.heap.size, 1, none⟩ = some (.bool bad) := by rw [Lib.cell_of_heap hbb]; rfl
  have HRES := hid (final_res HFIN.out HF3.out HTL.out)
  clear hbb hrow hk9 hkp hkq h10 hp10 hown hown7
  cases hs4 : s4 with
  | none =>
    subst hs4
    simp only at hst'
    subst hst'
    have HF : Hid (lineF false d s.data.toList = none) := hid (by
      rcases HRES.out with ⟨h1, _⟩ | ⟨_, h2⟩
      · cases h1
      · exact (by rw [line_final_eq HFE.out]; exact (congrArg (Option.map (addE d)) h2)))
    go_wp2_with fail
    go_ret
    exact post_none (first := false) (d := d) HF.out hb10
  | some r =>
    subst hs4
    simp only at hst'
    obtain ⟨rfl, _⟩ := hst'
    have HF : Hid (lineF false d s.data.toList = some (addE d (⟨x0, gs, ts⟩ : Final))) := hid (by
      rcases HRES.out with ⟨_, h2⟩ | ⟨h1, _⟩
      · exact (by rw [line_final_eq HFE.out]; exact (congrArg (Option.map (addE d)) h2))
      · cases h1)
    go_wp2_with fail
    go_ret
    exact post_some (first := false) (d := d) HF.out ⟨_, _, HDE.out⟩ hb10

set_option maxHeartbeats 8000000 in
set_option maxRecDepth 100000 in
theorem line_final_b (base p B : Nat) (hBb : B ≤ base) (s : ByteArray) (hs : s.size ≤ 65536) (d : Desc) (vr vf : Value) (w : World) (h : DescAt base p d w vr vf) (hv : Vars B w) (hn : d.finals.length ≤ 70000) (hf : d.finals ≠ []) :
    Calls Tryd.prog 26 #[.pointer (some ⟨p, 0, none⟩), .string s, .bool false] w (LinePost base p false d s.data.toList w) := by
  obtain ⟨infF, hiF, hf0, hf1, hf2⟩ := info_parts infoFn
  have hlt := h.lt
  have hlow := h.low
  have hBw : B ≤ w.heap.size := by omega
  have hA : Below w.heap.size w (w.alloc (.cells #[.string s, .bool false] 92)) := (Below.refl _ _).alloc (Nat.le_refl _) _
  have HV := hid (hv.on (hA.mono hBw))
  have HRD := hid (rd_new (w := w) hs)
  obtain ⟨A5, c5, rfl⟩ : ∃ A c, vf = .slice A d.finals.length c := by obtain ⟨_, _, ho, _⟩ := h.finals; exact row_form ho
  have HD : Hid (DescAt base p d w vr (.slice A5 d.finals.length c5)) := hid h
  have HFE : Hid ((if d.finals = [] then lit [114, 117, 108, 101, 32] s.data.toList else none) = none) := hid (by rw [if_neg hf])
  have hlen : 0 < d.finals.length := List.length_pos_iff.2 hf
  have hl0 : ((d.finals.length : Int) == 0) = false := by simp; omega
  have hl2 : (d.finals.length == 0) = false := by simp; omega
  have z5 : (w.alloc (.cells #[.string s, .bool false] 92)).cell? ⟨p, 5, none⟩ = some (.slice A5 d.finals.length c5) := by rw [Lib.cell_of_heap (h.later hA).cells]; rfl
  clear hv h hf
  go_enter Tryd.func26, Tryd.ntmps26
  go_wp2_with fail
  have hrd0 := HRD.out
  have hb0 := hA
  have HV0 := HV
  clear z5 hl0 hl2
  refine (must_calls w.heap.size (some s.data.toList) ⟨#[102, 105, 110, 97, 108, 32]⟩ _ hrd0).mono ?_
  rintro e w1 ⟨rfl, hrd1, hg1⟩
  have hb1 := below_only hb0 hg1 (Nat.le_refl _)
  have HV1 := hid (HV0.out.on (below_of_only hg1 hBw hrd0.lt))
  go_wp2_with fail
  refine (num_calls w.heap.size B hBw _ _ hrd1 HV1.out).mono ?_
  rintro e w2 ⟨x0, s2, rfl, hIx, hrd2, hfin, hg2⟩
  have hb2 := below_only hb1 hg2 (Nat.le_refl _)
  have HFIN : Hid (Fin s2 ((lit [102, 105, 110, 97, 108, 32] s.data.toList).bind numF) x0) := hid hfin
  have HV2 := hid (HV1.out.on (below_of_only hg2 hBw hrd1.lt))
  have HIX := hid hIx
  clear hfin hIx
  go_wp2_with fail
  refine (guards_calls w.heap.size B hBw s2 _ hrd2 HV2.out).mono ?_
  rintro e w3 ⟨vg, gs, s3, rfl, hgs, hrd3, hf3, hg3⟩
  obtain ⟨A7, c7, rfl, _, _⟩ := list_form hgs
  obtain ⟨A8, hA8x⟩ : ∃ A8, A8 = A7 := ⟨_, rfl⟩
  subst hA8x
  obtain ⟨c8, hc8x⟩ : ∃ c8, c8 = c7 := ⟨_, rfl⟩
  subst hc8x
  have hb3 := below_only hb2 hg3 (Nat.le_refl _)
  obtain ⟨q, hqe⟩ : ∃ q, q = w3.heap.size := ⟨_, rfl⟩
  have hq : w.heap.size < q := by have := hrd3.lt; omega
  have HF3 := hid hf3
  clear hf3
  go_wp2_with fail
  have hb5 : Below w.heap.size w (w3.alloc (.cells #[.int .i64 x0, .slice A8 gs.length c8, .slice none 0 0] 47)) := hb3.alloc hb3.size _
  have hk5 : ∀ g, g < w3.heap.size → (w3.alloc (.cells #[.int .i64 x0, .slice A8 gs.length c8, .slice none 0 0] 47)).heap[g]? = w3.heap[g]? := fun g hg => Below.heap_alloc _ _ _ hg
  have hq5 : (w3.alloc (.cells #[.int .i64 x0, .slice A8 gs.length c8, .slice none 0 0] 47)).heap[q]? = some (.cells #[.int .i64 x0, .slice A8 gs.length c8, .slice none 0 0] 47 (0, 0)) := by rw [hqe]; exact heap_alloc_new _ _
  have HV5 := hid ((HV2.out.on (below_of_only hg3 hBw hrd2.lt)).on ((Below.refl _ _).alloc (by have := hb3.size; omega) (.cells #[.int .i64 x0, .slice A8 gs.length c8, .slice none 0 0] 47)))
  rw [← hqe]
  generalize w3.alloc (.cells #[.int .i64 x0, .slice A8 gs.length c8, .slice none 0 0] 47) = w5 at hb5 hk5 hq5 HV5 ⊢
  have HG5 := hid ((listR spansR).mono (w' := w5) (S' := Dat w5) (fun p' hp' => cell_of_heap_eq (hk5 _ (hp'.elim Tag.lt Tag.lt))) (fun g hg' => (show Dat w3 g from hg'.imp id .inl).keep (hk5 g (hg'.elim Tag.lt Tag.lt))) hgs)
  have hrd5 := hrd3.keep (hk5 _ hrd3.lt)
  have HQ5 := hid hq5
  clear hqe hk5 hq5 hgs
  refine (terms_calls w.heap.size B hBw s3 _ hrd5 HV5.out).mono ?_
  rintro e w6 ⟨vt, ts, s4, rfl, hts, hrd6, htl, hg6⟩
  obtain ⟨A6, c6, rfl, _, _⟩ := list_form hts
  have hq5lt : q < w5.heap.size := by
    have h1 := HQ5.out
    rcases Nat.lt_or_ge q w5.heap.size with h' | h'
    · exact h'
    · simp [Array.getElem?_eq_none h'] at h1
  have hqb : q ≠ w.heap.size := by omega
  have HQ6 := hid ((hg6.block q hq5lt (by simp; exact hqb)).trans HQ5.out)
  have hb6 := below_only hb5 hg6 (Nat.le_refl _)
  have z6 : w6.cell? ⟨q, 2, none⟩ = some (.slice none 0 0) := by rw [Lib.cell_of_heap HQ6.out]; rfl
  have f6 : w6.frozen? ⟨q, 2, none⟩ = false := Lib.frozen_of_heap HQ6.out _
  have HTL := hid htl
  have hrb5 := hrd5.tag
  clear htl
  have HGS6 := hid ((listR spansR).mono (w' := w6) (S' := Dat w6) (fun p' hp' => cell_of_heap_eq (hg6.block _ hp'.lt (by simp; exact Dat.ne hp' hrb5 (by decide) (by decide) (by decide) (by decide)))) (fun g hg' => hg'.keep (hg6.block g hg'.lt (by simp; exact Dat.ne hg' hrb5 (by decide) (by decide) (by decide) (by decide)))) HG5.out)
  have HTS6 := hid ((listR termR).mono (w' := w6) (S' := Dat w6) (fun _ _ => rfl) (fun g hg' => by rcases hg' with h1 | h1; exact .inr (.inr (.inl h1)); exact .inr (.inr (.inr h1))) hts)
  clear hts
  go_wp2_with fail
  have hq6lt : q < w6.heap.size := Nat.lt_of_lt_of_le hq5lt hg6.size
  have hset : ∀ (u : Value) (g : Nat), g ≠ q → (w6.setCell ⟨q, 2, none⟩ u).heap[g]? = w6.heap[g]? := fun u g hg => Below.heap_setCell _ _ _ _ hg
  have hq7 := heap_set w6 q 2 (.slice A6 ts.length c6) HQ6.out
  have htq : Tag 47 w6 q := ⟨_, _, HQ6.out⟩
  have HGS7 := hid ((listR spansR).mono (w' := w6.setCell ⟨q, 2, none⟩ (.slice A6 ts.length c6)) (S' := Dat (w6.setCell ⟨q, 2, none⟩ (.slice A6 ts.length c6))) (fun p' hp' => cell_of_heap_eq (hset _ _ (Dat.ne hp' htq (by decide) (by decide) (by decide) (by decide)))) (fun g hg' => hg'.keep (hset _ g (Dat.ne hg' htq (by decide) (by decide) (by decide) (by decide)))) HGS6.out)
  have HTS7 := hid ((listR termR).mono (w' := w6.setCell ⟨q, 2, none⟩ (.slice A6 ts.length c6)) (S' := Dat (w6.setCell ⟨q, 2, none⟩ (.slice A6 ts.length c6))) (fun p' hp' => cell_of_heap_eq (hset _ _ (Dat.ne hp' htq (by decide) (by decide) (by decide) (by decide)))) (fun g hg' => hg'.keep (hset _ g (Dat.ne hg' htq (by decide) (by decide) (by decide) (by decide)))) HTS6.out)
  have hb7 : Below w.heap.size w (w6.setCell ⟨q, 2, none⟩ (.slice A6 ts.length c6)) := hb6.setCell (by show w.heap.size ≤ q; omega) _
  have hrd7 : RdS w.heap.size (w6.setCell ⟨q, 2, none⟩ (.slice A6 ts.length c6)) s4 := hrd6.keep (hset _ _ (Ne.symm hqb))
  have hs7 : (w6.setCell ⟨q, 2, none⟩ (.slice A6 ts.length c6)).heap.size ≥ w6.heap.size := by simp [World.setCell]
  generalize w6.setCell ⟨q, 2, none⟩ (.slice A6 ts.length c6) = w7 at hq7 HGS7 HTS7 hb7 hrd7 hs7 ⊢
  have HQ7 : Hid (w7.heap[q]? = some (.cells #[.int .i64 x0, .slice A8 gs.length c8, .slice A6 ts.length c6] 47 (0, 0))) := hid hq7
  have HD7 := hid (HD.out.later hb7)
  clear z6 f6 hset hq7 htq HGS6 HTS6 hrd6
  obtain ⟨css, hcl, hown, hel⟩ := HD7.out.finals
  clear hel
  have hrow : ∀ g, (Value.slice A5 d.finals.length c5).ownBlock = some g → Tag 47 w7 g ∧ base ≤ g ∧ g < w.heap.size := fun g hg' => ⟨(own_tag hown g hg').1, (own_tag hown g hg').2, (HD.out.finals.tag g hg').1.lt⟩
  have hq7lt : q < w7.heap.size := by omega
  have hp7lt : p < w7.heap.size := HD7.out.lt
  go_wp2_with fail
  obtain ⟨ι, W, ⟨i0, hi0⟩, hW, Wsur⟩ := held_class w7.drew (fun g => g = p ∨ g = q)
  have hne : Nonempty ι := ⟨i0⟩
  have q0 : ∀ i, (W i).cell? ⟨p, 5, none⟩ = some (.slice A5 d.finals.length c5) := fun i => by rw [Lib.cell_of_heap ((hW i _ (.inl rfl)).trans HD7.out.cells)]; rfl
  have q1 : ∀ i, (W i).cell? ⟨q, 0, none⟩ = some (.int .i64 x0) := fun i => by rw [Lib.cell_of_heap ((hW i _ (.inr rfl)).trans HQ7.out)]; rfl
  have q2 : ∀ i, (W i).cell? ⟨q, 1, none⟩ = some (.slice A8 gs.length c8) := fun i => by rw [Lib.cell_of_heap ((hW i _ (.inr rfl)).trans HQ7.out)]; rfl
  have q3 : ∀ i, (W i).cell? ⟨q, 2, none⟩ = some (.slice A6 ts.length c6) := fun i => by rw [Lib.cell_of_heap ((hW i _ (.inr rfl)).trans HQ7.out)]; rfl
  have WS := hid Wsur; clear Wsur
  have HW := hid hW; clear hW
  have Hi0 := hid hi0; clear hi0
  refine region_anyL (S := fun w' => ∃ i, w' = W i) (last := 10) (by kernel_rfl) ?_
  refine anyL_seg 0 6 (by kernel_rfl) (fun _ _ _ _ _ h => h) ⟨i0, Hi0.out.symm⟩ (f := 5) rfl (by kernel_rfl) (by kernel_rfl) ?_
  simp only [List.drop_zero, List.take_succ_cons, List.take_zero]
  repeat go_big_quiet_step (fail)
  refine wpQuiet_nil ?_
  refine anyL_act (i := 6) (by kernel_rfl) rfl rfl ?_
  intro K hK
  go_wp2_with fail
  refine hK.out _ _ (fun _ => WS.out _ (fun g hg => by rcases hg with rfl | rfl; exact Below.heap_alloc _ _ _ hp7lt; exact Below.heap_alloc _ _ _ hq7lt)) ?_
  clear hK K
  have hA7 : Below w7.heap.size w7 (w7.alloc (.cells #[.int .i64 x0, .slice A8 gs.length c8, .slice A6 ts.length c6] 47)).drew := ((Below.refl _ _).alloc (Nat.le_refl _) _).drew
  have hown7 : (w7.alloc (.cells #[.int .i64 x0, .slice A8 gs.length c8, .slice A6 ts.length c6] 47)).drew.ownsRow base 47 3 (.slice A5 d.finals.length c5) d.finals.length css.flatten := hown.alloc _
  have hbs : base ≤ w7.heap.size := by have := HD7.out.lt; omega
  refine anyL_act (i := 7) (by kernel_rfl) rfl rfl ?_
  intro K hK
  refine act_append_at _ _ 24 rfl base 47 infF _ 3 56 Tryd.underlying24 hiF hf0 hf1 hf2 rfl (by decide) _ _ _ rfl hown7 ⟨w7.heap.size, 0, none⟩ 1 1 [.int .i64 x0, .slice A8 gs.length c8, .slice A6 ts.length c6] rfl rfl (news_at (w := w7) (cs := #[.int .i64 x0, .slice A8 gs.length c8, .slice A6 ts.length c6]) rfl) (by simp [Value.oneCell']) (by unfold maxLen; omega) (by omega) (by simp; omega) ?_
  intro v9 w9 hown9 hg9 _ _
  go_simp
  have hk9 := after_append hA7 hg9 (fun g hg => (hrow g hg).1)
  have hkp : w9.heap[p]? = w7.heap[p]? := hk9 p hp7lt (fun ht => Tag.ne HD7.out.tag ht (by decide) rfl)
  have hkq : w9.heap[q]? = w7.heap[q]? := (hg9.block q (Nat.lt_of_lt_of_le hq7lt hA7.size) (fun he => by have := (hrow q he.symm).2.2; omega)).trans (hA7.block q hq7lt)
  have hs9 : ∃ i, w9 = W i := WS.out _ (fun g hg => by rcases hg with rfl | rfl; exact hkp; exact hkq)
  refine hK.out _ _ (fun _ => hs9) ?_
  clear hK K
  refine anyL_seg 8 2 (by kernel_rfl) (fun _ _ _ _ _ h => h) hs9 (f := 1) rfl (by kernel_rfl) (by kernel_rfl) ?_
  simp only [List.drop_succ_cons, List.drop_zero, List.take_succ_cons, List.take_zero]
  repeat go_big_quiet_step (fail)
  refine wpQuiet_nil ?_
  have HP9 := hid (hkp.trans HD7.out.cells)
  have z9 : w9.cell? ⟨p, 5, none⟩ = some (.slice A5 d.finals.length c5) := by rw [Lib.cell_of_heap HP9.out]; rfl
  have zf : w9.frozen? ⟨p, 5, none⟩ = false := Lib.frozen_of_heap HP9.out _
  obtain ⟨A9, c9, rfl⟩ := row_form hown9
  have HO9 := hid hown9
  have HG9 := hid hg9
  have hrd9 := hrd7.keep (hk9 _ hrd7.lt (fun ht => Tag.ne hrd7.tag ht (by decide) rfl))
  clear hown9 hg9
  refine anyL_act (i := 10) (by kernel_rfl) rfl rfl ?_
  intro K hK
  go_wp2_with fail
  refine hK.out _ _ (fun h => absurd rfl h) ?_
  clear hK K
  refine anyL_done (by kernel_rfl) ?_ _
  clear q0 q1 q2 q3 hs9 WS HW Hi0 hne i0 W ι z9 zf
  have hpb : p ≠ w.heap.size := by omega
  have h10 : ∀ g, g ≠ p → (w9.setCell ⟨p, 5, none⟩ (.slice A9 (d.finals.length + 1) c9)).heap[g]? = w9.heap[g]? := fun g hg => Below.heap_setCell _ _ _ _ hg
  have hp10 := heap_set w9 p 5 (.slice A9 (d.finals.length + 1) c9) HP9.out
  have hb10 : Below base w (w9.setCell ⟨p, 5, none⟩ (.slice A9 (d.finals.length + 1) c9)) := ((((hb7.mono (by omega)).trans (hA7.mono hbs)).grown HG9.out (by have := hA7.size; omega) (fun g hg => (hrow g hg).2.1))).setCell (by show base ≤ p; omega) _
  have hrd10 := hrd9.keep (h10 _ (Ne.symm hpb))
  generalize w9.setCell ⟨p, 5, none⟩ (.slice A9 (d.finals.length + 1) c9) = w10 at h10 hp10 hb10 hrd10 ⊢
  have HDE : Hid (DescAt base p (addE d (⟨x0, gs, ts⟩ : Final)) w10 vr (.slice A9 (d.finals.length + 1) c9)) := hid (by
    refine DescAt.addFinal (w5 := w7) (wA := (w7.alloc (.cells #[.int .i64 x0, .slice A8 gs.length c8, .slice A6 ts.length c6] 47)).drew) (w6 := w9) (cs := [.int .i64 x0, .slice A8 gs.length c8, .slice A6 ts.length c6]) HD7.out hA7 HG9.out hp10 h10 (fun css' hl' ho' => ?_) ?_
    · have e : css'.flatten = css.flatten := own_same ho' hown
      rw [e]
      exact HO9.out
    · exact ⟨_, _, rfl, HIX.out, HGS7.out, HTS7.out⟩)
  obtain ⟨s', bad, hbb, hsz', hst'⟩ := hrd10
  have xb : w10.cell? ⟨w.heap.size, 1, none⟩ = some (.bool bad) := by rw [Lib.cell_of_heap hbb]; rfl
  have HRES := hid (final_res HFIN.out HF3.out HTL.out)
  clear hbb hrow hk9 hkp hkq h10 hp10 hown hown7
  cases hs4 : s4 with
  | none =>
    subst hs4
    simp only at hst'
    subst hst'
    have HF : Hid (lineF false d s.data.toList = none) := hid (by
      rcases HRES.out with ⟨h1, _⟩ | ⟨_, h2⟩
      · cases h1
      · exact (by rw [line_final_eq HFE.out]; exact (congrArg (Option.map (addE d)) h2)))
    go_wp2_with fail
    go_ret
    exact post_none (first := false) (d := d) HF.out hb10
  | some r =>
    subst hs4
    simp only at hst'
    obtain ⟨rfl, _⟩ := hst'
    have HF : Hid (lineF false d s.data.toList = some (addE d (⟨x0, gs, ts⟩ : Final))) := hid (by
      rcases HRES.out with ⟨_, h2⟩ | ⟨h1, _⟩
      · exact (by rw [line_final_eq HFE.out]; exact (congrArg (Option.map (addE d)) h2))
      · cases h1)
    go_wp2_with fail
    go_ret
    exact post_some (first := false) (d := d) HF.out ⟨_, _, HDE.out⟩ hb10

end Go.Proofs.YtcdnkmefcldfmaaDoor
