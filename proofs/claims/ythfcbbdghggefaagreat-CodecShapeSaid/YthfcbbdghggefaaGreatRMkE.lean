/-
  What decodes valid bytes: codec.Strict.
-/
import Derived.Test.YthfcbbdghggefaaGreatRMkD
import Derived.Test.YthfcbbdghggefaaGreatROwnX
namespace Go.Proofs.YthfcbbdghggefaaGreat
open Go.RowKit Go.Um Go.Proofs
def DescOwn (D : Desc) (w : World) (e : Ending) (w' : World) : Prop := ∃ vr vf X, e = .returned (.agg #[.int .i64 D.inn, .int .i64 D.out, .int .i64 D.states, .int .i64 D.start, vr, vf]) ∧ FX 46 ruleR w' w.heap.size X vr D.rules ∧ FX 49 finalR w' w.heap.size X vf D.finals ∧ (∀ g, X g → g < w'.heap.size) ∧ Below w.heap.size w w'
theorem DescOwn.post {D : Desc} {w w' : World} {e : Ending} (h : DescOwn D w e w') : DescPost D w e w' := by
  obtain ⟨vr, vf, X, h1, h2, h3, _, h4⟩ := h
  exact ⟨vr, vf, h1, h2.rel, h3.rel, h4⟩
def ruleG (g : List (List Span)) : Rule := ⟨0, 0, g, g.length, [scalarT g.length]⟩
theorem scalarT_eq (n : Nat) : scalarT n = ⟨0, 0, 21, 0, 0, (scalarT n).parts⟩ := by unfold scalarT copyT; split <;> rfl
theorem scalar_calls2 (n : Nat) (w : World) (h1 : 1 ≤ n) (h4 : n ≤ 4) : Calls Tryz.prog 41 #[.int .i64 n] w fun e w' => ∃ v, e = .returned (.agg #[.int .i64 0, .int .i64 0, .int .i64 21, .int .i64 0, .int .i64 0, v]) ∧ (listR partR).rel w' (Fresh w.heap.size w') [v] (scalarT n).parts ∧ Below w.heap.size w w' :=
  (scalar_calls n w h1 h4).mono fun e w' ⟨v, h, h2, h3⟩ => ⟨v, by rw [h, scalarT_eq]; rfl, h2, h3⟩
theorem rows_len : ∀ g ∈ rowsP, 1 ≤ g.length ∧ g.length ≤ 4 := by decide
theorem infoRu : (Tryz.prog.info? 46).map (fun i => (i.zero, i.size, i.bytes)) = some (some (.agg #[.int .i64 0, .int .i64 0, .slice none 0 0, .int .i64 0, .slice none 0 0]), 5, 72) := by kernel_rfl
def StrI (w w1 wr : World) (k : Nat) : Prop := ∃ vr, wr.heap[w.heap.size + 1 + 1]? = some (.cells #[.int .i64 1, .int .i64 2, .int .i64 1, .int .i64 0, vr, .slice (some ⟨w.heap.size + 1, 0, none⟩) 1 1] 27) ∧ FL 46 ruleR wr (w.heap.size + 1 + 1 + 1) w1.heap.size vr ((rowsP.take k).map ruleG) ∧ (∀ g, g < w1.heap.size → g ≠ w.heap.size + 1 + 1 → wr.heap[g]? = w1.heap[g]?) ∧ w1.heap.size ≤ wr.heap.size ∧ Below w.heap.size w wr
set_option maxHeartbeats 2000000 in
set_option maxRecDepth 100000 in
theorem Strict_calls (w : World) : Calls Tryz.prog 9 #[] w fun e w' => DescOwn strictD w e w' := by
  have HR := hid fun W => Rows_calls W
  have HSC := hid fun n W (h1 : 1 ≤ n) (h4 : n ≤ 4) => scalar_calls2 n W h1 h4
  obtain ⟨inf, hi0, hz0, hz1, hz2⟩ := info_parts infoRu
  have hZ0 : (((w.alloc (.cells #[.int .i64 0, .int .i64 0, .int .i64 0, .int .i64 0, .slice none 0 0, .slice none 0 0] 27)).alloc (.cells #[.int .i64 0, .slice none 0 0, .slice none 0 0] 49)).alloc (.cells #[.int .i64 1, .int .i64 2, .int .i64 1, .int .i64 0, .slice none 0 0, .slice (some ⟨w.heap.size + 1, 0, none⟩) 1 1] 27)).heap[w.heap.size]? = some (.cells #[.int .i64 0, .int .i64 0, .int .i64 0, .int .i64 0, .slice none 0 0, .slice none 0 0] 27) := by
    rw [Below.heap_alloc _ _ _ (by simp; omega), Below.heap_alloc _ _ _ (by simp)]; exact heap_alloc_new _ _
  have hD0 : (((w.alloc (.cells #[.int .i64 0, .int .i64 0, .int .i64 0, .int .i64 0, .slice none 0 0, .slice none 0 0] 27)).alloc (.cells #[.int .i64 0, .slice none 0 0, .slice none 0 0] 49)).alloc (.cells #[.int .i64 1, .int .i64 2, .int .i64 1, .int .i64 0, .slice none 0 0, .slice (some ⟨w.heap.size + 1, 0, none⟩) 1 1] 27)).heap[w.heap.size + 1 + 1]? = some (.cells #[.int .i64 1, .int .i64 2, .int .i64 1, .int .i64 0, .slice none 0 0, .slice (some ⟨w.heap.size + 1, 0, none⟩) 1 1] 27) := by
    have := heap_alloc_new ((w.alloc (.cells #[.int .i64 0, .int .i64 0, .int .i64 0, .int .i64 0, .slice none 0 0, .slice none 0 0] 27)).alloc (.cells #[.int .i64 0, .slice none 0 0, .slice none 0 0] 49)) (.cells #[.int .i64 1, .int .i64 2, .int .i64 1, .int .i64 0, .slice none 0 0, .slice (some ⟨w.heap.size + 1, 0, none⟩) 1 1] 27)
    simpa using this
  have hF1 : (((w.alloc (.cells #[.int .i64 0, .int .i64 0, .int .i64 0, .int .i64 0, .slice none 0 0, .slice none 0 0] 27)).alloc (.cells #[.int .i64 0, .slice none 0 0, .slice none 0 0] 49)).alloc (.cells #[.int .i64 1, .int .i64 2, .int .i64 1, .int .i64 0, .slice none 0 0, .slice (some ⟨w.heap.size + 1, 0, none⟩) 1 1] 27)).heap[w.heap.size + 1]? = some (.cells #[.int .i64 0, .slice none 0 0, .slice none 0 0] 49) := by
    rw [Below.heap_alloc _ _ _ (by simp)]
    have := heap_alloc_new (w.alloc (.cells #[.int .i64 0, .int .i64 0, .int .i64 0, .int .i64 0, .slice none 0 0, .slice none 0 0] 27)) (.cells #[.int .i64 0, .slice none 0 0, .slice none 0 0] 49)
    simpa using this
  have hB0 : Below w.heap.size w (((w.alloc (.cells #[.int .i64 0, .int .i64 0, .int .i64 0, .int .i64 0, .slice none 0 0, .slice none 0 0] 27)).alloc (.cells #[.int .i64 0, .slice none 0 0, .slice none 0 0] 49)).alloc (.cells #[.int .i64 1, .int .i64 2, .int .i64 1, .int .i64 0, .slice none 0 0, .slice (some ⟨w.heap.size + 1, 0, none⟩) 1 1] 27)) := (((Below.refl _ w).alloc (Nat.le_refl _) _).alloc (by simp) _).alloc (by simp; omega) _
  have hs0 : (((w.alloc (.cells #[.int .i64 0, .int .i64 0, .int .i64 0, .int .i64 0, .slice none 0 0, .slice none 0 0] 27)).alloc (.cells #[.int .i64 0, .slice none 0 0, .slice none 0 0] 49)).alloc (.cells #[.int .i64 1, .int .i64 2, .int .i64 1, .int .i64 0, .slice none 0 0, .slice (some ⟨w.heap.size + 1, 0, none⟩) 1 1] 27)).heap.size = w.heap.size + 1 + 1 + 1 := by simp
  go_enter Tryz.func9, Tryz.ntmps9
  go_wp2_with fail
  generalize ((w.alloc (.cells #[.int .i64 0, .int .i64 0, .int .i64 0, .int .i64 0, .slice none 0 0, .slice none 0 0] 27)).alloc (.cells #[.int .i64 0, .slice none 0 0, .slice none 0 0] 49)).alloc (.cells #[.int .i64 1, .int .i64 2, .int .i64 1, .int .i64 0, .slice none 0 0, .slice (some ⟨w.heap.size + 1, 0, none⟩) 1 1] 27) = w0 at *
  refine (HR.out _).mono ?_
  rintro e w1 ⟨u, rfl, hrows, hB1⟩
  have hZ1 := (hB1.block _ (by omega)).trans hZ0
  have hD1 := (hB1.block _ (by omega)).trans hD0
  have hFf := (hB1.block (w.heap.size + 1) (by omega)).trans hF1
  have hBw1 := hB0.trans (hB1.mono (by omega))
  have hs1 : w.heap.size + 1 + 1 + 1 ≤ w1.heap.size := by have := hB1.size; omega
  obtain ⟨A, c, rfl, hc, hm⟩ := list_form hrows
  have hrows2 := hrows
  have H9 : Hid (rowsP.length = 9) := hid rfl
  clear hrows hZ0 hD0 hF1 hB0 hB1 HR hc
  go_wp2_with fail
  go_loopw [9] (fun vi wr => ∃ k : Nat, k ≤ rowsP.length ∧ vi = .int .i64 k ∧ StrI w w1 wr k) (fun vi _ => rowsP.length - (intOf vi).toNat)
  case atStart => exact ⟨0, Nat.zero_le _, rfl, _, hD1, OwnR.nil, fun _ _ _ => rfl, Nat.le_refl _, hBw1⟩
  case round =>
    clear hD1 hBw1
    obtain ⟨k, hk, rfl, vr, hD, hF, hkeep, hsz, hB⟩ := hrel
    obtain ⟨wd, hwd⟩ : ∃ wd, wd = wr := ⟨_, rfl⟩
    subst hwd
    have HD := hid hD
    have HF := hid hF
    have HK := hid hkeep
    have HB := hid hB
    have hDl := heapLtM hD
    obtain ⟨L, hL⟩ : ∃ L, L = (rowsP.take k).map ruleG := ⟨_, rfl⟩
    rw [← hL] at HF hF
    obtain ⟨Ar, cr, rfl⟩ := hF.len
    have hrl : L.length ≤ 9 := by rw [hL]; have := H9.out; simp; omega
    have HL := hid hL
    have hk9 : (k : Int) ≤ 9 := by have := H9.out; omega
    obtain ⟨x0, x1, x2, x3, x4, x5⟩ := six9 hD
    by_cases hlt : k < rowsP.length
    · obtain ⟨g, hg⟩ := at_lt (xs := rowsP) (i := k) hlt
      have hlt' : (k : Int) < rowsP.length := by omega
      obtain ⟨hg1, hg4⟩ := rows_len g (List.mem_of_getElem? hg)
      have hrw := (listR (listR spansR)).mono (S' := Fresh w0.heap.size w1) (w' := wd) (fun p hp => World.cell?_of_block (hkeep _ hp.2 (by have := hp.1; omega))) (fun _ hb => hb) hrows2
      obtain ⟨b1, o1, y1, rfl, hb1, hy1, hcg⟩ := list_at1 rfl hrw hg
      obtain ⟨A3, c3, rfl, _, _⟩ := list_form hy1
      have hSN : Hid ((rowsP.take (k + 1)).map ruleG = L ++ [ruleG g]) := hid (by rw [List.take_add_one, hg, List.map_append, hL]; rfl)
      have hb1l : b1 < wd.heap.size := by have := hb1.2; omega
      have hgn : (g.length : Int) ≤ 4 := by omega
      have HY := hid hy1
      clear hD hF hkeep hB hg hrw hy1 hlt hL
      go_wp2_with fail
      obtain ⟨ι, Wc, ⟨i0, hi0'⟩, hWc, Wsur⟩ := held_class wd.drew (fun g => g = w.heap.size + 1 + 1)
      have hne : Nonempty ι := ⟨i0⟩
      have WS := hid Wsur; clear Wsur
      have HWc := hid hWc; clear hWc
      have Hi0 := hid hi0'; clear hi0'
      have g1 : ∀ i, (Wc i).cell? ⟨w.heap.size + 1 + 1, 4, none⟩ = some (.slice Ar L.length cr) := fun i => (World.cell?_of_block (a := ⟨w.heap.size + 1 + 1, 4, none⟩) (HWc.out i _ rfl)).trans x4
      refine region_anyL (S := fun w' => ∃ i, w' = Wc i) (last := 13) (by kernel_rfl) ?_
      refine anyL_seg 0 7 (by kernel_rfl) (fun _ _ _ _ _ h => h) ⟨i0, Hi0.out.symm⟩ (f := 7) rfl (by kernel_rfl) (by kernel_rfl) ?_
      simp only [List.drop_zero, List.take_succ_cons, List.take_zero]
      repeat go_big_quiet_step (fail)
      refine wpQuiet_nil ?_
      refine anyL_act (i := 7) (by kernel_rfl) rfl rfl ?_
      intro K hK
      go_wp2_with fail
      refine (HSC.out g.length _ hg1 hg4).mono ?_
      rintro e w5 ⟨v, rfl, hp, hB5⟩
      have hB5' : Below wd.heap.size wd w5 := ⟨hB5.os, hB5.tape, hB5.output, hB5.size, hB5.block⟩
      have hs5 := hB5'.size
      have hS5 : ∃ i, w5 = Wc i := WS.out _ (fun q hq => by subst hq; exact hB5'.block _ hDl)
      obtain ⟨A6, c6, rfl, _, _⟩ := list_form hp
      go_wp2_with fail
      refine hK.out _ _ (fun _ => hS5) ?_
      clear hK K
      refine anyL_act (i := 8) (by kernel_rfl) rfl rfl ?_
      intro K hK
      go_wp2_with fail
      have hS6 : ∃ i, (w5.alloc (.cells #[.int .i64 0, .int .i64 0, .int .i64 21, .int .i64 0, .int .i64 0, .slice A6 (scalarT g.length).parts.length c6] 69)) = Wc i := WS.out _ (fun q hq => by subst hq; rw [Below.heap_alloc _ _ _ (by omega)]; exact hB5'.block _ hDl)
      refine hK.out _ _ (fun _ => hS6) ?_
      clear hK K
      refine anyL_seg 9 1 (by kernel_rfl) (fun _ _ _ _ _ h => h) hS6 (f := 4) rfl (by kernel_rfl) (by kernel_rfl) ?_
      simp only [List.drop_succ_cons, List.drop_zero, List.take_succ_cons, List.take_zero]
      repeat go_big_quiet_step (fail)
      refine wpQuiet_nil ?_
      refine anyL_act (i := 10) (by kernel_rfl) rfl rfl ?_
      intro K hK
      go_wp2_with fail
      have hS7 : ∃ i, ((w5.alloc (.cells #[.int .i64 0, .int .i64 0, .int .i64 21, .int .i64 0, .int .i64 0, .slice A6 (scalarT g.length).parts.length c6] 69)).alloc (.cells #[.int .i64 0, .int .i64 0, .slice A3 g.length c3, .int .i64 g.length, .slice (some ⟨w5.heap.size, 0, none⟩) 1 1] 46)) = Wc i := WS.out _ (fun q hq => by subst hq; rw [Below.heap_alloc _ _ _ (by simp; omega), Below.heap_alloc _ _ _ (by omega)]; exact hB5'.block _ hDl)
      refine hK.out _ _ (fun _ => hS7) ?_
      clear hK K
      refine anyL_act (i := 11) (by kernel_rfl) rfl rfl ?_
      intro K hK
      have hB5w : Below w.heap.size w w5 := HB.out.trans (hB5'.mono HB.out.size)
      have hFt := FL.one (e := 69) (r := termR) (x := scalarT g.length) (w := w5) (b0 := wd.heap.size) (base := wd.heap.size) (cells := #[.int .i64 0, .int .i64 0, .int .i64 21, .int .i64 0, .int .i64 0, .slice A6 (scalarT g.length).parts.length c6]) ⟨_, by rw [scalarT_eq], by rw [scalarT_eq]; exact ⟨(okI (by omega) : I64 0), (okI (by omega) : I64 0), (okI (by omega) : I64 21), (okI (by omega) : I64 0), (okI (by omega) : I64 0)⟩, hp⟩ rfl hs5
      have hBA : Below wd.heap.size wd (w5.alloc (.cells #[.int .i64 0, .int .i64 0, .int .i64 21, .int .i64 0, .int .i64 0, .slice A6 (scalarT g.length).parts.length c6] 69)) := hB5'.alloc hs5 _
      have hBB : Below wd.heap.size wd ((w5.alloc (.cells #[.int .i64 0, .int .i64 0, .int .i64 21, .int .i64 0, .int .i64 0, .slice A6 (scalarT g.length).parts.length c6] 69)).alloc (.cells #[.int .i64 0, .int .i64 0, .slice A3 g.length c3, .int .i64 g.length, .slice (some ⟨w5.heap.size, 0, none⟩) 1 1] 46)) := hBA.alloc hBA.size _
      have hterm := (hFt.later ((Below.refl _ _).alloc (Nat.le_refl _) (.cells #[.int .i64 0, .int .i64 0, .slice A3 g.length c3, .int .i64 g.length, .slice (some ⟨w5.heap.size, 0, none⟩) 1 1] 46))).rel (Nat.le_refl _)
      have hown : ∀ q, (Value.slice Ar L.length cr).ownBlock = some q → q < wd.heap.size := HF.out.own_lt
      have hge : ∀ q, (Value.slice Ar L.length cr).ownBlock = some q → w1.heap.size ≤ q := HF.out.own_ge
      have hgd : (listR spansR).rel ((w5.alloc (.cells #[.int .i64 0, .int .i64 0, .int .i64 21, .int .i64 0, .int .i64 0, .slice A6 (scalarT g.length).parts.length c6] 69)).alloc (.cells #[.int .i64 0, .int .i64 0, .slice A3 g.length c3, .int .i64 g.length, .slice (some ⟨w5.heap.size, 0, none⟩) 1 1] 46)) (Els ((w5.alloc (.cells #[.int .i64 0, .int .i64 0, .int .i64 21, .int .i64 0, .int .i64 0, .slice A6 (scalarT g.length).parts.length c6] 69)).alloc (.cells #[.int .i64 0, .int .i64 0, .slice A3 g.length c3, .int .i64 g.length, .slice (some ⟨w5.heap.size, 0, none⟩) 1 1] 46)) (w.heap.size + 1 + 1 + 1) (.slice Ar L.length cr)) [.slice A3 g.length c3] g :=
        (listR spansR).mono (fun p hp' => hBB.cell (Nat.lt_of_lt_of_le hp'.2 hsz)) (fun b hb => ⟨by have := hb.1; omega, Nat.lt_of_lt_of_le (Nat.lt_of_lt_of_le hb.2 hsz) hBB.size, fun he => by have := hge b he; have := hb.2; omega⟩) HY.out
      refine act_append_fl (r := ruleR) (v := .slice Ar L.length cr) (xs := L) (w0 := wd) (w := (w5.alloc (.cells #[.int .i64 0, .int .i64 0, .int .i64 21, .int .i64 0, .int .i64 0, .slice A6 (scalarT g.length).parts.length c6] 69)).alloc (.cells #[.int .i64 0, .int .i64 0, .slice A3 g.length c3, .int .i64 g.length, .slice (some ⟨w5.heap.size, 0, none⟩) 1 1] 46)) _ _ 24 (by rfl) inf _ 72 Tryz.underlying24 hi0 hz0 hz1 hz2 rfl (by decide) (by rfl) HF.out hBB (Nat.le_trans hsz hBB.size) ⟨w5.heap.size + 1, 0, none⟩ 1 (ruleG g) [.int .i64 0, .int .i64 0, .slice A3 g.length c3, .int .i64 g.length, .slice (some ⟨w5.heap.size, 0, none⟩) 1 1] (by rfl) ⟨_, _, rfl, ⟨(okI (by omega) : I64 0), (okI (by omega) : I64 0), (okI (by omega) : I64 (g.length : Int))⟩, hgd, rel_els (q := listR termR) hterm hown (by omega)⟩
        (news_at (w := w5.alloc (.cells #[.int .i64 0, .int .i64 0, .int .i64 21, .int .i64 0, .int .i64 0, .slice A6 (scalarT g.length).parts.length c6] 69)) (cs := #[_, _, _, _, _]) (by simp)) (by simp [Value.oneCell']) (by unfold maxLen; omega) (by omega) ?_
      intro v' w6 hF6 hB6
      have hbx : ∀ q, q < w1.heap.size → w6.heap[q]? = wd.heap[q]? := fun q hq => (hB6.block q hq).trans (hBB.block q (by omega))
      have hD6 := (hbx (w.heap.size + 1 + 1) (by omega)).trans HD.out
      have hS8 : ∃ i, w6 = Wc i := WS.out _ (fun q hq => by subst hq; exact hbx _ (by omega))
      refine hK.out _ _ (fun _ => hS8) ?_
      clear hK K
      go_simp
      obtain ⟨Aw, cw, rfl⟩ := hF6.len
      refine anyL_seg 12 1 (by kernel_rfl) (fun _ _ _ _ _ h => h) hS8 (f := 1) rfl (by kernel_rfl) (by kernel_rfl) ?_
      simp only [List.drop_succ_cons, List.drop_zero, List.take_succ_cons, List.take_zero]
      repeat go_big_quiet_step (fail)
      refine wpQuiet_nil ?_
      obtain ⟨q0, q1, q2, q3, q4, q5⟩ := six9 hD6
      obtain ⟨f0, f1, f2, f3, f4, f5⟩ := fro6 hD6
      refine anyL_act (i := 13) (by kernel_rfl) rfl rfl ?_
      intro K hK
      go_wp2_with fail
      refine hK.out _ _ (fun h => absurd rfl h) ?_
      clear hK K
      refine anyL_done (by kernel_rfl) ?_ 0
      have hTs : (w6.setCell ⟨w.heap.size + 1 + 1, 4, none⟩ (.slice Aw (L ++ [ruleG g]).length cw)).heap[w.heap.size + 1 + 1]? = some (.cells #[.int .i64 1, .int .i64 2, .int .i64 1, .int .i64 0, .slice Aw (L ++ [ruleG g]).length cw, .slice (some ⟨w.heap.size + 1, 0, none⟩) 1 1] 27) := (heap_setCell_same w6 (w.heap.size + 1 + 1) 4 _ _ (.slice Aw (L ++ [ruleG g]).length cw) hD6).trans rfl
      have hFs := hF6.keep (w' := w6.setCell ⟨w.heap.size + 1 + 1, 4, none⟩ (.slice Aw (L ++ [ruleG g]).length cw)) (by omega) (by simp) (fun q hq _ => heap_setCell_other _ _ _ _ (by simp only; omega))
      have hKs : ∀ q, q < w1.heap.size → q ≠ w.heap.size + 1 + 1 → (w6.setCell ⟨w.heap.size + 1 + 1, 4, none⟩ (.slice Aw (L ++ [ruleG g]).length cw)).heap[q]? = w1.heap[q]? := fun q h1 h2 => by
        rw [heap_setCell_other _ _ _ _ (by simpa using h2), hbx q h1]; exact HK.out q h1 h2
      have hBs : Below w.heap.size w (w6.setCell ⟨w.heap.size + 1 + 1, 4, none⟩ (.slice Aw (L ++ [ruleG g]).length cw)) := ((HB.out.trans (hBB.mono HB.out.size)).trans (hB6.mono (by omega))).setCell (p := ⟨w.heap.size + 1 + 1, 4, none⟩) (by simp only; omega) _
      have hzs : w1.heap.size ≤ (w6.setCell ⟨w.heap.size + 1 + 1, 4, none⟩ (.slice Aw (L ++ [ruleG g]).length cw)).heap.size := by simp; have := hB6.size; have := hBB.size; omega
      have HE : Hid (∃ k' : Nat, k' ≤ rowsP.length ∧ Value.int .i64 ((k : Int) + 1) = .int .i64 k' ∧ StrI w w1 (w6.setCell ⟨w.heap.size + 1 + 1, 4, none⟩ (.slice Aw (L ++ [ruleG g]).length cw)) k') := hid ⟨k + 1, by omega, by push_cast; rfl, _, hTs, by rw [hSN.out]; exact hFs, hKs, hzs, hBs⟩
      clear hS5 hS6 hS7 hS8 hTs hFs hKs hBs hzs q0 q1 q2 q3 q4 q5 f0 f1 f2 f3 f4 f5 g1 WS HWc Hi0 hne i0 Wc ι
      go_wp2_with fail
      first
        | (refine ⟨HE.out, ?_⟩; simp [intOf]; omega)
        | (go_simp; refine ⟨by simpa using HE.out, ?_⟩; simp [intOf]; omega)
    · obtain rfl : k = rowsP.length := by omega
      rw [List.take_length] at hL
      have hZ := (hkeep w.heap.size (by omega) (by omega)).trans hZ1
      have hfin := (hkeep (w.heap.size + 1) (by omega) (by omega)).trans hFf
      obtain ⟨z0, z1, z2, z3, z4, z5⟩ := six9 hZ
      obtain ⟨f0, f1, f2, f3, f4, f5⟩ := fro6 hZ
      have HZ := hid hZ
      have HFI := hid hfin
      have HL2 := hid hL
      clear hD hF hkeep hB hlt hZ hfin hL
      go_wp2_with fail
      obtain ⟨ws, hws⟩ : ∃ ws, ws = setS wd w.heap.size (.int .i64 1) (.int .i64 2) (.int .i64 1) (.int .i64 0) (.slice Ar L.length cr) (.slice (some ⟨w.heap.size + 1, 0, none⟩) 1 1) := ⟨_, rfl⟩
      have hXs : ws.heap[w.heap.size]? = some (.cells #[.int .i64 1, .int .i64 2, .int .i64 1, .int .i64 0, .slice Ar L.length cr, .slice (some ⟨w.heap.size + 1, 0, none⟩) 1 1] 27) := by rw [hws]; exact setS_heap HZ.out _ _ _ _ _ _
      have hBs : Below w.heap.size w ws := by rw [hws]; exact HB.out.set6 (Nat.le_refl _) _ _ _ _ _ _
      have hss : ws.heap.size = wd.heap.size := by rw [hws]; exact setS_size ..
      have hoth : ∀ q, q ≠ w.heap.size → ws.heap[q]? = wd.heap[q]? := fun q hq => by rw [hws]; exact setS_other _ _ _ _ _ _ _ _ _ hq
      unfold setS at hws
      rw [← hws]
      clear hws
      obtain ⟨y0, y1, y2, y3, y4, y5⟩ := six9 hXs
      have hFr := HF.out.keep (w' := ws) (by omega) (by omega) (fun q hq _ => hoth q (by omega))
      have hFXr : FX 46 ruleR ws w.heap.size (fun q => (Value.slice Ar L.length cr).ownBlock = some q ∨ q = w.heap.size + 1) (.slice Ar L.length cr) strictD.rules := by
        have h8 : FX 46 ruleR ws w.heap.size (fun q => (Value.slice Ar L.length cr).ownBlock = some q ∨ q = w.heap.size + 1) (.slice Ar L.length cr) L :=
          ⟨OwnR.base' (OwnR.keep hFr (fun _ _ => rfl) (fun _ _ => rfl) (fun b hs => ⟨by have := hs.1; omega, hs.2.1, fun hx => hx.elim hs.2.2 (fun h => by have := hs.1; omega)⟩)) (by omega), fun q hq => .inl hq⟩
        rw [HL2.out] at h8 ⊢
        exact h8
      have hFIs := (hoth (w.heap.size + 1) (by omega)).trans HFI.out
      have hFXf : FX 49 finalR ws w.heap.size (fun q => (Value.slice Ar L.length cr).ownBlock = some q ∨ q = w.heap.size + 1) (.slice (some ⟨w.heap.size + 1, 0, none⟩) 1 1) [⟨0, [], []⟩] :=
        ⟨⟨[[.int .i64 0, .slice none 0 0, .slice none 0 0]], rfl, ⟨rfl, .inr ⟨w.heap.size + 1, 1, _, rfl, by omega, hFIs, Nat.le_refl _, by unfold maxLen; omega, rfl, rfl⟩⟩, fun i x cs h1 h2 => by
          cases i with
          | succ i => simp at h1
          | zero => simp at h1 h2; subst h1 h2; exact ⟨_, _, rfl, (okI (by omega) : I64 0), list_nil _ _ _, list_nil _ _ _⟩⟩, fun q hq => .inr (by simp [Value.ownBlock] at hq; omega)⟩
      have hXl : ∀ q, ((Value.slice Ar L.length cr).ownBlock = some q ∨ q = w.heap.size + 1) → q < ws.heap.size := fun q hq => hq.elim (fun h => hFXr.own_lt q (by rw [← h])) (fun h => by omega)
      exact bodyPost_ret (v := .agg #[.int .i64 1, .int .i64 2, .int .i64 1, .int .i64 0, .slice Ar L.length cr, .slice (some ⟨w.heap.size + 1, 0, none⟩) 1 1]) (by simp [results, Tryz.results9, go_sem, y0, y1, y2, y3, y4, y5]) rfl ⟨_, _, _, rfl, hFXr, hFXf, hXl, hBs⟩
end Go.Proofs.YthfcbbdghggefaaGreat
