/-
  What terms write of a window: run.writes.
-/
import Derived.Test.YtmkmikacfilbpaaGreatRuB
namespace Go.Um
open Go.RowKit
theorem nword_one {w : World} {x : Int} (t : TypeId) (hx : I32 x) : nwordR.rel (w.alloc (.cells #[.int .i32 x] t)) (Fresh w.heap.size (w.alloc (.cells #[.int .i32 x] t))) [.slice (some ⟨w.heap.size, 0, none⟩) 1 1] [x] := by
  refine ⟨⟨_, _, _, rfl, rfl, Nat.le_refl _, by unfold maxLen; omega, .inr ⟨w.heap.size, 0, rfl, ⟨Nat.le_refl _, by simp⟩, fun i y hi => ?_⟩⟩, fun n c h => by injection h with h; injection h with h; cases h⟩
  cases i with
  | succ i => simp at hi
  | zero =>
    simp at hi
    subst hi
    refine ⟨[.int .i32 x], ⟨rfl, hx⟩, fun j v hv => ?_⟩
    cases j with
    | succ j => simp at hv
    | zero =>
      simp at hv
      subst hv
      exact cell_of_row _ _ 0 _ _ _ (heap_alloc_new w _)
theorem list_front {α : Type} {r : RepOf α} {w : World} {S : Nat → Prop} {A : Option Addr} {n cap : Nat} {xs : List α} (h : (listR r).rel w S [.slice A n cap] xs) {m : Nat} (hm : m ≤ xs.length) : (listR r).rel w S [.slice A m cap] (xs.take m) := by
  obtain ⟨A', n', cap', he, hn, hc, hx, hl⟩ := h
  injection he with he
  injection he with h1 h2 h3
  subst h1 h2 h3
  refine ⟨_, m, _, rfl, by simp; omega, by omega, hx, ?_⟩
  rcases hl with hl | ⟨b, o, hA, hS, hel⟩
  · exact .inl (by omega)
  · refine .inr ⟨b, o, hA, hS, fun i x hi => hel i x ?_⟩
    rw [List.getElem?_take] at hi
    split at hi
    · exact hi
    · simp at hi
end Go.Um
namespace Go.Proofs.YtmkmikacfilbpaaGreat
open Go.RowKit Go.Um Go.Proofs
/-- a term that may be reckoned of a window. -/
def okT (t : Term) (win : List Int) : Prop := numbersF t = true ∧ (∀ p ∈ t.parts, rightP p win.length = true) ∧ (0 ≤ t.sum + sumV t.parts (fun q => win.getD q.toNat 0) ∧ t.sum + sumV t.parts (fun q => win.getD q.toNat 0) ≤ 1114111) ∧ 0 ≤ tvalF t win ∧ tvalF t win ≤ 1114111
theorem win_len {x : List Int} {a n : Nat} (h : a + n ≤ x.length) : (winF x a n).length = n := by unfold winF; simp; omega
theorem win_rel {w : World} {S : Nat → Prop} {A : Option Addr} {n c : Nat} {x : List Int} {a m : Nat} (h : wordR.rel w S [.slice A n c] x) (hm : a + m ≤ x.length) : wordR.rel w S [.slice (if c = a then A else A.map (·.add a)) m (c - a)] (winF x a m) := by
  have hn := (list_len h).1
  have h1 := list_cut (k := a) h (by omega)
  have h2 := list_front h1 (m := m) (by simp; omega)
  have hw : runeR.width = 1 := rfl
  rw [hw, Nat.mul_one] at h2
  exact h2
set_option maxHeartbeats 1000000 in
set_option maxRecDepth 100000 in
theorem rwrites_calls (RB : Nat) (vx tv : Value) (x : List Int) (ts : List Term) (a n : Nat) (w : World) (hc : w.cell? ⟨RB, 6, none⟩ = some vx) (hx : wordR.rel w (upto w.heap.size) [vx] x) (ht : (listR termR).rel w (upto w.heap.size) [tv] ts) (han : a + n ≤ x.length)
    (hxs : ∀ z ∈ x, 0 ≤ z ∧ z ≤ 1114111) (hok : ∀ t ∈ ts, okT t (winF x a n)) (hl : ts.length ≤ 1000000) :
    Calls Tryz.prog 52 #[.pointer (some ⟨RB, 0, none⟩), tv, .int .i64 a, .int .i64 n] w fun e w' => ∃ u, e = .returned u ∧ OwnW 21 w' w.heap.size u (writesV ts (winF x a n)) ∧ Below w.heap.size w w' := by
  obtain ⟨inf, hi0, hz0, hz1, hz2⟩ := info_parts infoRn
  obtain ⟨A, c, rfl, hc1, hm⟩ := list_form ht
  obtain ⟨B, d, rfl, hd1, hm2⟩ := list_form hx
  unfold maxLen at hm hm2
  have hRB : RB < w.heap.size := block_lt_of_cell hc
  have hwl := win_len han
  have HX := hid hx
  have HT := hid ht
  have HOK := hid hok
  have HXS := hid hxs
  obtain ⟨win, hwin⟩ : ∃ win, win = winF x a n := ⟨_, rfl⟩
  have HW := hid hwin
  have HWI : Hid (∀ z ∈ win, 0 ≤ z ∧ z ≤ 1114111) := hid (by
    rw [hwin]
    intro z hz
    unfold winF at hz
    exact hxs z (List.mem_of_mem_drop (List.mem_of_mem_take hz)))
  rw [← hwin] at HOK hwl ⊢
  clear hx ht hok hxs hwin
  go_enter Tryz.func52, Tryz.ntmps52
  go_wp2_with fail
  go_loopw [9, 16] (fun vo vi wr => ∃ k : Nat, k ≤ ts.length ∧ vi = .int .i64 k ∧ OwnW 21 wr w.heap.size vo (writesV (ts.take k) win) ∧ Below w.heap.size w wr) (fun _ vi _ => ts.length - (intOf vi).toNat)
  case atStart => exact ⟨0, Nat.zero_le _, rfl, OwnW.nil, Below.refl _ _⟩
  case round =>
    obtain ⟨k, hk, rfl, hO, hB⟩ := hrel
    obtain ⟨wo, hwo⟩ : ∃ wo, wo = wr := ⟨_, rfl⟩
    subst hwo
    have hbs := hB.size
    have hcw := (hB.cell (p := ⟨RB, 6, none⟩) hRB).trans hc
    obtain ⟨L, hL⟩ : ∃ L, L = writesV (ts.take k) win := ⟨_, rfl⟩
    have hLl : L.length ≤ 1000000 := by rw [hL]; unfold writesV; rw [List.length_map, List.length_take]; omega
    rw [← hL] at hO
    have HO := hid hO
    have HB := hid hB
    obtain ⟨Ao, co, rfl, _, _⟩ := list_form (HO.out.rel (S := fun _ => True) (fun g _ => trivial)).1
    by_cases hlt : k < ts.length
    · obtain ⟨t, htk⟩ := at_lt hlt
      have hlt' : (k : Int) < ts.length := by omega
      obtain ⟨b1, o1, y, rfl, hb1, c0, c1, c2, c3, c4, c5, hti, hpr⟩ := term_at ((listR termR).mono (below_cells hB) (fun _ h => h) HT.out) htk
      have hb1l : b1 < wo.heap.size := Nat.lt_of_lt_of_le hb1 hbs
      obtain ⟨o1', o2', o3', o4', o5'⟩ := HOK.out t (List.mem_of_getElem? htk)
      have hprw : (listR partR).rel wo (upto wo.heap.size) [y] t.parts := (listR partR).mono (fun _ _ => rfl) (fun b hb => Nat.lt_of_lt_of_le hb hbs) hpr
      obtain ⟨A3, c3', rfl, _, _⟩ := list_form hpr
      have HSN : Hid (writesV (ts.take (k + 1)) win = L ++ [tvalF t win]) := hid (by rw [List.take_add_one, htk, hL]; simp [writesV])
      have hwr := win_rel (a := a) (m := n) (wordR.mono (w' := wo) (S' := upto wo.heap.size) (below_cells hB) (fun b hb => Nat.lt_of_lt_of_le hb hbs) HX.out) han
      rw [← HW.out] at hwr
      have HV := hid fun W (hW : Below wo.heap.size wo W) => tValue_calls t (.slice A3 t.parts.length c3') _ win W ((listR partR).mono (below_cells hW) (fun b hb => Nat.lt_of_lt_of_le hb hW.size) hprw) (wordR.mono (below_cells hW) (fun b hb => Nat.lt_of_lt_of_le hb hW.size) hwr) HWI.out o2' o1' o3'
      obtain ⟨V, hV⟩ : ∃ V, V = tvalF t win := ⟨_, rfl⟩
      rw [← hV] at HV o4' o5' HSN
      unfold tval at HV
      obtain ⟨tb, td, tk, tu, tS, tp⟩ := t
      dsimp only at HV c0 c1 c2 c3 c4 c5
      have HB0 := hid ((Below.refl wo.heap.size wo).alloc (Nat.le_refl _) (.cells #[.int .i64 tb, .int .i64 td, .int .i64 tk, .int .i64 tu, .int .i64 tS, .slice A3 tp.length c3'] 90))
      clear hV hpr hprw hwr o1' o2' o3' htk hti hO hB hlt hL
      by_cases hda : d = a
      · rw [if_pos hda, show d - a = 0 by omega] at HV
        go_wp2_with fail
        obtain ⟨ι, Wc, ⟨i0, hi0'⟩, hWc, Wsur⟩ := held_class (wo.alloc (.cells #[.int .i64 tb, .int .i64 td, .int .i64 tk, .int .i64 tu, .int .i64 tS, .slice A3 tp.length c3'] 90)).drew (fun q => q = wo.heap.size ∨ q = RB)
        have hne : Nonempty ι := ⟨i0⟩
        have WS := hid Wsur; clear Wsur
        have HWc := hid hWc; clear hWc
        have Hi0 := hid hi0'; clear hi0'
        have q0 : ∀ i, (Wc i).cell? ⟨wo.heap.size, 0, none⟩ = some (.int .i64 tb) := fun i => (World.cell?_of_block (a := ⟨wo.heap.size, 0, none⟩) (HWc.out i _ (.inl rfl))).trans (cell_of_row _ _ 0 _ _ _ (heap_alloc_new wo (.cells #[.int .i64 tb, .int .i64 td, .int .i64 tk, .int .i64 tu, .int .i64 tS, .slice A3 tp.length c3'] 90)))
        have q1 : ∀ i, (Wc i).cell? ⟨wo.heap.size, 1, none⟩ = some (.int .i64 td) := fun i => (World.cell?_of_block (a := ⟨wo.heap.size, 1, none⟩) (HWc.out i _ (.inl rfl))).trans (cell_of_row _ _ 1 _ _ _ (heap_alloc_new wo (.cells #[.int .i64 tb, .int .i64 td, .int .i64 tk, .int .i64 tu, .int .i64 tS, .slice A3 tp.length c3'] 90)))
        have q2 : ∀ i, (Wc i).cell? ⟨wo.heap.size, 2, none⟩ = some (.int .i64 tk) := fun i => (World.cell?_of_block (a := ⟨wo.heap.size, 2, none⟩) (HWc.out i _ (.inl rfl))).trans (cell_of_row _ _ 2 _ _ _ (heap_alloc_new wo (.cells #[.int .i64 tb, .int .i64 td, .int .i64 tk, .int .i64 tu, .int .i64 tS, .slice A3 tp.length c3'] 90)))
        have q3 : ∀ i, (Wc i).cell? ⟨wo.heap.size, 3, none⟩ = some (.int .i64 tu) := fun i => (World.cell?_of_block (a := ⟨wo.heap.size, 3, none⟩) (HWc.out i _ (.inl rfl))).trans (cell_of_row _ _ 3 _ _ _ (heap_alloc_new wo (.cells #[.int .i64 tb, .int .i64 td, .int .i64 tk, .int .i64 tu, .int .i64 tS, .slice A3 tp.length c3'] 90)))
        have q4 : ∀ i, (Wc i).cell? ⟨wo.heap.size, 4, none⟩ = some (.int .i64 tS) := fun i => (World.cell?_of_block (a := ⟨wo.heap.size, 4, none⟩) (HWc.out i _ (.inl rfl))).trans (cell_of_row _ _ 4 _ _ _ (heap_alloc_new wo (.cells #[.int .i64 tb, .int .i64 td, .int .i64 tk, .int .i64 tu, .int .i64 tS, .slice A3 tp.length c3'] 90)))
        have q5 : ∀ i, (Wc i).cell? ⟨wo.heap.size, 5, none⟩ = some (.slice A3 tp.length c3') := fun i => (World.cell?_of_block (a := ⟨wo.heap.size, 5, none⟩) (HWc.out i _ (.inl rfl))).trans (cell_of_row _ _ 5 _ _ _ (heap_alloc_new wo (.cells #[.int .i64 tb, .int .i64 td, .int .i64 tk, .int .i64 tu, .int .i64 tS, .slice A3 tp.length c3'] 90)))
        have q6 : ∀ i, (Wc i).cell? ⟨RB, 6, none⟩ = some (.slice B x.length d) := fun i => (World.cell?_of_block (a := ⟨RB, 6, none⟩) (HWc.out i _ (.inr rfl))).trans ((World.cell?_of_block (a := ⟨RB, 6, none⟩) (Below.heap_alloc _ _ _ (Nat.lt_of_lt_of_le hRB hbs))).trans hcw)
        refine region_anyL (S := fun w' => ∃ i, w' = Wc i) (last := 16) (by kernel_rfl) ?_
        refine anyL_seg 0 10 (by kernel_rfl) (fun _ _ _ _ _ h => h) ⟨i0, Hi0.out.symm⟩ (f := 6) rfl (by kernel_rfl) (by kernel_rfl) ?_
        simp only [List.drop_zero, List.take_succ_cons, List.take_zero]
        repeat go_big_quiet_step (fail)
        refine wpQuiet_nil ?_
        refine anyL_act (i := 10) (by kernel_rfl) rfl rfl ?_
        intro K hK
        go_wp2_with fail
        refine (HV.out _ HB0.out.drew).mono ?_
        rintro e w5 ⟨rfl, hB5⟩
        have HB5 : Below wo.heap.size wo w5 := HB0.out.drew.trans (hB5.mono (by simp))
        have hS5 : ∃ i, w5 = Wc i := WS.out _ (fun q hq => hB5.block q (by rcases hq with rfl | rfl <;> (simp <;> omega)))
        go_wp2_with fail
        refine hK.out _ _ (fun _ => hS5) ?_
        clear hK K
        refine anyL_seg 11 5 (by kernel_rfl) (fun _ _ _ _ _ h => h) hS5 (f := 0) rfl (by kernel_rfl) (by kernel_rfl) ?_
        simp only [List.drop_succ_cons, List.drop_zero, List.take_succ_cons, List.take_zero]
        repeat go_big_quiet_step (fail)
        refine wpQuiet_nil ?_
        refine anyL_done (by kernel_rfl) ?_ 0
        clear q0 q1 q2 q3 q4 q5 q6 hS5 WS HWc Hi0 hne i0 Wc ι HV
        clear HB0 hB5
        go_wp2_with (at_builtin; refine Hid.out ?_)
        refine hid ?_
        have hs5 := HB5.size
        have hO5 : OwnW 21 w5 w.heap.size (.slice Ao L.length co) L := ⟨ownsRow_kept HO.out.1 (fun g hg => HB5.block g (HO.out.1.lt g hg).2), HO.out.2⟩
        have hV32 : I32 V := ⟨by omega, by omega⟩
        show wpList _ _ _ _ _ _
        refine wpList_append_word (by rfl) _ _ 27 (by rfl) w.heap.size 21 inf _ Tryz.underlying27 hi0 hz0 hz1 hz2 rfl _ (.slice (some ⟨w5.heap.size, 0, none⟩) 1 1) L [V] (by rfl) ⟨hO5.1.alloc _, hO5.2⟩ (by rfl) (nword_one _ hV32) (by simp; omega) (by simp; omega) ?_
        intro v' w6 hO6 hB6
        obtain ⟨A9, c9, rfl, _, _⟩ := list_form (hO6.rel (S := fun _ => True) (fun g _ => trivial)).1
        rw [show (L ++ [V]).length = L.length + 1 by simp] at hO6 ⊢
        have HO6 := hid hO6
        have HB6 := hid ((HB.out.trans ((HB5.alloc (by omega) _).mono hbs)).trans hB6)
        clear hO6 hB6 hO5 HB5
        go_wp2_with fail
        refine ⟨⟨k + 1, by omega, by go_num, (by rw [HSN.out]; exact HO6.out), HB6.out⟩, ?_⟩
        simp [intOf]; omega
      · rw [if_neg hda] at HV
        go_wp2_with fail
        obtain ⟨ι, Wc, ⟨i0, hi0'⟩, hWc, Wsur⟩ := held_class (wo.alloc (.cells #[.int .i64 tb, .int .i64 td, .int .i64 tk, .int .i64 tu, .int .i64 tS, .slice A3 tp.length c3'] 90)).drew (fun q => q = wo.heap.size ∨ q = RB)
        have hne : Nonempty ι := ⟨i0⟩
        have WS := hid Wsur; clear Wsur
        have HWc := hid hWc; clear hWc
        have Hi0 := hid hi0'; clear hi0'
        have q0 : ∀ i, (Wc i).cell? ⟨wo.heap.size, 0, none⟩ = some (.int .i64 tb) := fun i => (World.cell?_of_block (a := ⟨wo.heap.size, 0, none⟩) (HWc.out i _ (.inl rfl))).trans (cell_of_row _ _ 0 _ _ _ (heap_alloc_new wo (.cells #[.int .i64 tb, .int .i64 td, .int .i64 tk, .int .i64 tu, .int .i64 tS, .slice A3 tp.length c3'] 90)))
        have q1 : ∀ i, (Wc i).cell? ⟨wo.heap.size, 1, none⟩ = some (.int .i64 td) := fun i => (World.cell?_of_block (a := ⟨wo.heap.size, 1, none⟩) (HWc.out i _ (.inl rfl))).trans (cell_of_row _ _ 1 _ _ _ (heap_alloc_new wo (.cells #[.int .i64 tb, .int .i64 td, .int .i64 tk, .int .i64 tu, .int .i64 tS, .slice A3 tp.length c3'] 90)))
        have q2 : ∀ i, (Wc i).cell? ⟨wo.heap.size, 2, none⟩ = some (.int .i64 tk) := fun i => (World.cell?_of_block (a := ⟨wo.heap.size, 2, none⟩) (HWc.out i _ (.inl rfl))).trans (cell_of_row _ _ 2 _ _ _ (heap_alloc_new wo (.cells #[.int .i64 tb, .int .i64 td, .int .i64 tk, .int .i64 tu, .int .i64 tS, .slice A3 tp.length c3'] 90)))
        have q3 : ∀ i, (Wc i).cell? ⟨wo.heap.size, 3, none⟩ = some (.int .i64 tu) := fun i => (World.cell?_of_block (a := ⟨wo.heap.size, 3, none⟩) (HWc.out i _ (.inl rfl))).trans (cell_of_row _ _ 3 _ _ _ (heap_alloc_new wo (.cells #[.int .i64 tb, .int .i64 td, .int .i64 tk, .int .i64 tu, .int .i64 tS, .slice A3 tp.length c3'] 90)))
        have q4 : ∀ i, (Wc i).cell? ⟨wo.heap.size, 4, none⟩ = some (.int .i64 tS) := fun i => (World.cell?_of_block (a := ⟨wo.heap.size, 4, none⟩) (HWc.out i _ (.inl rfl))).trans (cell_of_row _ _ 4 _ _ _ (heap_alloc_new wo (.cells #[.int .i64 tb, .int .i64 td, .int .i64 tk, .int .i64 tu, .int .i64 tS, .slice A3 tp.length c3'] 90)))
        have q5 : ∀ i, (Wc i).cell? ⟨wo.heap.size, 5, none⟩ = some (.slice A3 tp.length c3') := fun i => (World.cell?_of_block (a := ⟨wo.heap.size, 5, none⟩) (HWc.out i _ (.inl rfl))).trans (cell_of_row _ _ 5 _ _ _ (heap_alloc_new wo (.cells #[.int .i64 tb, .int .i64 td, .int .i64 tk, .int .i64 tu, .int .i64 tS, .slice A3 tp.length c3'] 90)))
        have q6 : ∀ i, (Wc i).cell? ⟨RB, 6, none⟩ = some (.slice B x.length d) := fun i => (World.cell?_of_block (a := ⟨RB, 6, none⟩) (HWc.out i _ (.inr rfl))).trans ((World.cell?_of_block (a := ⟨RB, 6, none⟩) (Below.heap_alloc _ _ _ (Nat.lt_of_lt_of_le hRB hbs))).trans hcw)
        refine region_anyL (S := fun w' => ∃ i, w' = Wc i) (last := 16) (by kernel_rfl) ?_
        refine anyL_seg 0 10 (by kernel_rfl) (fun _ _ _ _ _ h => h) ⟨i0, Hi0.out.symm⟩ (f := 6) rfl (by kernel_rfl) (by kernel_rfl) ?_
        simp only [List.drop_zero, List.take_succ_cons, List.take_zero]
        repeat go_big_quiet_step (fail)
        refine wpQuiet_nil ?_
        refine anyL_act (i := 10) (by kernel_rfl) rfl rfl ?_
        intro K hK
        go_wp2_with fail
        refine (HV.out _ HB0.out.drew).mono ?_
        rintro e w5 ⟨rfl, hB5⟩
        have HB5 : Below wo.heap.size wo w5 := HB0.out.drew.trans (hB5.mono (by simp))
        have hS5 : ∃ i, w5 = Wc i := WS.out _ (fun q hq => hB5.block q (by rcases hq with rfl | rfl <;> (simp <;> omega)))
        go_wp2_with fail
        refine hK.out _ _ (fun _ => hS5) ?_
        clear hK K
        refine anyL_seg 11 5 (by kernel_rfl) (fun _ _ _ _ _ h => h) hS5 (f := 0) rfl (by kernel_rfl) (by kernel_rfl) ?_
        simp only [List.drop_succ_cons, List.drop_zero, List.take_succ_cons, List.take_zero]
        repeat go_big_quiet_step (fail)
        refine wpQuiet_nil ?_
        refine anyL_done (by kernel_rfl) ?_ 0
        clear q0 q1 q2 q3 q4 q5 q6 hS5 WS HWc Hi0 hne i0 Wc ι HV
        clear HB0 hB5
        go_wp2_with (at_builtin; refine Hid.out ?_)
        refine hid ?_
        have hs5 := HB5.size
        have hO5 : OwnW 21 w5 w.heap.size (.slice Ao L.length co) L := ⟨ownsRow_kept HO.out.1 (fun g hg => HB5.block g (HO.out.1.lt g hg).2), HO.out.2⟩
        have hV32 : I32 V := ⟨by omega, by omega⟩
        show wpList _ _ _ _ _ _
        refine wpList_append_word (by rfl) _ _ 27 (by rfl) w.heap.size 21 inf _ Tryz.underlying27 hi0 hz0 hz1 hz2 rfl _ (.slice (some ⟨w5.heap.size, 0, none⟩) 1 1) L [V] (by rfl) ⟨hO5.1.alloc _, hO5.2⟩ (by rfl) (nword_one _ hV32) (by simp; omega) (by simp; omega) ?_
        intro v' w6 hO6 hB6
        obtain ⟨A9, c9, rfl, _, _⟩ := list_form (hO6.rel (S := fun _ => True) (fun g _ => trivial)).1
        rw [show (L ++ [V]).length = L.length + 1 by simp] at hO6 ⊢
        have HO6 := hid hO6
        have HB6 := hid ((HB.out.trans ((HB5.alloc (by omega) _).mono hbs)).trans hB6)
        clear hO6 hB6 hO5 HB5
        go_wp2_with fail
        refine ⟨⟨k + 1, by omega, by go_num, (by rw [HSN.out]; exact HO6.out), HB6.out⟩, ?_⟩
        simp [intOf]; omega
    · obtain rfl : k = ts.length := by omega
      have hF : Hid (OwnW 21 wo w.heap.size (.slice Ao L.length co) (writesV ts win)) := hid (by have := HO.out; rw [hL, List.take_length] at this; rw [hL, List.take_length]; exact this)
      clear hO hL
      go_wp2_with fail
      go_ret
      exact ⟨_, rfl, hF.out, HB.out⟩
end Go.Proofs.YtmkmikacfilbpaaGreat
