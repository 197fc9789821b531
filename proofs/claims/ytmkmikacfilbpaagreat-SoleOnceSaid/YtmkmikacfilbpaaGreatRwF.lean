/-
  Words in their order, each once: word.Sort.
-/
import Derived.Test.YtmkmikacfilbpaaGreatRwE
namespace Go.Um
open Go.RowKit
theorem keep_first {ms : List (List Int)} : ∀ {j : Nat} {x : List Int}, ms[j]? = some x → ∃ i, i ≤ j ∧ keepB ms i = true ∧ ms[i]? = some x
  | 0, x, h => ⟨0, Nat.le_refl _, rfl, h⟩
  | j + 1, x, h => by
    by_cases hk : keepB ms (j + 1) = true
    · exact ⟨j + 1, Nat.le_refl _, hk, h⟩
    · have he : ms[j + 1]? = ms[j]? := by
        unfold keepB at hk
        simpa using hk
      obtain ⟨i, h1, h2, h3⟩ := keep_first (he ▸ h)
      exact ⟨i, by omega, h2, h3⟩
theorem keep_mem {ms : List (List Int)} {n : Nat} (hn : ms.length = n) {x : List Int} : x ∈ (keepL ms n).map (fun i => ms.getD i []) ↔ x ∈ ms := by
  rw [List.mem_map]
  constructor
  · rintro ⟨i, hi, rfl⟩
    have hl := List.mem_range.1 (List.mem_filter.1 hi).1
    rw [List.getD_eq_getElem?_getD, List.getElem?_eq_getElem (by omega)]
    exact List.getElem_mem _
  · intro hx
    obtain ⟨j, hj⟩ := List.mem_iff_getElem?.1 hx
    have hjl := (List.getElem?_eq_some_iff.1 hj).1
    obtain ⟨i, h1, h2, h3⟩ := keep_first hj
    exact ⟨i, List.mem_filter.2 ⟨List.mem_range.2 (by omega), h2⟩, by rw [List.getD_eq_getElem?_getD, h3]; rfl⟩
theorem keep_strict {ms : List (List Int)} {n : Nat} (hn : ms.length = n) (hp : ms.Pairwise fun a b => cmpW a b ≤ 0) : ((keepL ms n).map fun i => ms.getD i []).Pairwise fun a b => cmpW a b < 0 := by
  rw [List.pairwise_map]
  have hr : (keepL ms n).Pairwise (· < ·) := List.pairwise_lt_range.filter _
  rw [List.pairwise_iff_getElem] at hp
  refine List.Pairwise.imp_of_mem ?_ hr
  intro i j hi hj hij
  have hil := List.mem_range.1 (List.mem_filter.1 hi).1
  obtain ⟨hjl, hjk⟩ := List.mem_filter.1 hj
  have hjl := List.mem_range.1 hjl
  rw [List.getD_eq_getElem?_getD, List.getElem?_eq_getElem (by omega), List.getD_eq_getElem?_getD, List.getElem?_eq_getElem (by omega)]
  show cmpW ms[i] ms[j] < 0
  have h1 := hp i j (by omega) (by omega) hij
  rcases Int.lt_or_eq_of_le h1 with h | h
  · exact h
  · exfalso
    have he := cmpW_eq h
    have hne : ms[j - 1]? ≠ ms[j]? := by
      unfold keepB at hjk
      rw [Bool.or_eq_true] at hjk
      rcases hjk with h' | h'
      · have : j = 0 := by simpa using h'
        omega
      · intro e; simp [e] at h'
    apply hne
    rw [List.getElem?_eq_getElem (show j - 1 < ms.length by omega), List.getElem?_eq_getElem (show j < ms.length by omega)]
    congr 1
    rcases Nat.eq_or_lt_of_le (show i ≤ j - 1 by omega) with e | e
    · subst e; exact he
    · have h2 := hp i (j - 1) (by omega) (by omega) e
      have h3 := hp (j - 1) j (by omega) (by omega) (by omega)
      rw [← he] at h3
      have f := cmpW_flip ms[i] ms[j - 1]
      have : cmpW ms[j - 1] ms[i] = 0 := by omega
      rw [cmpW_eq this]; exact he
theorem rel_words {α : Type} {r : RepOf α} (hr : r.width = 1) {w : World} {G n : Nat} {e : TypeId} {f : Nat → Value} {S : Nat → Prop} {xs : List α} (h : w.rowIs G e n f) (hG : S G) (hx : xs.length ≤ n) (hn : n ≤ maxLen) (hel : ∀ i x, xs[i]? = some x → r.rel w S [f i] x) :
    (listR r).rel w S [.slice (some ⟨G, 0, none⟩) xs.length n] xs := by
  refine ⟨_, _, _, rfl, rfl, hx, hn, .inr ⟨G, 0, rfl, hG, fun i x hi => ⟨[f i], hel i x hi, fun j u hu => ?_⟩⟩⟩
  have hil := (List.getElem?_eq_some_iff.1 hi).1
  cases j with
  | succ j => simp at hu
  | zero =>
    simp at hu
    subst hu
    rw [hr, Nat.mul_one, Nat.zero_add, Nat.add_zero]
    exact h.cell (by omega)
end Go.Um
namespace Go.Proofs.YtmkmikacfilbpaaGreat
open Go.RowKit Go.Um Go.Proofs
set_option maxHeartbeats 1000000 in
theorem eqW_calls (a b : List Int) (v u : Value) (w : World) (S T : Nat → Prop) (ha : wordR.rel w S [v] a) (hb : wordR.rel w T [u] b) :
    Calls Tryz.prog 97 #[v, u] w fun e w' => e = .returned (.bool (cmpW a b == 0)) ∧ ∃ n, w' = w.drewN n := by
  have HC := hid (Compare_calls a b v u w S T ha hb)
  obtain ⟨t, ht⟩ : ∃ t, t = cmpW a b := ⟨_, rfl⟩
  rw [← ht] at HC
  rw [← ht]
  clear ht ha hb
  go_enter Tryz.func97, Tryz.ntmps97
  go_wp2_with fail
  refine HC.out.mono ?_
  rintro e w1 ⟨rfl, n, rfl⟩
  go_wp2_with fail
  go_ret
  exact ⟨rfl, _, rfl⟩
def SortPost (ls : List (List Int)) (w : World) (e : Ending) (w' : World) : Prop := ∃ u ls', e = .returned u ∧ (listR nwordR).rel w' (Fresh w.heap.size w') [u] ls' ∧ (∀ x, x ∈ ls' ↔ x ∈ ls) ∧ ls'.Pairwise (fun a b => cmpW a b < 0) ∧ Below w.heap.size w w'
def CloI (ls : List (List Int)) (w : World) (k : Nat) (wr : World) : Prop := ∃ f, wr.rowIs w.heap.size 27 ls.length f ∧ (∀ j m, j < k → ls[j]? = some m → nwordR.rel wr (Fresh (w.heap.size + 1) wr) [f j] m) ∧ Below w.heap.size w wr
theorem compact_sorted {n : Nat} {f : Nat → Value} {ms ls : List (List Int)} {w w4 : World} (hms : ms.length = n) (hn : n ≤ 1000000000) (hR : w4.rowIs w.heap.size 27 n f) (hel : ∀ i m, ms[i]? = some m → nwordR.rel w4 (Fresh (w.heap.size + 1) w4) [f i] m)
    (hmem : ∀ x, x ∈ ms ↔ x ∈ ls) (hp : ms.Pairwise fun a b => cmpW a b ≤ 0) (hB : Below w.heap.size w w4) :
    Calls Tryz.prog 96 #[.slice (some ⟨w.heap.size, 0, none⟩) n n, .func (.func 97) #[] #[]] w4 fun e w' => SortPost ls w e w' := by
  have hget : ∀ i, i < n → ∃ m, ms[i]? = some m := fun i hi => ⟨_, List.getElem?_eq_getElem (by omega)⟩
  refine (Compact_calls w.heap.size n f ms w4 hR (fun i hi => ?_) hn (fun W i j hW hi hj => ?_)).mono ?_
  · obtain ⟨m, hm⟩ := hget i hi
    obtain ⟨A, c, h, _, _⟩ := list_form (hel i m hm).1
    exact ⟨_, _, _, h⟩
  · obtain ⟨a, ha⟩ := hget i hi
    obtain ⟨b, hb⟩ := hget j hj
    have hr : ∀ i m, ms[i]? = some m → wordR.rel W (Fresh (w.heap.size + 1) w4) [f i] m := fun i m hm => wordR.mono (fun p hp => World.cell?_of_block (hW.block _ hp.2 (fun e => by injection e with e; have := hp.1; omega))) (fun _ h => h) (hel i m hm).1
    refine (eqW_calls a b _ _ W _ _ (hr i a ha) (hr j b hb)).mono ?_
    rintro e w' ⟨rfl, q⟩
    refine ⟨?_, q⟩
    rw [ha, hb]
    congr 2
    rw [Bool.eq_iff_iff]
    simp only [beq_iff_eq, Option.some.injEq]
    exact ⟨cmpW_eq, fun h => by rw [h]; exact cmpW_refl _⟩
  · rintro e w' ⟨f', rfl, hR', hk, hg⟩
    have hB' : Below w.heap.size w w' := ⟨hg.os.trans hB.os, hg.tape.trans hB.tape, hg.output.trans hB.output, Nat.le_trans hB.size hg.size, fun q hq => (hg.block q (Nat.lt_of_lt_of_le hq hB.size) (fun e => by injection e with e; omega)).trans (hB.block q hq)⟩
    have hkl := keepL_le ms n
    refine ⟨_, (keepL ms n).map (fun i => ms.getD i []), rfl, ?_, fun x => (keep_mem hms).trans (hmem x), keep_strict hms hp, hB'⟩
    have := rel_words (r := nwordR) rfl (S := Fresh w.heap.size w') (xs := (keepL ms n).map (fun i => ms.getD i [])) hR' ⟨Nat.le_refl _, hR'.lt⟩ (by rw [List.length_map]; exact hkl) (by unfold maxLen; omega) (fun i x hi => by
      rw [List.getElem?_map] at hi
      obtain ⟨q, hq, rfl⟩ := Option.map_eq_some_iff.1 hi
      have hql := keepL_lt hq
      rw [hk i q hq]
      have hm : ms[q]? = some (ms.getD q []) := by rw [List.getD_eq_getElem?_getD, List.getElem?_eq_getElem (by omega)]; rfl
      exact nwordR.mono (fun p hp => World.cell?_of_block (hg.block _ hp.2 (fun e => by injection e with e; have := hp.1; omega))) (fun b hb => ⟨by have := hb.1; omega, Nat.lt_of_lt_of_le hb.2 hg.size⟩) (hel q _ hm))
    rw [List.length_map] at this
    exact this
set_option maxHeartbeats 2000000 in
set_option maxRecDepth 100000 in
theorem Sort_calls (ls : List (List Int)) (v : Value) (w : World) (h : (listR nwordR).rel w (upto w.heap.size) [v] ls) (hl : ls.length ≤ 1000000000) (hw : ∀ l ∈ ls, l.length ≤ 1000000000000) :
    Calls Tryz.prog 55 #[v] w fun e w' => SortPost ls w e w' := by
  obtain ⟨inf, hi0, hz0, hz1, hz2⟩ := info_parts infoW
  obtain ⟨A, c, rfl, hc, hm⟩ := list_form h
  unfold maxLen at hm
  have hmk : ∀ W : World, (Instr.makeSlice 33 (.int .i64 ls.length) (.int .i64 ls.length)).run Tryz.prog W = .ok (.slice (some ⟨W.heap.size, 0, none⟩) ls.length ls.length) (W.alloc (.cells (madeCells #[.slice none 0 0] ls.length) 27)) :=
    run_make_row 33 27 inf _ Tryz.underlying33 hi0 hz0 hz1 rfl .i64 .i64 ls.length (by rw [hz2]; omega) (by omega)
  have HC := hid fun l v W h1 h2 => cloneW_calls l v W h1 h2
  have hR0 := World.rowIs_made w (.slice none 0 0) ls.length 27
  have hB0 : Below w.heap.size w (w.alloc (.cells (madeCells #[.slice none 0 0] ls.length) 27)) := (Below.refl _ w).alloc (Nat.le_refl _) _
  have HI0 : Hid (CloI ls w 0 (w.alloc (.cells (madeCells #[.slice none 0 0] ls.length) 27))) := hid ⟨_, hR0, fun j m hj => by omega, hB0⟩
  clear hR0 hB0
  have HW := hid hw
  clear hw
  go_enter Tryz.func55, Tryz.ntmps55
  go_wp2_with fail
  generalize w.alloc (.cells (madeCells #[.slice none 0 0] ls.length) 27) = w1 at *
  go_loopw [11] (fun vi wr => ∃ k : Nat, k ≤ ls.length ∧ vi = .int .i64 k ∧ CloI ls w k wr) (fun vi _ => ls.length - (intOf vi).toNat)
  case atStart => exact ⟨0, Nat.zero_le _, rfl, HI0.out⟩
  case round =>
    clear hmk
    obtain ⟨k, hk, rfl, hI⟩ := hrel
    obtain ⟨wo, hwo⟩ : ∃ wo, wo = wr := ⟨_, rfl⟩
    subst hwo
    obtain ⟨f, hR, hel, hB⟩ := hI
    by_cases hlt : k < ls.length
    · have hlt' : (k : Int) < ls.length := by omega
      obtain ⟨m, hm'⟩ := at_lt hlt
      obtain ⟨b1, o1, y, rfl, hb1, hy, hcy⟩ := list_at1 rfl h hm'
      replace hcy := (hB.cell (p := ⟨b1, o1 + k, none⟩) hb1).trans hcy
      have hyo : wordR.rel wo (upto wo.heap.size) [y] m := wordR.mono (fun p hp => hB.cell hp) (fun b hb => Nat.lt_of_lt_of_le hb hB.size) hy.1
      obtain ⟨A2, c2, rfl, _, _⟩ := list_form hy.1
      have HCL := hid (HC.out m _ wo hyo (HW.out m (List.mem_of_getElem? hm')))
      have HR := hid hR
      have HE := hid hel
      have HB := hid hB
      have HM := hid hm'
      clear hR hel hB hm' hy hyo hlt
      go_wp2_with fail
      refine HCL.out.mono ?_
      rintro e w2 ⟨u, rfl, hu, hB2⟩
      have hR2 := HR.out.of_block (hB2.block _ HR.out.lt)
      have hck := hR2.cell (show k < ls.length by omega)
      have hfk := hR2.frozen k
      obtain ⟨A9, c9, rfl, _, _⟩ := list_form hu.1
      have hI2 : CloI ls w (k + 1) (w2.setCell ⟨w.heap.size, k, none⟩ (.slice A9 m.length c9)) := by
        have hoth : ∀ g, g ≠ w.heap.size → (w2.setCell ⟨w.heap.size, k, none⟩ (.slice A9 m.length c9)).heap[g]? = w2.heap[g]? := fun g hg => heap_setCell_other _ _ _ _ (by simpa using hg)
        have hsz := HR.out.lt
        refine ⟨_, hR2.set k _, fun j m' hj hm' => ?_, (HB.out.trans (hB2.mono HB.out.size)).setCell (p := ⟨w.heap.size, k, none⟩) (Nat.le_refl _) _⟩
        show nwordR.rel _ _ [if j = k then _ else f j] m'
        by_cases e : j = k
        · subst e
          rw [HM.out] at hm'
          injection hm' with hm'
          subst hm'
          rw [if_pos rfl]
          exact nwordR.mono (fun p hp => World.cell?_of_block (hoth _ (by have := hp.1; omega))) (fun b hb => ⟨by have := hb.1; omega, by simpa using hb.2⟩) hu
        · rw [if_neg e]
          exact nwordR.mono (fun p hp => World.cell?_of_block ((hoth _ (by have := hp.1; omega)).trans (hB2.block _ hp.2))) (fun b hb => ⟨hb.1, by have := hb.2; have := hB2.size; simp; omega⟩) (HE.out j m' (by omega) hm')
      have HI2 := hid hI2
      clear hI2 hu hB2
      go_wp2_with fail
      refine ⟨⟨k + 1, by omega, by go_num, HI2.out⟩, ?_⟩
      simp [intOf]; omega
    · obtain rfl : k = ls.length := by omega
      have HS := hid (sortW_calls w.heap.size ls.length f ls wo hR rfl hl (fun i m hi => hel i m (List.getElem?_eq_some_iff.1 hi).1 hi))
      have HB := hid hB
      clear hlt hR hel hB
      go_wp2_with fail
      refine HS.out.mono ?_
      rintro e w4 ⟨rfl, f', ms, hp, hs, hR', hel', hg⟩
      have hB4 : Below w.heap.size w w4 := ⟨hg.os.trans HB.out.os, hg.tape.trans HB.out.tape, hg.output.trans HB.out.output, Nat.le_trans HB.out.size hg.size, fun q hq => (hg.block q (Nat.lt_of_lt_of_le hq HB.out.size) (fun e => by injection e with e; omega)).trans (HB.out.block q hq)⟩
      have HCo := hid (compact_sorted (ls := ls) (w := w) (hp.length_eq) hl hR' hel' (fun x => hp.mem_iff) hs hB4)
      clear hp hs hR' hel' hg hB4
      go_wp2_with fail
      refine HCo.out.mono ?_
      rintro e w5 ⟨u, ls', rfl, h1, h2, h3, h4⟩
      obtain ⟨A9, c9, rfl, _, _⟩ := list_form h1
      go_wp2_with fail
      go_ret
      exact ⟨_, ls', rfl, h1, h2, h3, h4⟩
end Go.Proofs.YtmkmikacfilbpaaGreat
