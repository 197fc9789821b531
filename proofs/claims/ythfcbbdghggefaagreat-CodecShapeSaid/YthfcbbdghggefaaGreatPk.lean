/-
  Words of which each stands once: slices.CompactFunc. Words sorted by the library: slices.SortFunc with word.Compare. Words in their order, each once: word.Sort. A runner's states in order: run.sort. slices.Backward over a row of ints: its contract, and a range over it, for any body that keeps the row. Marks of ranges over a function among an activation's deferred calls: so many, taken one by one; slices.Backward. Which places of an input come: a fold over all places, and that it says what it should. Plain Lean.
-/
import Derived.Test.YthfcbbdghggefaaGreatPj
import Derived.Test.YthfcbbdghggefaaGreatShelf
import Derived.Test.YthfcbbdghggefaaGreatPf
import Derived.Test.YthfcbbdghggefaaGreatPi
import Derived.Deep.OwnRows
import Derived.Lib.LazyBuf
import Derived.Lib.SliceRun
import Derived.Shelf.SlSortCmp.Whole1
namespace Go.Um
open Go.RowKit
def keepB (ms : List (List Int)) (j : Nat) : Bool := j == 0 || ms[j]? != ms[j - 1]?
def keepL (ms : List (List Int)) (k : Nat) : List Nat := (List.range k).filter (keepB ms)
theorem keepL_succ (ms : List (List Int)) (k : Nat) : keepL ms (k + 1) = keepL ms k ++ if keepB ms k = true then [k] else [] := by
  unfold keepL
  rw [List.range_succ, List.filter_append]
  simp [List.filter_cons]
theorem keepL_all {ms : List (List Int)} {k : Nat} (h : ∀ j, j < k → keepB ms j = true) : keepL ms k = List.range k := by
  unfold keepL
  rw [List.filter_eq_self]
  exact fun j hj => h j (List.mem_range.1 hj)
theorem keepL_le (ms : List (List Int)) (k : Nat) : (keepL ms k).length ≤ k := by
  have := List.length_filter_le (keepB ms) (List.range k)
  simpa [keepL] using this
theorem keepL_lt {ms : List (List Int)} {k j i : Nat} (h : (keepL ms k)[j]? = some i) : i < k := by
  have := List.mem_of_getElem? h
  exact List.mem_range.1 (List.mem_filter.1 this).1
theorem grown_trans {w w1 w2 : World} {row : Option Nat} (h : w.grownBy w1 row) (h2 : w1.grownBy w2 row) : w.grownBy w2 row :=
  ⟨h2.os.trans h.os, h2.tape.trans h.tape, h2.output.trans h.output, Nat.le_trans h.size h2.size, fun k hk hne => (h2.block k (Nat.lt_of_lt_of_le hk h.size) hne).trans (h.block k hk hne)⟩
theorem grown_drewN (w : World) (q : Nat) (row : Option Nat) : w.grownBy (w.drewN q) row := ⟨rfl, rfl, rfl, Nat.le_refl _, fun _ _ _ => rfl⟩
theorem grown_set (w : World) (G j : Nat) (u : Value) : w.grownBy (w.setCell ⟨G, j, none⟩ u) (some G) :=
  ⟨rfl, rfl, rfl, by simp, fun k _ hk => heap_setCell_other w ⟨G, j, none⟩ k u (fun e => hk (by rw [e]))⟩
theorem grown_sets (G : Nat) : ∀ (vs : List Value) (o : Nat) (w : World), w.grownBy (w.setCells G o vs) (some G)
  | [], _, w => grown_drewN w 0 _
  | v :: vs, o, w => grown_trans (grown_set w G o v) (grown_sets G vs (o + 1) _)
end Go.Um
namespace Go.Proofs.YthfcbbdghggefaaGreat
open Go.RowKit Go.Um Go.Proofs
theorem beq_words {a b : Option (List Int)} : (a != b) = !(a == b) := rfl
def CompPost (G n : Nat) (f : Nat → Value) (ms : List (List Int)) (w : World) (e : Ending) (w' : World) : Prop := ∃ f', e = .returned (.slice (some ⟨G, 0, none⟩) (keepL ms n).length n) ∧ w'.rowIs G 37 n f' ∧ (∀ j i, (keepL ms n)[j]? = some i → f' j = f i) ∧ w.grownBy w' (some G)
def CompI (G n : Nat) (f : Nat → Value) (ms : List (List Int)) (w : World) (m kk : Nat) (wr : World) : Prop := kk = (keepL ms m).length ∧ kk < m ∧ ∃ f', wr.rowIs G 37 n f' ∧ (∀ j i, (keepL ms m)[j]? = some i → f' j = f i) ∧ (∀ j, kk ≤ j → f' j = f j) ∧ w.grownBy wr (some G)
theorem CompI.skip {G n : Nat} {f : Nat → Value} {ms : List (List Int)} {w : World} {m kk : Nat} {wr : World} (h : CompI G n f ms w m kk wr) (hb : keepB ms m = false) (q : Nat) : CompI G n f ms w (m + 1) kk (wr.drewN q) := by
  obtain ⟨h1, h2, f', h3, h4, h5, h6⟩ := h
  have e : keepL ms (m + 1) = keepL ms m := by rw [keepL_succ, if_neg (by rw [hb]; simp), List.append_nil]
  exact ⟨by rw [e]; exact h1, by omega, f', h3, by rw [e]; exact h4, h5, grown_trans h6 (grown_drewN _ _ _)⟩
theorem CompI.keep {G n : Nat} {f : Nat → Value} {ms : List (List Int)} {w : World} {m kk : Nat} {wr : World} (h : CompI G n f ms w m kk wr) (hb : keepB ms m = true) (q : Nat) : CompI G n f ms w (m + 1) (kk + 1) ((wr.drewN q).setCell ⟨G, kk, none⟩ (f m)) := by
  obtain ⟨h1, h2, f', h3, h4, h5, h6⟩ := h
  have e : keepL ms (m + 1) = keepL ms m ++ [m] := by rw [keepL_succ, if_pos hb]
  have h3' : (wr.drewN q).rowIs G 37 n f' := h3
  refine ⟨by rw [e, List.length_append, h1]; rfl, by omega, _, h3'.set kk (f m), fun j i hj => ?_, fun j hj => ?_, grown_trans (grown_trans h6 (grown_drewN _ q _)) (grown_set _ _ _ _)⟩
  · rw [e] at hj
    show (if j = kk then f m else f' j) = f i
    by_cases hjk : j = kk
    · rw [if_pos hjk]
      rw [hjk, h1, List.getElem?_append_right (Nat.le_refl _), Nat.sub_self] at hj
      simp at hj
      rw [hj]
    · rw [if_neg hjk]
      have hjl := (List.getElem?_eq_some_iff.1 hj).1
      rw [List.length_append, List.length_singleton] at hjl
      rw [List.getElem?_append_left (by omega)] at hj
      exact h4 j i hj
  · show (if j = kk then f m else f' j) = f j
    rw [if_neg (by omega)]
    exact h5 j (by omega)
theorem CompI.done {G n : Nat} {f : Nat → Value} {ms : List (List Int)} {w : World} {kk : Nat} {wr : World} (h : CompI G n f ms w n kk wr) {e : Ending} (he : e = .returned (.slice (some ⟨G, 0, none⟩) kk n)) : CompPost G n f ms w e (wr.setCells G kk (List.replicate (n - kk) (.slice none 0 0))) := by
  obtain ⟨h1, h2, f', h3, h4, h5, h6⟩ := h
  refine ⟨_, by rw [he, h1], Go.rowIs_setCells _ kk _ _ h3, fun j i hj => ?_, grown_trans h6 (grown_sets _ _ _ _)⟩
  have hjl := (List.getElem?_eq_some_iff.1 hj).1
  show (if kk ≤ j ∧ _ then _ else f' j) = f i
  rw [if_neg (by omega)]
  exact h4 j i hj
set_option maxHeartbeats 2000000 in
set_option maxRecDepth 100000 in
theorem Compact_calls (G n : Nat) (f : Nat → Value) (ms : List (List Int)) (w : World) (hR : w.rowIs G 37 n f) (hf : ∀ i, i < n → ∃ A m c, f i = .slice A m c) (hn : n ≤ 1000000000)
    (hq : ∀ (W : World) (i j : Nat), w.grownBy W (some G) → i < n → j < n → Calls Tryz.prog 94 #[f i, f j] W fun e w' => e = .returned (.bool (ms[i]? == ms[j]?)) ∧ ∃ q, w' = W.drewN q) :
    Calls Tryz.prog 93 #[.slice (some ⟨G, 0, none⟩) n n, .func (.func 94) #[] #[]] w fun e w' => CompPost G n f ms w e w' := by
  have hall : Hid ((∀ j, j < n → keepB ms j = true) → (keepL ms n).length = n ∧ ∀ j i, (keepL ms n)[j]? = some i → f j = f i) := hid fun h => by
    rw [keepL_all h]
    refine ⟨List.length_range, fun j i hj => ?_⟩
    have hjn := (List.getElem?_eq_some_iff.1 hj).1
    rw [List.getElem?_range (by simpa using hjn)] at hj
    injection hj with hj
    rw [hj]
  have HR := hid hR
  by_cases h2 : n < 2
  · have h2' : (n : Int) < 2 := by omega
    have hk := hid (hall.out fun j hj => by
      have : j = 0 := by omega
      subst this
      rfl)
    clear hf hq hall hR
    go_enter Tryz.func93, Tryz.ntmps93
    go_wp2_with fail
    go_ret
    exact ⟨f, by rw [hk.out.1]; rfl, HR.out, hk.out.2, grown_drewN w 0 _⟩
  · have h2' : ¬ (n : Int) < 2 := by omega
    have HF := hid hf
    have HQ0 := hid hq
    clear hf hq hR
    go_enter Tryz.func93, Tryz.ntmps93
    go_wp2_with fail
    go_loopw [5] (fun vi wr => ∃ k q : Nat, k + 1 ≤ n ∧ vi = .int .i64 ((k : Int) + 1) ∧ (∀ j, j < k + 1 → keepB ms j = true) ∧ wr = w.drewN q) (fun vi _ => n - (intOf vi).toNat)
    case atStart => exact ⟨0, 0, by omega, rfl, fun j hj => by (have : j = 0 := by omega); subst this; rfl, rfl⟩
    case round =>
      obtain ⟨k, q, hk, rfl, hkp, rfl⟩ := hrel
      have HK := hid hkp
      clear hkp
      by_cases hlt : k + 1 < n
      · have hlt' : (k : Int) + 1 < n := by omega
        have c1 := HR.out.cell hlt
        have c0 := HR.out.cell (show k < n by omega)
        obtain ⟨t, ht⟩ : ∃ t, t = (ms[k + 1]? == ms[k]?) := ⟨_, rfl⟩
        have HQ : Hid (∀ W : World, w.grownBy W (some G) → Calls Tryz.prog 94 #[f (k + 1), f k] W fun e w' => e = .returned (.bool t) ∧ ∃ q, w' = W.drewN q) := hid fun W hW => by
          have := HQ0.out W (k + 1) k hW hlt (by omega)
          rwa [← ht] at this
        have HB : Hid (keepB ms (k + 1) = !t) := hid (by rw [ht]; unfold keepB; simp [beq_words])
        obtain ⟨A1, m1, d1, hf1⟩ := HF.out _ hlt
        obtain ⟨A0, m0, d0, hf0⟩ := HF.out k (by omega)
        rw [hf1] at c1 HQ
        rw [hf0] at c0 HQ
        clear ht hf1 hf0
        go_wp2_with fail
        obtain ⟨ι, Wc, ⟨i0, hi0'⟩, hWc, Wsur⟩ := held_class (w.drewN q).drew (fun q => q = G)
        have hne : Nonempty ι := ⟨i0⟩
        have WS := hid Wsur; clear Wsur
        have HWc := hid hWc; clear hWc
        have Hi0 := hid hi0'; clear hi0'
        have q1 : ∀ i, (Wc i).cell? ⟨G, k + 1, none⟩ = some (.slice A1 m1 d1) := fun i => (World.cell?_of_block (a := ⟨G, k + 1, none⟩) (HWc.out i G rfl)).trans c1
        have q2 : ∀ i, (Wc i).cell? ⟨G, k, none⟩ = some (.slice A0 m0 d0) := fun i => (World.cell?_of_block (a := ⟨G, k, none⟩) (HWc.out i G rfl)).trans c0
        refine region_anyL (S := fun w' => ∃ i, w' = Wc i) (last := 12) (by kernel_rfl) ?_
        refine anyL_seg 0 10 (by kernel_rfl) (fun _ _ _ _ _ h => h) ⟨i0, Hi0.out.symm⟩ (f := 1) rfl (by kernel_rfl) (by kernel_rfl) ?_
        simp only [List.drop_zero, List.take_succ_cons, List.take_zero]
        repeat go_big_quiet_step (fail)
        refine wpQuiet_nil ?_
        refine anyL_act (i := 10) (by kernel_rfl) rfl rfl ?_
        intro K hK
        go_wp2_with fail
        refine (HQ.out (w.drewN q).drew (grown_drewN w (q + 1) _)).mono ?_
        rintro e w2 ⟨rfl, q3, rfl⟩
        have hS2 : ∃ i, (w.drewN q).drew.drewN q3 = Wc i := WS.out _ (fun q hq => rfl)
        go_wp2_with fail
        refine hK.out _ _ (fun _ => WS.out _ (fun q hq => rfl)) ?_
        clear hK K
        refine anyL_done (by kernel_rfl) ?_ 0
        clear q1 q2 hS2 WS HWc Hi0 hne i0 Wc ι
        cases t with
        | false =>
          go_wp2_with fail
          refine ⟨⟨k + 1, _, by omega, by go_num, fun j hj => ?_, rfl⟩, ?_⟩
          · by_cases e : j = k + 1
            · subst e
              rw [HB.out]; rfl
            · exact HK.out j (by omega)
          · simp [intOf]; omega
        | true =>
          have HI0 : Hid (CompI G n f ms w (k + 1 + 0 + 1) (k + 1) (w.drewN (q + 1 + q3))) := hid (by
            have e : keepL ms (k + 1 + 0 + 1) = List.range (k + 1) := by
              rw [Nat.add_zero, keepL_succ, HB.out, keepL_all HK.out]
              simp
            refine ⟨by rw [e, List.length_range], by omega, f, HR.out, fun j i hj => ?_, fun _ _ => rfl, grown_drewN _ _ _⟩
            rw [e] at hj
            have hjn := (List.getElem?_eq_some_iff.1 hj).1
            rw [List.getElem?_range (by simpa using hjn)] at hj
            injection hj with hj
            rw [hj])
          clear HQ c1 c0
          go_wp2_with fail
          go_loopw [5, 7] (fun v5 v7 wr => ∃ kk p : Nat, v5 = .int .i64 kk ∧ v7 = .int .i64 ((p : Int) + 1) ∧ k + 1 + p + 1 ≤ n ∧ CompI G n f ms w (k + 1 + p + 1) kk wr) (fun _ v7 _ => n - (intOf v7).toNat)
          case atStart => exact ⟨k + 1, 0, by go_num, rfl, by omega, HI0.out⟩
          case round =>
            obtain ⟨kk, p, rfl, rfl, hp, hI⟩ := hrel
            obtain ⟨wo, hwo⟩ : ∃ wo, wo = wr := ⟨_, rfl⟩
            subst hwo
            have HI := hid hI
            obtain ⟨hkk, hkm, f', hR', hk', hh', hg⟩ := hI
            have hck := hR'.cell (show kk < n by omega)
            have hfk := hR'.frozen kk
            by_cases hlt2 : k + 1 + p + 1 < n
            · have hlt2' : (p : Int) + 1 < ((n - (k + 1) : Nat) : Int) := by omega
              have c1 := hR'.cell hlt2
              have c0 := hR'.cell (show k + 1 + p < n by omega)
              rw [hh' _ (by omega)] at c1 c0
              rw [Nat.add_assoc (k + 1) p 1] at c1
              obtain ⟨t2, ht⟩ : ∃ t, t = (ms[k + 1 + p + 1]? == ms[k + 1 + p]?) := ⟨_, rfl⟩
              have HQ : Hid (∀ W : World, w.grownBy W (some G) → Calls Tryz.prog 94 #[f (k + 1 + p + 1), f (k + 1 + p)] W fun e w' => e = .returned (.bool t2) ∧ ∃ q, w' = W.drewN q) := hid fun W hW => by
                have := HQ0.out W (k + 1 + p + 1) (k + 1 + p) hW hlt2 (by omega)
                rwa [← ht] at this
              have HB2 : Hid (keepB ms (k + 1 + p + 1) = !t2) := hid (by rw [ht]; unfold keepB; simp [beq_words])
              obtain ⟨A1, m1, d1, hf1⟩ := HF.out _ hlt2
              obtain ⟨A0, m0, d0, hf0⟩ := HF.out (k + 1 + p) (by omega)
              have HK2 : Hid (keepB ms (k + 1 + p + 1) = true → ∀ q, CompI G n f ms w (k + 1 + p + 1 + 1) (kk + 1) ((wo.drewN q).setCell ⟨G, kk, none⟩ (.slice A1 m1 d1))) := hid fun hb q => by
                have := HI.out.keep hb q
                rwa [hf1] at this
              have hf1' : f (k + 1 + (p + 1)) = .slice A1 m1 d1 := hf1
              rw [hf1'] at c1
              rw [hf1] at HQ
              rw [hf0] at c0 HQ
              have HGo := hid hg
              have hkn : kk < n := by omega
              clear ht hf1 hf0 hf1' hk' hh' hR' hg hkk
              go_wp2_with fail
              obtain ⟨ι, Wc, ⟨i0, hi0'⟩, hWc, Wsur⟩ := held_class wo.drew (fun q => q = G)
              have hne : Nonempty ι := ⟨i0⟩
              have WS := hid Wsur; clear Wsur
              have HWc := hid hWc; clear hWc
              have Hi0 := hid hi0'; clear hi0'
              have q1 : ∀ i, (Wc i).cell? ⟨G, k + 1 + (p + 1), none⟩ = some (.slice A1 m1 d1) := fun i => (World.cell?_of_block (a := ⟨G, k + 1 + (p + 1), none⟩) (HWc.out i G rfl)).trans c1
              have q2 : ∀ i, (Wc i).cell? ⟨G, k + 1 + p, none⟩ = some (.slice A0 m0 d0) := fun i => (World.cell?_of_block (a := ⟨G, k + 1 + p, none⟩) (HWc.out i G rfl)).trans c0
              refine region_anyL (S := fun w' => ∃ i, w' = Wc i) (last := 12) (by kernel_rfl) ?_
              refine anyL_seg 0 10 (by kernel_rfl) (fun _ _ _ _ _ h => h) ⟨i0, Hi0.out.symm⟩ (f := 2) rfl (by kernel_rfl) (by kernel_rfl) ?_
              simp only [List.drop_zero, List.take_succ_cons, List.take_zero]
              repeat go_big_quiet_step (fail)
              refine wpQuiet_nil ?_
              refine anyL_act (i := 10) (by kernel_rfl) rfl rfl ?_
              intro K hK
              go_wp2_with fail
              refine (HQ.out wo.drew (grown_trans HGo.out (grown_drewN wo 1 _))).mono ?_
              rintro e w2 ⟨rfl, q3, rfl⟩
              have hS2 : ∃ i, wo.drew.drewN q3 = Wc i := WS.out _ (fun q hq => rfl)
              go_wp2_with fail
              refine hK.out _ _ (fun _ => WS.out _ (fun q hq => rfl)) ?_
              clear hK K
              refine anyL_seg 11 1 (by kernel_rfl) (fun _ _ _ _ _ h => h) (WS.out (wo.drewN (1 + q3)) (fun q hq => rfl)) (f := 0) rfl (by kernel_rfl) (by kernel_rfl) ?_
              simp only [List.drop_succ_cons, List.drop_zero, List.take_succ_cons, List.take_zero]
              repeat go_big_quiet_step (fail)
              refine wpQuiet_nil ?_
              refine anyL_done (by kernel_rfl) ?_ 0
              clear q1 q2 hS2 WS HWc Hi0 hne i0 Wc ι
              cases t2 with
              | true =>
                go_wp2_with fail
                refine ⟨⟨kk, p + 1, rfl, by go_num, by omega, HI.out.skip HB2.out _⟩, ?_⟩
                simp [intOf]; omega
              | false =>
                go_wp2_with fail
                refine ⟨⟨kk + 1, p + 1, by go_num, by go_num, by omega, HK2.out HB2.out _⟩, ?_⟩
                simp [intOf]; omega
            · obtain rfl : n = k + 1 + p + 1 := by omega
              have hcl : ∀ ty, (Builtin.clear_ #[34] ty #[.slice (some ⟨G, kk, none⟩) (k + 1 + p + 1 - kk) (k + 1 + p + 1 - kk)]).run Tryz.prog wo = .ok (.tuple #[]) (wo.setCells G kk (List.replicate (k + 1 + p + 1 - kk) (.slice none 0 0))) := fun ty =>
                Lib.run_clear_slice wo _ 37 ty _ Tryz.underlying34 (fun W => by kernel_rfl) rfl rfl G kk _ _ (by omega) (fun j hj => by rw [hR'.cell (by omega)]; rfl) (fun j _ => hR'.frozen _)
              clear hk' hh' hR' hg hkk
              go_wp2_with fail
              go_ret
              exact HI.out.done rfl
      · obtain rfl : n = k + 1 := by omega
        have hk2 := hid (hall.out fun j hj => HK.out j (by omega))
        clear hlt
        go_wp2_with fail
        go_ret
        exact ⟨f, by rw [hk2.out.1]; rfl, HR.out, hk2.out.2, grown_drewN w _ _⟩
end Go.Proofs.YthfcbbdghggefaaGreat
namespace Go.Um
open Go.RowKit Go.Sort Go.Proofs
theorem cmpW_le_trans {a b c : List Int} (h1 : cmpW a b ≤ 0) (h2 : cmpW b c ≤ 0) : cmpW a c ≤ 0 := by
  rcases Int.lt_or_eq_of_le h1 with h | h
  · rcases Int.lt_or_eq_of_le h2 with h' | h'
    · exact Int.le_of_lt (cmpW_trans h h')
    · rw [← cmpW_eq h']; exact h1
  · rw [cmpW_eq h]; exact h2
theorem row_sort {α : Type} [Inhabited α] {enc : α → Value} {w : World} {g n m : Nat} {e : TypeId} {f : Nat → Value} {os : Array Obj} (d : Array α) (hd : d.size = m) (h : w.rowIs g e m f) : (sortWorld enc w g 0 n d os).rowIs g e m fun i => enc d[i]! := by
  obtain ⟨c, hb, hc, _⟩ := h
  have hg : g < w.heap.size := (Array.getElem?_eq_some_iff.1 hb).1
  refine ⟨putCells enc 0 d c, ?_, by simp [putCells, hc], fun i hi => ?_⟩
  · unfold sortWorld
    rw [heap_grow_old _ _ (by simpa using hg)]
    simp [putRow, mapBlock, Sort.ahead, Array.getElem?_modify, hb, onCells]
  · simp [putCells, hc, hd, hi]
theorem grown_sort {α : Type} [Inhabited α] {enc : α → Value} {w : World} {g n : Nat} {os : Array Obj} (d : Array α) : w.grownBy (sortWorld enc w g 0 n d os) (some g) := by
  refine ⟨rfl, rfl, rfl, by simp [sortWorld], fun k hk hne => ?_⟩
  unfold sortWorld
  rw [heap_grow_old _ _ (by simpa using hk)]
  have : g ≠ k := fun e => hne (by rw [e])
  simp [putRow, mapBlock, Sort.ahead, Array.getElem?_modify, this]
theorem perm_in {α : Type} [Inhabited α] {d d' : Array α} (h : PermIn 0 d.size d d') : d'.toList.Perm d.toList := by
  obtain ⟨h1, _, h3⟩ := h
  have e1 : d'.extract 0 d.size = d' := by rw [← h1]; simp
  have e2 : d.extract 0 d.size = d := by simp
  rwa [e1, e2] at h3
/-- a word with the value that holds it. -/
def WT (w : World) (G : Nat) : Type := { p : Value × List Int // nwordR.rel w (Fresh (G + 1) w) [p.1] p.2 }
theorem nword_nil (w : World) (S : Nat → Prop) : nwordR.rel w S [.slice none 0 0] [] := ⟨list_nil _ _ _, fun n c h => by injection h with h; injection h with _ _ h; exact h.symm⟩
instance {w : World} {G : Nat} : Inhabited (WT w G) := ⟨⟨(.slice none 0 0, []), nword_nil _ _⟩⟩
def encT {w : World} {G : Nat} (p : WT w G) : Value := p.1.1
def wordT {w : World} {G : Nat} (p : WT w G) : List Int := p.1.2
def cfT {w : World} {G : Nat} (p q : WT w G) : Int := cmpW (wordT p) (wordT q)
theorem encT_one {w : World} {G : Nat} (p : WT w G) : (encT p).oneCell' = true := by
  obtain ⟨A, c, h, _, _⟩ := list_form p.2.1
  unfold encT
  rw [h]
  rfl
theorem cfT_swo {w : World} {G : Nat} : SWO (ltOf (cfT (w := w) (G := G))) where
  irrefl x := by unfold ltOf cfT; rw [cmpW_refl]; rfl
  trans x y z h1 h2 := by
    unfold ltOf cfT at *
    rw [decide_eq_true_eq] at *
    exact cmpW_trans h1 h2
  ntrans x y z h1 h2 := by
    unfold ltOf cfT at *
    rw [decide_eq_false_iff_not] at *
    have f1 := cmpW_flip (wordT x) (wordT y)
    have f2 := cmpW_flip (wordT y) (wordT z)
    have f3 := cmpW_flip (wordT x) (wordT z)
    have := cmpW_le_trans (a := wordT z) (b := wordT y) (c := wordT x) (by omega) (by omega)
    omega
end Go.Um
namespace Go.Proofs.YthfcbbdghggefaaGreat
open Go.RowKit Go.Um Go.Proofs Go.Sort
theorem sortW_calls (G n : Nat) (f : Nat → Value) (ms : List (List Int)) (w : World) (hR : w.rowIs G 37 n f) (hm : ms.length = n) (hn : n ≤ 1000000000) (hel : ∀ i m, ms[i]? = some m → nwordR.rel w (Fresh (G + 1) w) [f i] m) :
    Calls Tryz.prog 91 #[.slice (some ⟨G, 0, none⟩) n n, .func (.func 92) #[] #[]] w fun e w' => e = .returned (.tuple #[]) ∧ ∃ (f' : Nat → Value) (ms' : List (List Int)), ms'.Perm ms ∧ ms'.Pairwise (fun a b => cmpW a b ≤ 0) ∧ w'.rowIs G 37 n f' ∧
      (∀ i m, ms'[i]? = some m → nwordR.rel w' (Fresh (G + 1) w') [f' i] m) ∧ w.grownBy w' (some G) := by
  have eg : ∀ args w, (callFunc 92 args).run Tryz.prog w = .ok (.enter 92 args) w := enters_of Tryz.func92 (by kernel_rfl) rfl
  have hG := hR.lt
  have hmk : ∀ i, ∃ t : WT w G, i < n → t.1 = (f i, ms.getD i []) := fun i => by
    by_cases hi : i < n
    · exact ⟨⟨(f i, ms.getD i []), hel i (ms.getD i []) (by rw [List.getD_eq_getElem?_getD, List.getElem?_eq_getElem (by omega)]; rfl)⟩, fun _ => rfl⟩
    · exact ⟨default, fun h => absurd h hi⟩
  obtain ⟨d, hd⟩ : ∃ d : Array (WT w G), d = ((List.range n).map fun i => (hmk i).choose).toArray := ⟨_, rfl⟩
  have hds : d.size = n := by rw [hd]; simp
  have hdi : ∀ i, i < n → (d[i]!).1 = (f i, ms.getD i []) := fun i hi => by
    have e : d[i]! = (hmk i).choose := by
      rw [getElem!_pos d i (by omega)]
      simp [hd]
    rw [e]
    exact (hmk i).choose_spec hi
  have hmap : d.toList.map wordT = ms := by
    apply List.ext_getElem?
    intro i
    by_cases hi : i < n
    · rw [List.getElem?_map, Array.getElem?_toList, Array.getElem?_eq_getElem (by omega), List.getElem?_eq_getElem (by omega)]
      have := hdi i hi
      rw [getElem!_pos d i (by omega)] at this
      show some (d[i]).1.2 = _
      rw [this]
      simp [List.getD_eq_getElem?_getD, List.getElem?_eq_getElem (show i < ms.length by omega)]
    · rw [List.getElem?_eq_none (by simp; omega), List.getElem?_eq_none (by omega)]
  have hH : Holds encT w G 0 d := fun j hj => by
    have e : encT d[j]! = f j := by unfold encT; rw [hdi j (by omega)]
    rw [Nat.zero_add, e]
    exact ⟨hR.cell (by omega), hR.frozen _⟩
  have hcmp : CmpLays1 Tryz.prog 92 #[] encT cfT G 0 d.size w := fun m os dk hs x y => by
    have hg := grown_sort (enc := encT) (w := w) (g := G) (n := m) (os := os) dk
    have hr : ∀ z : WT w G, wordR.rel (sortWorld encT w G 0 m dk os) (Fresh (G + 1) w) [encT z] (wordT z) := fun z => wordR.mono (fun p hp => World.cell?_of_block (hg.block _ hp.2 (fun e => by injection e with e; have := hp.1; omega))) (fun _ h => h) z.2.1
    refine (Compare_calls (wordT x) (wordT y) (encT x) (encT y) _ _ _ (hr x) (hr y)).mono ?_
    rintro e w' ⟨rfl, q, rfl⟩
    exact ⟨rfl, q, #[], by rw [grow_empty]⟩
  have hcon := Any.slices_SortFunc Tryz.sortWords encT encT_one cfT cfT_swo 92 #[] G 0 n d w eg hcmp hH hG (by omega)
  rw [hds] at hcon
  refine (show Calls Tryz.prog 91 _ _ _ from hcon).mono ?_
  rintro e w' ⟨rfl, d', q, os, hp, hs, rfl⟩
  rw [← hds] at hp
  have hd's : d'.size = n := hp.1.trans hds
  have hg := grown_sort (enc := encT) (w := w) (g := G) (n := q) (os := os) d'
  refine ⟨rfl, fun i => encT d'[i]!, d'.toList.map wordT, ?_, ?_, row_sort d' hd's hR, fun i m hi => ?_, hg⟩
  · rw [← hmap]; exact (perm_in hp).map _
  · rw [List.pairwise_iff_getElem]
    intro i j hi hj hij
    simp only [List.length_map, Array.length_toList] at hi hj
    have h1 := hs i j (Nat.zero_le _) hij (by omega)
    rw [getElem!_pos d' i hi, getElem!_pos d' j hj] at h1
    unfold ltOf cfT at h1
    rw [decide_eq_false_iff_not] at h1
    simp only [List.getElem_map, Array.getElem_toList]
    have := cmpW_flip (wordT d'[i]) (wordT d'[j])
    omega
  · have hil := (List.getElem?_eq_some_iff.1 hi).1
    simp only [List.length_map, Array.length_toList] at hil
    rw [List.getElem?_map, Array.getElem?_toList, Array.getElem?_eq_getElem hil] at hi
    injection hi with hi
    subst hi
    show nwordR.rel _ _ [encT d'[i]!] _
    rw [getElem!_pos d' i hil]
    exact nwordR.mono (fun p hp => World.cell?_of_block (hg.block _ hp.2 (fun e => by injection e with e; have := hp.1; omega))) (fun b hb => ⟨hb.1, Nat.lt_of_lt_of_le hb.2 hg.size⟩) d'[i].2
end Go.Proofs.YthfcbbdghggefaaGreat
namespace Go.Um
open Go.RowKit
theorem keep_first {ms : List (List Int)} : ∀ {j : Nat} {x : List Int}, ms[j]? = some x → ∃ i, i ≤ j ∧ keepB ms i = true ∧ ms[i]? = some x
  | 0, x, h => ⟨0, Nat.le_refl _, rfl, h⟩
  | j + 1, x, h => by
    by_cases hk : keepB ms (j + 1) = true
    · exact ⟨j + 1, Nat.le_refl _, hk, h⟩
    · have he : ms[j + 1]? = ms[j]? := by
        unfold keepB at hk
        simpa using hk
      obtain ⟨i, h1, h2, h3⟩ := keep_first (he ▸ h)
      exact ⟨i, by omega, h2, h3⟩
theorem keep_mem {ms : List (List Int)} {n : Nat} (hn : ms.length = n) {x : List Int} : x ∈ (keepL ms n).map (fun i => ms.getD i []) ↔ x ∈ ms := by
  rw [List.mem_map]
  constructor
  · rintro ⟨i, hi, rfl⟩
    have hl := List.mem_range.1 (List.mem_filter.1 hi).1
    rw [List.getD_eq_getElem?_getD, List.getElem?_eq_getElem (by omega)]
    exact List.getElem_mem _
  · intro hx
    obtain ⟨j, hj⟩ := List.mem_iff_getElem?.1 hx
    have hjl := (List.getElem?_eq_some_iff.1 hj).1
    obtain ⟨i, h1, h2, h3⟩ := keep_first hj
    exact ⟨i, List.mem_filter.2 ⟨List.mem_range.2 (by omega), h2⟩, by rw [List.getD_eq_getElem?_getD, h3]; rfl⟩
theorem keep_strict {ms : List (List Int)} {n : Nat} (hn : ms.length = n) (hp : ms.Pairwise fun a b => cmpW a b ≤ 0) : ((keepL ms n).map fun i => ms.getD i []).Pairwise fun a b => cmpW a b < 0 := by
  rw [List.pairwise_map]
  have hr : (keepL ms n).Pairwise (· < ·) := List.pairwise_lt_range.filter _
  rw [List.pairwise_iff_getElem] at hp
  refine List.Pairwise.imp_of_mem ?_ hr
  intro i j hi hj hij
  have hil := List.mem_range.1 (List.mem_filter.1 hi).1
  obtain ⟨hjl, hjk⟩ := List.mem_filter.1 hj
  have hjl := List.mem_range.1 hjl
  rw [List.getD_eq_getElem?_getD, List.getElem?_eq_getElem (by omega), List.getD_eq_getElem?_getD, List.getElem?_eq_getElem (by omega)]
  show cmpW ms[i] ms[j] < 0
  have h1 := hp i j (by omega) (by omega) hij
  rcases Int.lt_or_eq_of_le h1 with h | h
  · exact h
  · exfalso
    have he := cmpW_eq h
    have hne : ms[j - 1]? ≠ ms[j]? := by
      unfold keepB at hjk
      rw [Bool.or_eq_true] at hjk
      rcases hjk with h' | h'
      · have : j = 0 := by simpa using h'
        omega
      · intro e; simp [e] at h'
    apply hne
    rw [List.getElem?_eq_getElem (show j - 1 < ms.length by omega), List.getElem?_eq_getElem (show j < ms.length by omega)]
    congr 1
    rcases Nat.eq_or_lt_of_le (show i ≤ j - 1 by omega) with e | e
    · subst e; exact he
    · have h2 := hp i (j - 1) (by omega) (by omega) e
      have h3 := hp (j - 1) j (by omega) (by omega) (by omega)
      rw [← he] at h3
      have f := cmpW_flip ms[i] ms[j - 1]
      have : cmpW ms[j - 1] ms[i] = 0 := by omega
      rw [cmpW_eq this]; exact he
theorem rel_words {α : Type} {r : RepOf α} (hr : r.width = 1) {w : World} {G n : Nat} {e : TypeId} {f : Nat → Value} {S : Nat → Prop} {xs : List α} (h : w.rowIs G e n f) (hG : S G) (hx : xs.length ≤ n) (hn : n ≤ maxLen) (hel : ∀ i x, xs[i]? = some x → r.rel w S [f i] x) :
    (listR r).rel w S [.slice (some ⟨G, 0, none⟩) xs.length n] xs := by
  refine ⟨_, _, _, rfl, rfl, hx, hn, .inr ⟨G, 0, rfl, hG, fun i x hi => ⟨[f i], hel i x hi, fun j u hu => ?_⟩⟩⟩
  have hil := (List.getElem?_eq_some_iff.1 hi).1
  cases j with
  | succ j => simp at hu
  | zero =>
    simp at hu
    subst hu
    rw [hr, Nat.mul_one, Nat.zero_add, Nat.add_zero]
    exact h.cell (by omega)
end Go.Um
namespace Go.Proofs.YthfcbbdghggefaaGreat
open Go.RowKit Go.Um Go.Proofs
set_option maxHeartbeats 1000000 in
theorem eqW_calls (a b : List Int) (v u : Value) (w : World) (S T : Nat → Prop) (ha : wordR.rel w S [v] a) (hb : wordR.rel w T [u] b) :
    Calls Tryz.prog 94 #[v, u] w fun e w' => e = .returned (.bool (cmpW a b == 0)) ∧ ∃ n, w' = w.drewN n := by
  have HC := hid (Compare_calls a b v u w S T ha hb)
  obtain ⟨t, ht⟩ : ∃ t, t = cmpW a b := ⟨_, rfl⟩
  rw [← ht] at HC
  rw [← ht]
  clear ht ha hb
  go_enter Tryz.func94, Tryz.ntmps94
  go_wp2_with fail
  refine HC.out.mono ?_
  rintro e w1 ⟨rfl, n, rfl⟩
  go_wp2_with fail
  go_ret
  exact ⟨rfl, _, rfl⟩
def SortPost (ls : List (List Int)) (w : World) (e : Ending) (w' : World) : Prop := ∃ u ls', e = .returned u ∧ (listR nwordR).rel w' (Fresh w.heap.size w') [u] ls' ∧ (∀ x, x ∈ ls' ↔ x ∈ ls) ∧ ls'.Pairwise (fun a b => cmpW a b < 0) ∧ Below w.heap.size w w'
def CloI (ls : List (List Int)) (w : World) (k : Nat) (wr : World) : Prop := ∃ f, wr.rowIs w.heap.size 37 ls.length f ∧ (∀ j m, j < k → ls[j]? = some m → nwordR.rel wr (Fresh (w.heap.size + 1) wr) [f j] m) ∧ Below w.heap.size w wr
theorem compact_sorted {n : Nat} {f : Nat → Value} {ms ls : List (List Int)} {w w4 : World} (hms : ms.length = n) (hn : n ≤ 1000000000) (hR : w4.rowIs w.heap.size 37 n f) (hel : ∀ i m, ms[i]? = some m → nwordR.rel w4 (Fresh (w.heap.size + 1) w4) [f i] m)
    (hmem : ∀ x, x ∈ ms ↔ x ∈ ls) (hp : ms.Pairwise fun a b => cmpW a b ≤ 0) (hB : Below w.heap.size w w4) :
    Calls Tryz.prog 93 #[.slice (some ⟨w.heap.size, 0, none⟩) n n, .func (.func 94) #[] #[]] w4 fun e w' => SortPost ls w e w' := by
  have hget : ∀ i, i < n → ∃ m, ms[i]? = some m := fun i hi => ⟨_, List.getElem?_eq_getElem (by omega)⟩
  refine (Compact_calls w.heap.size n f ms w4 hR (fun i hi => ?_) hn (fun W i j hW hi hj => ?_)).mono ?_
  · obtain ⟨m, hm⟩ := hget i hi
    obtain ⟨A, c, h, _, _⟩ := list_form (hel i m hm).1
    exact ⟨_, _, _, h⟩
  · obtain ⟨a, ha⟩ := hget i hi
    obtain ⟨b, hb⟩ := hget j hj
    have hr : ∀ i m, ms[i]? = some m → wordR.rel W (Fresh (w.heap.size + 1) w4) [f i] m := fun i m hm => wordR.mono (fun p hp => World.cell?_of_block (hW.block _ hp.2 (fun e => by injection e with e; have := hp.1; omega))) (fun _ h => h) (hel i m hm).1
    refine (eqW_calls a b _ _ W _ _ (hr i a ha) (hr j b hb)).mono ?_
    rintro e w' ⟨rfl, q⟩
    refine ⟨?_, q⟩
    rw [ha, hb]
    congr 2
    rw [Bool.eq_iff_iff]
    simp only [beq_iff_eq, Option.some.injEq]
    exact ⟨cmpW_eq, fun h => by rw [h]; exact cmpW_refl _⟩
  · rintro e w' ⟨f', rfl, hR', hk, hg⟩
    have hB' : Below w.heap.size w w' := ⟨hg.os.trans hB.os, hg.tape.trans hB.tape, hg.output.trans hB.output, Nat.le_trans hB.size hg.size, fun q hq => (hg.block q (Nat.lt_of_lt_of_le hq hB.size) (fun e => by injection e with e; omega)).trans (hB.block q hq)⟩
    have hkl := keepL_le ms n
    refine ⟨_, (keepL ms n).map (fun i => ms.getD i []), rfl, ?_, fun x => (keep_mem hms).trans (hmem x), keep_strict hms hp, hB'⟩
    have := rel_words (r := nwordR) rfl (S := Fresh w.heap.size w') (xs := (keepL ms n).map (fun i => ms.getD i [])) hR' ⟨Nat.le_refl _, hR'.lt⟩ (by rw [List.length_map]; exact hkl) (by unfold maxLen; omega) (fun i x hi => by
      rw [List.getElem?_map] at hi
      obtain ⟨q, hq, rfl⟩ := Option.map_eq_some_iff.1 hi
      have hql := keepL_lt hq
      rw [hk i q hq]
      have hm : ms[q]? = some (ms.getD q []) := by rw [List.getD_eq_getElem?_getD, List.getElem?_eq_getElem (by omega)]; rfl
      exact nwordR.mono (fun p hp => World.cell?_of_block (hg.block _ hp.2 (fun e => by injection e with e; have := hp.1; omega))) (fun b hb => ⟨by have := hb.1; omega, Nat.lt_of_lt_of_le hb.2 hg.size⟩) (hel q _ hm))
    rw [List.length_map] at this
    exact this
set_option maxHeartbeats 2000000 in
set_option maxRecDepth 100000 in
theorem Sort_calls (ls : List (List Int)) (v : Value) (w : World) (h : (listR nwordR).rel w (upto w.heap.size) [v] ls) (hl : ls.length ≤ 1000000000) (hw : ∀ l ∈ ls, l.length ≤ 1000000000000) :
    Calls Tryz.prog 55 #[v] w fun e w' => SortPost ls w e w' := by
  obtain ⟨inf, hi0, hz0, hz1, hz2⟩ := info_parts infoW
  obtain ⟨A, c, rfl, hc, hm⟩ := list_form h
  unfold maxLen at hm
  have hmk : ∀ W : World, (Instr.makeSlice 34 (.int .i64 ls.length) (.int .i64 ls.length)).run Tryz.prog W = .ok (.slice (some ⟨W.heap.size, 0, none⟩) ls.length ls.length) (W.alloc (.cells (madeCells #[.slice none 0 0] ls.length) 37)) :=
    run_make_row 34 37 inf _ Tryz.underlying34 hi0 hz0 hz1 rfl .i64 .i64 ls.length (by rw [hz2]; omega) (by omega)
  have HC := hid fun l v W h1 h2 => cloneW_calls l v W h1 h2
  have hR0 := World.rowIs_made w (.slice none 0 0) ls.length 37
  have hB0 : Below w.heap.size w (w.alloc (.cells (madeCells #[.slice none 0 0] ls.length) 37)) := (Below.refl _ w).alloc (Nat.le_refl _) _
  have HI0 : Hid (CloI ls w 0 (w.alloc (.cells (madeCells #[.slice none 0 0] ls.length) 37))) := hid ⟨_, hR0, fun j m hj => by omega, hB0⟩
  clear hR0 hB0
  have HW := hid hw
  clear hw
  go_enter Tryz.func55, Tryz.ntmps55
  go_wp2_with fail
  generalize w.alloc (.cells (madeCells #[.slice none 0 0] ls.length) 37) = w1 at *
  go_loopw [11] (fun vi wr => ∃ k : Nat, k ≤ ls.length ∧ vi = .int .i64 k ∧ CloI ls w k wr) (fun vi _ => ls.length - (intOf vi).toNat)
  case atStart => exact ⟨0, Nat.zero_le _, rfl, HI0.out⟩
  case round =>
    clear hmk
    obtain ⟨k, hk, rfl, hI⟩ := hrel
    obtain ⟨wo, hwo⟩ : ∃ wo, wo = wr := ⟨_, rfl⟩
    subst hwo
    obtain ⟨f, hR, hel, hB⟩ := hI
    by_cases hlt : k < ls.length
    · have hlt' : (k : Int) < ls.length := by omega
      obtain ⟨m, hm'⟩ := at_lt hlt
      obtain ⟨b1, o1, y, rfl, hb1, hy, hcy⟩ := list_at1 rfl h hm'
      replace hcy := (hB.cell (p := ⟨b1, o1 + k, none⟩) hb1).trans hcy
      have hyo : wordR.rel wo (upto wo.heap.size) [y] m := wordR.mono (fun p hp => hB.cell hp) (fun b hb => Nat.lt_of_lt_of_le hb hB.size) hy.1
      obtain ⟨A2, c2, rfl, _, _⟩ := list_form hy.1
      have HCL := hid (HC.out m _ wo hyo (HW.out m (List.mem_of_getElem? hm')))
      have HR := hid hR
      have HE := hid hel
      have HB := hid hB
      have HM := hid hm'
      clear hR hel hB hm' hy hyo hlt
      go_wp2_with fail
      refine HCL.out.mono ?_
      rintro e w2 ⟨u, rfl, hu, hB2⟩
      have hR2 := HR.out.of_block (hB2.block _ HR.out.lt)
      have hck := hR2.cell (show k < ls.length by omega)
      have hfk := hR2.frozen k
      obtain ⟨A9, c9, rfl, _, _⟩ := list_form hu.1
      have hI2 : CloI ls w (k + 1) (w2.setCell ⟨w.heap.size, k, none⟩ (.slice A9 m.length c9)) := by
        have hoth : ∀ g, g ≠ w.heap.size → (w2.setCell ⟨w.heap.size, k, none⟩ (.slice A9 m.length c9)).heap[g]? = w2.heap[g]? := fun g hg => heap_setCell_other _ _ _ _ (by simpa using hg)
        have hsz := HR.out.lt
        refine ⟨_, hR2.set k _, fun j m' hj hm' => ?_, (HB.out.trans (hB2.mono HB.out.size)).setCell (p := ⟨w.heap.size, k, none⟩) (Nat.le_refl _) _⟩
        show nwordR.rel _ _ [if j = k then _ else f j] m'
        by_cases e : j = k
        · subst e
          rw [HM.out] at hm'
          injection hm' with hm'
          subst hm'
          rw [if_pos rfl]
          exact nwordR.mono (fun p hp => World.cell?_of_block (hoth _ (by have := hp.1; omega))) (fun b hb => ⟨by have := hb.1; omega, by simpa using hb.2⟩) hu
        · rw [if_neg e]
          exact nwordR.mono (fun p hp => World.cell?_of_block ((hoth _ (by have := hp.1; omega)).trans (hB2.block _ hp.2))) (fun b hb => ⟨hb.1, by have := hb.2; have := hB2.size; simp; omega⟩) (HE.out j m' (by omega) hm')
      have HI2 := hid hI2
      clear hI2 hu hB2
      go_wp2_with fail
      refine ⟨⟨k + 1, by omega, by go_num, HI2.out⟩, ?_⟩
      simp [intOf]; omega
    · obtain rfl : k = ls.length := by omega
      have HS := hid (sortW_calls w.heap.size ls.length f ls wo hR rfl hl (fun i m hi => hel i m (List.getElem?_eq_some_iff.1 hi).1 hi))
      have HB := hid hB
      clear hlt hR hel hB
      go_wp2_with fail
      refine HS.out.mono ?_
      rintro e w4 ⟨rfl, f', ms, hp, hs, hR', hel', hg⟩
      have hB4 : Below w.heap.size w w4 := ⟨hg.os.trans HB.out.os, hg.tape.trans HB.out.tape, hg.output.trans HB.out.output, Nat.le_trans HB.out.size hg.size, fun q hq => (hg.block q (Nat.lt_of_lt_of_le hq HB.out.size) (fun e => by injection e with e; omega)).trans (HB.out.block q hq)⟩
      have HCo := hid (compact_sorted (ls := ls) (w := w) (hp.length_eq) hl hR' hel' (fun x => hp.mem_iff) hs hB4)
      clear hp hs hR' hel' hg hB4
      go_wp2_with fail
      refine HCo.out.mono ?_
      rintro e w5 ⟨u, ls', rfl, h1, h2, h3, h4⟩
      obtain ⟨A9, c9, rfl, _, _⟩ := list_form h1
      go_wp2_with fail
      go_ret
      exact ⟨_, ls', rfl, h1, h2, h3, h4⟩
end Go.Proofs.YthfcbbdghggefaaGreat
namespace Go.Um
open Go.RowKit
/-- what stays but for some blocks. -/
structure KeptBut (H : Nat) (p : Nat → Prop) (w w' : World) : Prop where
  os : w'.os = w.os
  tape : w'.tape = w.tape
  output : w'.output = w.output
  size : w.heap.size ≤ w'.heap.size
  block : ∀ g, g < H → ¬ p g → w'.heap[g]? = w.heap[g]?
theorem KeptBut.refl (H : Nat) (p : Nat → Prop) (w : World) : KeptBut H p w w := ⟨rfl, rfl, rfl, Nat.le_refl _, fun _ _ _ => rfl⟩
theorem KeptBut.trans {H : Nat} {p : Nat → Prop} {a b c : World} (h : KeptBut H p a b) (k : KeptBut H p b c) : KeptBut H p a c :=
  ⟨k.os.trans h.os, k.tape.trans h.tape, k.output.trans h.output, Nat.le_trans h.size k.size, fun g hg hp => (k.block g hg hp).trans (h.block g hg hp)⟩
theorem KeptBut.below {H : Nat} {p : Nat → Prop} {a b : World} (h : KeptBut H p a b) {B : Nat} (hB : B ≤ H) (hp : ∀ g, p g → B ≤ g) : Below B a b :=
  ⟨h.os, h.tape, h.output, h.size, fun g hg => h.block g (by omega) (fun hpg => by have := hp g hpg; omega)⟩
theorem KeptBut.of_below {H B : Nat} {p : Nat → Prop} {a b : World} (h : Below B a b) (hB : H ≤ B) : KeptBut H p a b := ⟨h.os, h.tape, h.output, h.size, fun g hg _ => h.block g (by omega)⟩
theorem KeptBut.alloc {H : Nat} {p : Nat → Prop} {a b : World} (h : KeptBut H p a b) (hH : H ≤ b.heap.size) (o : Obj) : KeptBut H p a (b.alloc o) := h.trans (KeptBut.of_below ((Below.refl _ b).alloc (Nat.le_refl _) o) hH)
theorem KeptBut.setCell {H : Nat} {p : Nat → Prop} {a b : World} (h : KeptBut H p a b) {q : Addr} (hq : p q.block) (v : Value) : KeptBut H p a (b.setCell q v) :=
  h.trans ⟨rfl, rfl, rfl, by simp, fun g _ hp => heap_setCell_other b q g v (fun e => hp (e ▸ hq))⟩
theorem KeptBut.grown {H : Nat} {p : Nat → Prop} {a b c : World} {row : Option Nat} (h : KeptBut H p a b) (hg : b.grownBy c row) (hH : H ≤ b.heap.size) (hr : ∀ g, row = some g → H ≤ g ∨ p g) : KeptBut H p a c :=
  h.trans ⟨hg.os, hg.tape, hg.output, hg.size, fun g hgl hp => hg.block g (by omega) (fun e => (hr g e.symm).elim (fun h1 => by omega) hp)⟩
theorem KeptBut.drew {H : Nat} {p : Nat → Prop} {a b : World} (h : KeptBut H p a b) : KeptBut H p a b.drew := h.trans ⟨rfl, rfl, rfl, Nat.le_refl _, fun _ _ _ => rfl⟩
theorem KeptBut.mono {H H' : Nat} {p p' : Nat → Prop} {a b : World} (h : KeptBut H p a b) (hH : H' ≤ H) (hp : ∀ g, g < H' → p g → p' g) : KeptBut H' p' a b := ⟨h.os, h.tape, h.output, h.size, fun g hg hn => h.block g (by omega) (fun hpg => hn (hp g hg hpg))⟩
end Go.Um
namespace Go.Proofs.YthfcbbdghggefaaGreat
open Go.RowKit Go.Um Go.Proofs
def runCells (i0 i1 i2 i3 : Int) (vr vf vx R F vo vl : Value) : Array Value := #[.int .i64 i0, .int .i64 i1, .int .i64 i2, .int .i64 i3, vr, vf, vx, R, F, vo, vl]
def runObj (i0 i1 i2 i3 : Int) (vr vf vx R F vo vl : Value) : Obj := .cells (runCells i0 i1 i2 i3 vr vf vx R F vo vl) 89
def SoI (w0 : World) (B0 RB DB n : Nat) (i0 i1 i2 i3 : Int) (vr vf vx R F : Value) (L : Nat → Bool) (ord : List Int) (w : World) : Prop :=
  (∃ vo, w.heap[RB]? = some (runObj i0 i1 i2 i3 vr vf vx R F vo (.slice none 0 0)) ∧ w.ownsRow B0 3 1 vo ord.length (ord.map (Value.int .i64))) ∧
  w.rowIs DB 4 n (fun i => .bool (L i)) ∧ KeptBut B0 (fun g => g = RB ∨ g = DB) w0 w
section
variable {w0 w : World} {B0 RB DB n : Nat} {i0 i1 i2 i3 : Int} {vr vf vx R F : Value} {L : Nat → Bool} {ord : List Int}
theorem SoI.alloc (h : SoI w0 B0 RB DB n i0 i1 i2 i3 vr vf vx R F L ord w) (hB : B0 ≤ w0.heap.size) (o : Obj) : SoI w0 B0 RB DB n i0 i1 i2 i3 vr vf vx R F L ord (w.alloc o) := by
  obtain ⟨⟨vo, h1, h2⟩, h3, h4⟩ := h
  refine ⟨⟨vo, (Below.heap_alloc _ _ _ (heapLtW h1)).trans h1, h2.alloc o⟩, h3.of_block (Below.heap_alloc _ _ _ h3.lt), h4.alloc (Nat.le_trans hB h4.size) o⟩
theorem SoI.mark (h : SoI w0 B0 RB DB n i0 i1 i2 i3 vr vf vx R F L ord w) (hne : RB ≠ DB) (hDB : DB < B0) (s : Nat) : SoI w0 B0 RB DB n i0 i1 i2 i3 vr vf vx R F (fun k => if k = s then true else L k) ord (w.setCell ⟨DB, s, none⟩ (.bool true)) := by
  obtain ⟨⟨vo, h1, h2⟩, h3, h4⟩ := h
  refine ⟨⟨vo, (heap_setCell_other _ _ _ _ (by show RB ≠ DB; exact hne)).trans h1, ownsRow_kept h2 (fun g hg => heap_setCell_other _ _ _ _ (by show g ≠ DB; have := (h2.lt g hg).1; omega))⟩, ?_, h4.setCell (.inr rfl) _⟩
  have := h3.set s (.bool true)
  refine cast (congrArg (World.rowIs _ _ _ _) ?_) this
  funext k
  dsimp only
  split <;> rfl
theorem SoI.push (h : SoI w0 B0 RB DB n i0 i1 i2 i3 vr vf vx R F L ord w) (hB : B0 ≤ w0.heap.size) (hne : RB ≠ DB) (hRB : RB < B0) (hDB : DB < B0) {vo v' : Value} {w2 : World} {x : Int} (o : Obj)
    (h1 : w.heap[RB]? = some (runObj i0 i1 i2 i3 vr vf vx R F vo (.slice none 0 0))) (h2 : w.ownsRow B0 3 1 vo ord.length (ord.map (Value.int .i64)))
    (hg : (w.alloc o).grownBy w2 vo.ownBlock) (ho : w2.ownsRow B0 3 1 v' (ord.length + 1) (ord.map (Value.int .i64) ++ [.int .i64 x])) :
    SoI w0 B0 RB DB n i0 i1 i2 i3 vr vf vx R F L (ord ++ [x]) (w2.setCell ⟨RB, 9, none⟩ v') ∧ w2.heap[RB]? = some (runObj i0 i1 i2 i3 vr vf vx R F vo (.slice none 0 0)) := by
  obtain ⟨_, h3, h4⟩ := h
  have hlow : ∀ g, vo.ownBlock = some g → B0 ≤ g := fun g hg => (h2.lt g hg).1
  have hRw : RB < w.heap.size := heapLtW h1
  have hr2 : w2.heap[RB]? = some (runObj i0 i1 i2 i3 vr vf vx R F vo (.slice none 0 0)) := (hg.block RB (by simp; omega) (fun e => by have := hlow _ e.symm; omega)).trans ((Below.heap_alloc _ _ _ hRw).trans h1)
  refine ⟨⟨⟨v', ?_, ?_⟩, ?_, ?_⟩, hr2⟩
  · rw [heap_setCell_same w2 RB 9 _ _ v' hr2]
    rfl
  · have := ownsRow_kept (w' := w2.setCell ⟨RB, 9, none⟩ v') ho (fun g hg => heap_setCell_other _ _ _ _ (by show g ≠ RB; have := (ho.lt g hg).1; omega))
    simpa using this
  · refine h3.of_block ((heap_setCell_other _ _ _ _ (by show DB ≠ RB; exact fun e => hne e.symm)).trans ((hg.block DB (by have := h3.lt; simp; omega) (fun e => by have := hlow _ e.symm; omega)).trans (Below.heap_alloc _ _ _ h3.lt)))
  · exact ((h4.alloc (Nat.le_trans hB h4.size) o).grown hg (Nat.le_trans (Nat.le_trans hB h4.size) (by simp)) (fun g e => .inl (hlow g e))).setCell (.inl rfl) _
theorem SoI.rel {α : Type} {q : RepOf α} {cs : List Value} {x : α} {S0 : Nat → Prop} (h : SoI w0 B0 RB DB n i0 i1 i2 i3 vr vf vx R F L ord w) (hS0 : ∀ g, S0 g → g < B0 ∧ g ≠ RB ∧ g ≠ DB) (hq : q.rel w0 S0 cs x) : q.rel w S0 cs x :=
  q.mono (fun _ hp => World.cell?_of_block (h.2.2.block _ (hS0 _ hp).1 (fun e => e.elim (hS0 _ hp).2.1 (hS0 _ hp).2.2))) (fun _ h => h) hq
end
structure SoF (d : Desc) (n : Nat) (L : Nat → Bool) (ord : List Int) : Prop where
  od : Ord d ord
  mem : ∀ t ∈ ord, ∃ k : Nat, t = k ∧ k < n ∧ L k = true
def SoPost (d : Desc) (w0 : World) (B0 RB DB n : Nat) (i0 i1 i2 i3 : Int) (vr vf vx R F : Value) (L : Nat → Bool) (ord : List Int) (s : Nat) (e : Ending) (w' : World) : Prop :=
  e = .returned (.tuple #[]) ∧ ∃ L' nw, SoI w0 B0 RB DB n i0 i1 i2 i3 vr vf vx R F L' (ord ++ nw) w' ∧ SoF d n L' (ord ++ nw) ∧ (∀ t ∈ nw, ∃ k : Nat, t = k ∧ k < n ∧ L k = false) ∧ (∀ k, L' k = true ↔ L k = true ∨ (k : Int) ∈ nw) ∧ (s : Int) ∈ ord ++ nw
def SoL (d : Desc) (w0 : World) (B0 RB DB n : Nat) (i0 i1 i2 i3 : Int) (vr vf vx R F : Value) (L : Nat → Bool) (ord : List Int) (s : Nat) (k : Nat) (wr : World) : Prop :=
  ∃ L' nw, SoI w0 B0 RB DB n i0 i1 i2 i3 vr vf vx R F L' (ord ++ nw) wr ∧ SoF d n L' (ord ++ nw) ∧ (∀ t ∈ nw, ∃ k : Nat, t = k ∧ k < n ∧ L k = false ∧ k ≠ s) ∧ (∀ k, L' k = true ↔ L k = true ∨ k = s ∨ (k : Int) ∈ nw) ∧
    ∀ (i j : Nat) (r : Rule), i < k → (rulesOf d s)[i]? = some (j : Int) → d.rules[j]? = some r → r.guards = [] → r.dst ∈ ord ++ nw
theorem ownInt_form {w : World} {base : Nat} {e : TypeId} {v : Value} {n : Nat} {xs : List Value} (h : w.ownsRow base e 1 v n xs) : ∃ A c, v = .slice A n c := by
  rcases h.2 with ⟨rfl, h0⟩ | ⟨g, cap, cur, rfl, _⟩
  · exact ⟨none, 0, by rw [h0]⟩
  · exact ⟨_, _, rfl⟩
theorem infoI : (Tryz.prog.info? 3).map (fun i => (i.zero, i.size, i.bytes)) = some (some (.int .i64 0), 1, 8) := by kernel_rfl
set_option maxHeartbeats 4000000 in
set_option maxRecDepth 100000 in
theorem rsort_calls (d : Desc) (w0 : World) (B0 RB DB n : Nat) (i0 i1 i2 i3 : Int) (vr vf vx R F : Value) (hRB : RB < B0) (hDB : DB < B0) (hne : RB ≠ DB) (hB0 : B0 ≤ w0.heap.size) (S0 : Nat → Prop) (hS0 : ∀ g, S0 g → g < B0 ∧ g ≠ RB ∧ g ≠ DB)
    (hr : (listR ruleR).rel w0 S0 [vr] d.rules) (hR : (listR (listR intR)).rel w0 S0 [R] ((List.range n).map fun s : Nat => rulesOf d (s : Int))) (hl : d.rules.length ≤ 4096) (hn : n ≤ 1024) (hrd : ∀ r ∈ d.rules, 0 ≤ r.dst ∧ r.dst < n)
    (ρ : Int → Nat) (hρ : ∀ r ∈ d.rules, r.guards = [] → ρ r.dst < ρ r.src) :
    ∀ (m s : Nat), s < n → ρ s < m → ∀ (L : Nat → Bool) (ord : List Int) (w : World), SoI w0 B0 RB DB n i0 i1 i2 i3 vr vf vx R F L ord w → SoF d n L ord → ord.length ≤ 1024 → (∀ t, t < n → L t = true → (t : Int) ∈ ord ∨ ρ s < ρ t) →
      Calls Tryz.prog 86 #[.pointer (some ⟨RB, 0, none⟩), .int .i64 s, .slice (some ⟨DB, 0, none⟩) n n] w (SoPost d w0 B0 RB DB n i0 i1 i2 i3 vr vf vx R F L ord s) := by
  intro m
  induction m with
  | zero => intro s _ h; omega
  | succ m ih =>
    intro s hs hm L ord w hI hF hol hdone
    obtain ⟨⟨vo, h1, h2⟩, h3, h4⟩ := hI
    have hcd := h3.cell hs
    have hfd := h3.frozen s
    by_cases hLs : L s = true
    · rw [hLs] at hcd
      have hmem : (s : Int) ∈ ord := (hdone s hs hLs).resolve_right (by omega)
      have HP : Hid (SoPost d w0 B0 RB DB n i0 i1 i2 i3 vr vf vx R F L ord s (.returned (.tuple #[])) w) := hid ⟨rfl, L, [], by rw [List.append_nil]; exact ⟨⟨vo, h1, h2⟩, h3, h4⟩, by rw [List.append_nil]; exact hF, fun t ht => (by cases ht), fun k => by simp, by rw [List.append_nil]; exact hmem⟩
      clear hF h1 h2 h3 h4 ih
      have hs' : (s : Int) < n := by omega
      go_enter Tryz.func86, Tryz.ntmps86
      go_wp2_with fail
      go_end0
      exact HP.out
    · have hLs' : L s = false := by simpa using hLs
      rw [hLs'] at hcd
      have hs' : (s : Int) < n := by omega
      have hI : SoI w0 B0 RB DB n i0 i1 i2 i3 vr vf vx R F L ord w := ⟨⟨vo, h1, h2⟩, h3, h4⟩
      have hM := hI.mark hne hDB s
      have h1m : (w.setCell ⟨DB, s, none⟩ (.bool true)).heap[RB]? = _ := (heap_setCell_other _ _ _ _ (by show RB ≠ DB; exact hne)).trans h1
      obtain ⟨A1, cR, eR, _, _⟩ := list_form hR
      rw [List.length_map, List.length_range] at eR
      subst eR
      obtain ⟨A2, cr, rfl, _, _⟩ := list_form hr
      obtain ⟨bR, oR, y, rfl, hbR, hy, hcR⟩ := list_at1 (i := s) rfl (hM.rel hS0 hR) (by rw [List.getElem?_map, List.getElem?_range hs]; rfl)
      obtain ⟨A3, c3, rfl, _, hm3⟩ := list_form hy
      unfold maxLen at hm3
      have hrl : (rulesOf d s).length ≤ 4096 := Nat.le_trans (idxF_len _ _ _) hl
      have k7 : (w.setCell ⟨DB, s, none⟩ (.bool true)).cell? ⟨RB, 7, none⟩ = some (.slice (some ⟨bR, oR, none⟩) n cR) := cell_of_row _ _ 7 _ _ _ h1m
      have HL0 : Hid (SoL d w0 B0 RB DB n i0 i1 i2 i3 (.slice A2 d.rules.length cr) vf vx (.slice (some ⟨bR, oR, none⟩) n cR) F L ord s 0 (w.setCell ⟨DB, s, none⟩ (.bool true))) := hid (by
        refine ⟨_, [], by rw [List.append_nil]; exact hM, ?_, fun t ht => (by cases ht), fun k => ?_, fun i j r hi => by omega⟩
        · rw [List.append_nil]
          refine ⟨hF.od, fun t ht => ?_⟩
          obtain ⟨k, e1, e2, e3⟩ := hF.mem t ht
          exact ⟨k, e1, e2, by simp [e3]⟩
        · by_cases e : k = s <;> simp [e])
      have HS := hid (show (s : Int) ∉ ord from fun hmem => by
        obtain ⟨k, e1, e2, e3⟩ := hF.mem _ hmem
        have : k = s := by omega
        subst this
        exact hLs e3)
      have HR := hid hr
      have HDN := hid hdone
      have HYW : Hid (∀ W, (∃ L' nw, SoI w0 B0 RB DB n i0 i1 i2 i3 (.slice A2 d.rules.length cr) vf vx (.slice (some ⟨bR, oR, none⟩) n cR) F L' (ord ++ nw) W) → (listR intR).rel W S0 [.slice A3 (rulesOf d s).length c3] (rulesOf d s)) := hid fun W ⟨L', nw, hW⟩ => (listR intR).mono (fun p hp => by
        have hp' := hS0 _ hp
        exact World.cell?_of_block ((hW.2.2.block _ hp'.1 (fun e => e.elim hp'.2.1 hp'.2.2)).trans (hM.2.2.block _ hp'.1 (fun e => e.elim hp'.2.1 hp'.2.2)).symm)) (fun _ h => h) hy
      have HD := hid hrd
      have HRO := hid hρ
      have HS0 := hid hS0
      have IH := hid ih
      clear ih h1m hI hM h1 h2 h3 h4 hR hr hF hdone hy hrd hρ hS0 hLs
      go_enter Tryz.func86, Tryz.ntmps86
      go_wp2_with fail
      generalize w.setCell ⟨DB, s, none⟩ (.bool true) = w1 at *
      go_loopw [24] (fun vi wr => ∃ k : Nat, k ≤ (rulesOf d s).length ∧ vi = .int .i64 k ∧ SoL d w0 B0 RB DB n i0 i1 i2 i3 (.slice A2 d.rules.length cr) vf vx (.slice (some ⟨bR, oR, none⟩) n cR) F L ord s k wr) (fun vi _ => (rulesOf d s).length - (intOf vi).toNat)
      case atStart => exact ⟨0, Nat.zero_le _, rfl, HL0.out⟩
      case round =>
        clear k7 hcR hcd hfd
        obtain ⟨k, hk, rfl, L', nw, hI, hF, hnw, hL', hE⟩ := hrel
        obtain ⟨wo, hwo⟩ : ∃ wo, wo = wr := ⟨_, rfl⟩
        subst hwo
        have hIk := hI
        obtain ⟨⟨vo, h1, h2⟩, h3, h4⟩ := hIk
        by_cases hlt : k < (rulesOf d s).length
        · have hlt' : (k : Int) < (rulesOf d s).length := by omega
          obtain ⟨z, hz⟩ := at_lt hlt
          obtain ⟨j, r, rfl, hj, hsrc⟩ := rulesOf_mem.1 (List.mem_of_getElem? hz)
          obtain ⟨b1, o1, y, rfl, hb1, ⟨hy, _⟩, hcy⟩ := list_at1 rfl (HYW.out wo ⟨L', nw, hI⟩) hz
          injection hy with hy _
          subst hy
          obtain ⟨b2, o2, v2, u2, rfl, hb2, q1, q2, q3, q4, q5, q6, q7, q8⟩ := rule_at (hI.rel HS0.out HR.out) hj
          have k4 : wo.cell? ⟨RB, 4, none⟩ = some (.slice (some ⟨b2, o2, none⟩) d.rules.length cr) := cell_of_row _ _ 4 _ _ _ h1
          obtain ⟨A5, c5, rfl, _, _⟩ := list_form q7
          obtain ⟨A6, c6, rfl, _, _⟩ := list_form q8
          have hjl : (j : Int) < d.rules.length := by have := (List.getElem?_eq_some_iff.1 hj).1; omega
          have hd := HD.out r (List.mem_of_getElem? hj)
          obtain ⟨t, ht⟩ : ∃ t : Nat, r.dst = t := ⟨r.dst.toNat, by omega⟩
          have htn : t < n := by omega
          have hro := HRO.out r (List.mem_of_getElem? hj)
          rw [hsrc] at q1
          have hIA := hI.alloc hB0 (.cells #[.int .i64 s, .int .i64 r.dst, .slice A5 r.guards.length c5, .int .i64 r.eat, .slice A6 r.out.length c6] 46)
          obtain ⟨g, hg⟩ : ∃ g, g = r.guards.length := ⟨_, rfl⟩
          have hE2 : ∀ nw2, (r.guards = [] → r.dst ∈ ord ++ (nw ++ nw2)) → ∀ (i j : Nat) (r : Rule), i < k + 1 → (rulesOf d s)[i]? = some (j : Int) → d.rules[j]? = some r → r.guards = [] → r.dst ∈ ord ++ (nw ++ nw2) := fun nw2 h0 i j' r' hi h5 h6 h7 => by
            by_cases e : i = k
            · subst e
              rw [hz] at h5
              injection h5 with h5
              have h5 : j = j' := by omega
              subst h5
              rw [hj] at h6
              injection h6 with h6
              subst h6
              exact h0 h7
            · have := hE i j' r' (by omega) h5 h6 h7
              rw [← List.append_assoc]
              exact List.mem_append_left _ this
          by_cases hgl : r.guards.length = 0
          · have hge := List.eq_nil_of_length_eq_zero hgl
            have hlow := hro hge
            rw [hsrc, ht] at hlow
            have hlen : (ord ++ nw).length ≤ 1024 := by
              have hnd := hF.od.nd
              have hsub : ∀ t ∈ ord ++ nw, t ∈ (List.range n).map (fun i : Nat => (i : Int)) := fun t' ht' => by
                obtain ⟨k', e1, e2, _⟩ := hF.mem t' ht'
                exact List.mem_map.2 ⟨k', List.mem_range.2 e2, e1.symm⟩
              have := hnd.length_le_of_subset hsub
              rw [List.length_map, List.length_range] at this
              omega
            have HC := hid (IH.out t htn (by omega) L' (ord ++ nw) _ hIA hF hlen (fun t' ht' hl' => by
              rcases (hL' t').1 hl' with h5 | h5 | h5
              · rcases HDN.out t' ht' h5 with h6 | h6
                · exact .inl (List.mem_append_left _ h6)
                · exact .inr (by omega)
              · subst h5; exact .inr hlow
              · exact .inl (List.mem_append_right _ h5)))
            have HNX : Hid (∀ w2, SoPost d w0 B0 RB DB n i0 i1 i2 i3 (.slice (some ⟨b2, o2, none⟩) d.rules.length cr) vf vx (.slice (some ⟨bR, oR, none⟩) n cR) F L' (ord ++ nw) t (.returned (.tuple #[])) w2 → SoL d w0 B0 RB DB n i0 i1 i2 i3 (.slice (some ⟨b2, o2, none⟩) d.rules.length cr) vf vx (.slice (some ⟨bR, oR, none⟩) n cR) F L ord s (k + 1) w2) := hid fun w2 h => by
              obtain ⟨_, L2, nw2, p1, p2, p3, p4, p5⟩ := h
              rw [List.append_assoc] at p1 p2 p5
              refine ⟨L2, nw ++ nw2, p1, p2, fun t' ht' => ?_, fun k' => ?_, hE2 nw2 fun _ => ?_⟩
              · rcases List.mem_append.1 ht' with h5 | h5
                · exact hnw t' h5
                · obtain ⟨k', e1, e2, e3⟩ := p3 t' h5
                  have e4 : ¬ (L k' = true ∨ k' = s ∨ (k' : Int) ∈ nw) := fun h6 => by rw [(hL' k').2 h6] at e3; cases e3
                  exact ⟨k', e1, e2, by simpa using fun h6 => e4 (.inl h6), fun h6 => e4 (.inr (.inl h6))⟩
              · rw [p4, hL', List.mem_append]
                constructor
                · rintro ((h5 | h5 | h5) | h5)
                  · exact .inl h5
                  · exact .inr (.inl h5)
                  · exact .inr (.inr (.inl h5))
                  · exact .inr (.inr (.inr h5))
                · rintro (h5 | h5 | h5 | h5)
                  · exact .inl (.inl h5)
                  · exact .inl (.inr (.inl h5))
                  · exact .inl (.inr (.inr h5))
                  · exact .inr h5
              · rw [ht]; exact p5
            rw [ht] at HC q2
            have hg0 : ((r.guards.length : Int) == 0) = true := beq_t (by omega)
            clear hI hF hnw hL' hE h1 h2 h3 h4 hz hj q6 q7 q8 hIA hE2 hd hro hge hgl ht hg hlt hsrc
            go_wp2_with fail
            refine HC.out.mono ?_
            rintro e w2 h
            obtain rfl := h.1
            have HX := hid (HNX.out w2 h)
            clear h
            go_wp2_with fail
            refine ⟨⟨k + 1, by omega, by go_num, HX.out⟩, ?_⟩
            simp [intOf]; omega
          · have HX : Hid (SoL d w0 B0 RB DB n i0 i1 i2 i3 (.slice (some ⟨b2, o2, none⟩) d.rules.length cr) vf vx (.slice (some ⟨bR, oR, none⟩) n cR) F L ord s (k + 1) (wo.alloc (.cells #[.int .i64 s, .int .i64 r.dst, .slice A5 r.guards.length c5, .int .i64 r.eat, .slice A6 r.out.length c6] 46))) := hid ⟨L', nw, hIA, hF, hnw, hL', by
              have := hE2 [] (fun h => absurd (by rw [h]; rfl) hgl)
              simpa using this⟩
            have hg0 : ((r.guards.length : Int) == 0) = false := beq_f (by omega)
            clear hI hF hnw hL' hE h1 h2 h3 h4 hz hj q6 q7 q8 hIA hE2 hd hro hgl ht hg hlt hsrc
            go_wp2_with fail
            refine ⟨⟨k + 1, by omega, by go_num, HX.out⟩, ?_⟩
            simp [intOf]; omega
        · obtain rfl : k = (rulesOf d s).length := by omega
          have hlt' : ¬ (((rulesOf d s).length : Int) < (rulesOf d s).length) := by omega
          obtain ⟨Ao, co, rfl⟩ := ownInt_form h2
          have k9 : wo.cell? ⟨RB, 9, none⟩ = some (.slice Ao (ord ++ nw).length co) := cell_of_row _ _ 9 _ _ _ h1
          have f9 : wo.frozen? ⟨RB, 9, none⟩ = false := frozen_of_row _ _ _ _ _ h1
          have hlen : (ord ++ nw).length ≤ 1024 := by
            have hnd := hF.od.nd
            have hsub : ∀ t ∈ ord ++ nw, t ∈ (List.range n).map (fun i : Nat => (i : Int)) := fun t' ht' => by
              obtain ⟨k', e1, e2, _⟩ := hF.mem t' ht'
              exact List.mem_map.2 ⟨k', List.mem_range.2 e2, e1.symm⟩
            have := hnd.length_le_of_subset hsub
            rw [List.length_map, List.length_range] at this
            omega
          have hs2 : (s : Int) ∉ ord ++ nw := fun h => by
            rcases List.mem_append.1 h with h5 | h5
            · exact HS.out h5
            · obtain ⟨k', e1, e2, e3, e4⟩ := hnw _ h5
              omega
          have HO := hid h2
          have HI := hid hI
          have H1 := hid h1
          have HFin : Hid (∀ w2, SoI w0 B0 RB DB n i0 i1 i2 i3 (.slice A2 d.rules.length cr) vf vx (.slice (some ⟨bR, oR, none⟩) n cR) F L' (ord ++ nw ++ [(s : Int)]) w2 → SoPost d w0 B0 RB DB n i0 i1 i2 i3 (.slice A2 d.rules.length cr) vf vx (.slice (some ⟨bR, oR, none⟩) n cR) F L ord s (.returned (.tuple #[])) w2) := hid fun w2 h => by
            refine ⟨rfl, L', nw ++ [(s : Int)], by rw [← List.append_assoc]; exact h, ?_, fun t ht => ?_, fun k' => ?_, by simp⟩
            · rw [← List.append_assoc]
              refine ⟨hF.od.snoc hs2 fun t ht => ?_, fun t ht => ?_⟩
              · obtain ⟨r, hr1, hr2, hr3, rfl⟩ := ht
                obtain ⟨j, hj⟩ := List.mem_iff_getElem?.1 hr1
                obtain ⟨i, hi⟩ := List.mem_iff_getElem?.1 (rulesOf_mem.2 ⟨j, r, rfl, hj, hr3⟩)
                exact hE i j r (List.getElem?_eq_some_iff.1 hi).1 hi hj hr2
              · rcases List.mem_append.1 ht with h5 | h5
                · exact hF.mem t h5
                · simp at h5
                  subst h5
                  exact ⟨s, rfl, hs, (hL' s).2 (.inr (.inl rfl))⟩
            · rcases List.mem_append.1 ht with h5 | h5
              · obtain ⟨k', e1, e2, e3, _⟩ := hnw t h5
                exact ⟨k', e1, e2, e3⟩
              · simp at h5
                subst h5
                exact ⟨s, rfl, hs, hLs'⟩
            · rw [hL', List.mem_append, List.mem_singleton]
              constructor
              · rintro (h5 | h5 | h5)
                · exact .inl h5
                · exact .inr (.inr (by omega))
                · exact .inr (.inl h5)
              · rintro (h5 | h5 | h5)
                · exact .inl h5
                · exact .inr (.inr h5)
                · exact .inr (.inl (by omega))
          obtain ⟨ordn, hordn⟩ : ∃ o, o = ord ++ nw := ⟨_, rfl⟩
          rw [← hordn] at HO HI H1 HFin k9 hlen
          clear hI hF hnw hL' hE h1 h2 h3 h4 hlt hordn hs2
          obtain ⟨inf, hi0, hz0, hz1, hz2⟩ := info_parts infoI
          go_wp2_with (at_builtin; refine Hid.out ?_)
          refine hid ?_
          show wpList _ _ _ _ _ _
          refine wpList_append_own _ (by rfl) _ _ 73 (by rfl) B0 3 inf (.int .i64 0) 1 8 Tryz.underlying73 hi0 hz0 hz1 hz2 rfl (by decide) (.slice Ao ordn.length co) _ _ (by rfl) (HO.out.alloc _) ⟨wo.heap.size, 0, none⟩ 1 1 [.int .i64 s] (by rfl) rfl (news_at (w := wo) (cs := #[_]) rfl) (by simp [Value.oneCell']) (by unfold maxLen; omega) (by omega) (by have := HI.out.2.2.size; simp; omega) ?_
          intro v' w3 hO3 hg3 hn3
          obtain ⟨hI3, hR3⟩ := HI.out.push hB0 hne hRB hDB (.cells #[.int .i64 s] 3) H1.out HO.out hg3 hO3
          have HI3 := hid (HFin.out _ hI3)
          have c9 : w3.cell? ⟨RB, 9, none⟩ = some (.slice Ao ordn.length co) := cell_of_row _ _ 9 _ _ _ hR3
          have f9' : w3.frozen? ⟨RB, 9, none⟩ = false := frozen_of_row _ _ _ _ _ hR3
          obtain ⟨A9, c9', rfl⟩ := ownInt_form hO3
          clear hI3 hR3 hO3 hg3 hn3 k9 f9
          go_wp2_with fail
          go_end0
          exact HI3.out
end Go.Proofs.YthfcbbdghggefaaGreat
namespace Go.Um
open Go.RowKit Go.Shelf
/-- what a round keeps: some blocks. -/
def KpS (S : Nat → Prop) (W W' : World) : Prop := ∀ g, S g → W'.heap[g]? = W.heap[g]?
theorem KpS.t {S : Nat → Prop} {A B C : World} (h : KpS S A B) (k : KpS S B C) : KpS S A C := fun g hg => (k g hg).trans (h g hg)
theorem KpS.b {S : Nat → Prop} {w : World} (hS : ∀ g, S g → g < w.heap.size) (W : World) (l : Nat) (o o' : Obj) (hl : w.heap.size ≤ l) (_ : W.heap[l]? = some o) (_ : o.isCells = false) (_ : o.isWalk = false) : KpS S W (W.putObj l o') := fun g hg =>
  World.putObj_heap_other (by have := hS g hg; omega)
abbrev At (ord : List Int) : Type := { p : Nat × Int // ord[p.1]? = some p.2 }
def encAt {ord : List Int} (p : At ord) : Array Value := #[.int .i64 p.1.1, .int .i64 p.1.2]
/-- the last k of a row, from its end on. -/
def backL (ord : List Int) (k : Nat) : List Int := (ord.drop (ord.length - k)).reverse
theorem backL_succ {ord : List Int} {j : Nat} {x : Int} (h : ord[j]? = some x) : backL ord (ord.length - j) = backL ord (ord.length - (j + 1)) ++ [x] := by
  have hl := (List.getElem?_eq_some_iff.1 h).1
  unfold backL
  rw [show ord.length - (ord.length - j) = j by omega, show ord.length - (ord.length - (j + 1)) = j + 1 by omega, drop_cons h, List.reverse_cons]
end Go.Um
namespace Go.Proofs.YthfcbbdghggefaaGreat
open Go.Proofs Go.Um Go.RowKit Go.Shelf
attribute [local go_sem] Oper.semAt_some
set_option maxRecDepth 100000 in
set_option maxHeartbeats 2000000 in
theorem back1_in (F : Fence) (n : Nat) (hF : F.fn 104) (hro : F.round = none) (hn : 1 ≤ n) (l Bs : Nat) (ord : List Int) (v : Value) (S : Nat → Prop) (J Jx : List (At ord) → World → Prop)
    (hY : ∀ pre x W, J pre W → pre.length < ord.length → YieldAt F (n - 1) Tryz.prog l (encAt x) W fun e W' =>
      (e = .returned (.bool true) ∧ J (pre ++ [x]) W' ∧ KpS S W W') ∨ (e = .returned (.bool false) ∧ Jx (pre ++ [x]) W'))
    (W : World) (hBs : W.cell? ⟨Bs, 0, none⟩ = some v) (hSB : S Bs) (hr : (listR intR).rel W S [v] ord) (h0 : J [] W) :
    CallsIn F n Tryz.prog 104 #[.func (.yield l) #[] #[], .pointer (some ⟨Bs, 0, none⟩)] W fun e W' => (∃ v, e = .returned v) ∧
      ((∃ ys : List (At ord), ys.map (fun p => p.1.2) = ord.reverse ∧ J ys W') ∨ (∃ pre, Jx pre W')) := by
  obtain ⟨A, c, rfl, hc, hm⟩ := list_form hr
  unfold maxLen at hm
  refine callsIn_of_wp Tryz.func104 rfl hF ?_ hro
  simp only [Tryz.ntmps104, List.size_toArray, List.length_cons, List.length_nil, Nat.reduceAdd, Nat.reduceSub, Array.replicate_succ, Array.replicate_zero, List.push_toArray, List.append_toArray, List.nil_append, List.cons_append]
  have HRR := hid hr
  clear hr
  gi_wp2
  gi_loopw [3] (fun i wr => ∃ (k : Nat) (pre : List (At ord)), k ≤ ord.length ∧ i = .int .i64 ((k : Int) - 1) ∧ Hid (pre.map (fun p => p.1.2) = backL ord (ord.length - k)) ∧ J pre wr ∧ KpS S W wr)
    (fun i _ => (intOf i + 1).toNat)
  case atStart => exact ⟨ord.length, [], Nat.le_refl _, rfl, hid (by simp [backL]), h0, fun _ _ => rfl⟩
  case round =>
    obtain ⟨k, pre, hk, rfl, HE, hJs, hkp⟩ := hrel
    obtain ⟨wo, hwo⟩ : ∃ wo, wo = wr := ⟨_, rfl⟩
    subst hwo
    have hcb : wo.cell? ⟨Bs, 0, none⟩ = some (.slice A ord.length c) := (World.cell?_of_block (a := ⟨Bs, 0, none⟩) (hkp Bs hSB)).trans hBs
    have hrr := (listR intR).mono (w' := wo) (fun p hp => World.cell?_of_block (hkp _ hp)) (fun _ h => h) HRR.out
    cases k with
    | zero =>
      have hlt' : ¬ ((0 : Int) ≤ ((0 : Nat) : Int) - 1) := by omega
      have HF : Hid (pre.map (fun p => p.1.2) = ord.reverse) := hid (by rw [HE.out]; simp [backL])
      clear HE hrr
      gi_wp2
      go_end0
      exact ⟨⟨_, rfl⟩, .inl ⟨pre, HF.out, hJs⟩⟩
    | succ j =>
      obtain ⟨x, hx⟩ := at_lt (xs := ord) (i := j) (by omega)
      obtain ⟨b, o, y, rfl, hbS, ⟨hy, hx64⟩, hcy⟩ := list_at1 rfl hrr hx
      injection hy with hy _
      subst hy
      have hjl : j < ord.length := by omega
      have hjl' : (j : Int) < ord.length := by omega
      obtain ⟨z, hz1, hz2⟩ : ∃ z : At ord, encAt z = #[.int .i64 j, .int .i64 x] ∧ z.1.2 = x := ⟨⟨(j, x), hx⟩, rfl, rfl⟩
      have HE2 : Hid ((pre ++ [z]).map (fun p => p.1.2) = backL ord (ord.length - j)) := hid (by
        rw [List.map_append, HE.out, backL_succ hx, ← hz2]; rfl)
      have hplen : pre.length < ord.length := by
        have h1 := congrArg List.length HE.out
        simp [backL] at h1
        omega
      obtain ⟨fn, tmps, assign, body, hy, hR⟩ := hY pre z wo hJs hplen
      rw [hz1] at hy
      have e1 : (((j + 1 : Nat) : Int) - 1) = (j : Int) := by omega
      rw [e1]
      clear HE hrr hx e1 hz1 hz2
      gi_wp2
      refine hR.mono ?_
      rintro e W3 (⟨rfl, hJ3, hk3⟩ | ⟨rfl, hJx3⟩)
      · gi_wp2
        go_roundw
        case rel => exact ⟨j, _, by omega, rfl, HE2, hJ3, hkp.t hk3⟩
        case measure => simp [intOf]
      · gi_wp2
        refine bodyPost_ret (results_none rfl _ _ _) rfl ?_
        exact ⟨⟨_, rfl⟩, .inr ⟨_, hJx3⟩⟩
theorem back_stops (F : Fence) (n : Nat) (hF : F.fn 104) (hro : F.round = none) (hn : 1 ≤ n) (Bs : Nat) (ord : List Int) (v : Value) (S : Nat → Prop) (w : World) (hBs : w.cell? ⟨Bs, 0, none⟩ = some v) (hSB : S Bs) (hSl : ∀ g, S g → g < w.heap.size) (hr : (listR intR).rel w S [v] ord) :
    SeqStopsK F n Tryz.prog 104 #[.pointer (some ⟨Bs, 0, none⟩)] (encAt (ord := ord)) (KpS S) (fun ys => ys.map (fun p => p.1.2) = ord.reverse) (fun _ => True) ord.length w := fun l J Jx W hW hJ _ hY h0 => by
  refine (back1_in F n hF hro hn l Bs ord v S J Jx hY W ((hW.cell (p := ⟨Bs, 0, none⟩) (hSl _ hSB)).trans hBs) hSB ((listR intR).mono (fun p hp => hW.cell (hSl _ hp)) (fun _ h => h) hr) h0).mono ?_
  rintro e W' ⟨he, ⟨ys, h1, h2⟩ | ⟨pre, h2⟩⟩
  · exact ⟨he, .inl ⟨ys, h1, h2⟩⟩
  · exact ⟨he, .inr ⟨pre, trivial, h2⟩⟩
set_option maxHeartbeats 1000000 in
/-- a range over what slices.Backward has handed back, at the wide fence. -/
theorem range_back {g : Operand} {p1 p2 d1 id tt : Nat} {pos : String} {body : Code} {Q : Exit → Act → World → Prop} {a : Act} {w : World} {Bs : Nat} {ord : List Int} {v : Value} {S : Nat → Prop}
    (hg : a.eval g = .func (.func 104) #[] #[.pointer (some ⟨Bs, 0, none⟩)]) (hp : p2 < a.tmps.size) (hBs : w.cell? ⟨Bs, 0, none⟩ = some v) (hSB : S Bs) (hSl : ∀ g, S g → g < w.heap.size) (hr : (listR intR).rel w S [v] ord)
    (I : List (At ord) → World → Prop) (hI : OwnFrom w.heap.size I) (h0 : I [] w)
    (hbody : ∀ (l : Nat) (pre : List (At ord)) (z : At ord) (W : World), I pre W → pre.length < ord.length →
      body.wpIn (Fence.wide.inRound l) 1 Tryz.prog (ownPostG w.heap.size (KpS S) I (fun _ _ _ => False) (pre ++ [z]) W) { tmps := ((a.tmps.setIfInBounds p1 (.int .i64 z.1.1)).setIfInBounds p2 (.int .i64 z.1.2)).setIfInBounds d1 (.int .i64 z.1.2), defers := [] } W)
    (hdone : ∀ (D : Nat) (xs : List (At ord)) (W : World), w.heap.size ≤ D → xs.map (fun p => p.1.2) = ord.reverse → I xs W → W.heap[D]? = some (.deferred (some [])) → Q .normal { a with defers := { target := .collected D, args := #[] } :: a.defers } W) :
    (Code.rangeFunc g #[p1, p2] (Code.region id #[{ dst := some d1, op := .assign (.tmp p2), type := tt, pos := pos, after := #[], guard := none }] false) body).wp Tryz.prog Q a w := by
  obtain ⟨tmps, defers⟩ := a
  refine wpIn_wide.1 (wpIn_rangeFunc_ownG (n := 3) (F := Fence.wide) rfl (by decide) (gf := 104) (lb := #[.pointer (some ⟨Bs, 0, none⟩)]) hg trivial (enters_of Tryz.func104 (by kernel_rfl) rfl)
    (back_stops Fence.wide 2 trivial rfl (by decide) Bs ord v S w hBs hSB hSl hr) KpS.t (KpS.b hSl) (Below.refl _ _) (fun _ => rfl) I (fun _ _ _ => False) hI (fun _ _ _ _ _ hs _ _ => hs) h0
    (fun z => { tmps := ((tmps.setIfInBounds p1 (.int .i64 z.1.1)).setIfInBounds p2 (.int .i64 z.1.2)).setIfInBounds d1 (.int .i64 z.1.2), defers := [] }) ?assign hbody ?done ?stop)
  case assign =>
    intro l z W K hK
    refine wpIn_region_lit ?_
    have hp' : p2 < tmps.size := hp
    have e : (({ tmps := (tmps.setIfInBounds p1 (.int .i64 z.1.1)).setIfInBounds p2 (.int .i64 z.1.2), defers := [] } : Act).eval (.tmp p2)) = .int .i64 z.1.2 := by simp [Act.eval, hp']
    rw [show (#[p1, p2].zip (encAt z)).foldl (fun t (p, v) => t.setIfInBounds p v) tmps = (tmps.setIfInBounds p1 (.int .i64 z.1.1)).setIfInBounds p2 (.int .i64 z.1.2) by simp [encAt]]
    gi_wp2
    exact hK
  case done =>
    intro D xs W h1 h2 h3 h4
    exact hdone D xs W h1 h2 h3 h4
  case stop =>
    intro D c pre W _ _ h _
    exact h.elim
end Go.Proofs.YthfcbbdghggefaaGreat
namespace Go.Um
open Go.RowKit Go.Shelf
def marks (Ds : List Nat) : List Deferred := Ds.map fun D => { target := .collected D, args := #[] }
structure Taken (Ds : List Nat) (w w' : World) : Prop where
  os : w'.os = w.os
  tape : w'.tape = w.tape
  output : w'.output = w.output
  size : w'.heap.size = w.heap.size
  block : ∀ g, g ∉ Ds → w'.heap[g]? = w.heap[g]?
theorem leave_marks {P : Program} {F : Fence} {n : Nat} {fn : Func} {tmps : Array Value} {R : Ending → World → Prop} : ∀ (Ds : List Nat) (w : World), Ds.Pairwise (· > ·) → (∀ D ∈ Ds, w.heap[D]? = some (.deferred (some []))) →
    (∀ w', Taken Ds w w' → ∃ v, (results fn tmps).run P w' = .ok v w' ∧ R (.returned v) w') → LeavesInM F n P fn tmps R (marks Ds) .returning w
  | [], w, _, _, h => h w ⟨rfl, rfl, rfl, rfl, fun _ _ => rfl⟩
  | D :: Ds, w, hp, hd, h => by
    rw [List.pairwise_cons] at hp
    refine ⟨by simp, .inl ⟨D, _, rfl, run_takeDeferred (hd D List.mem_cons_self), ?_⟩⟩
    refine leave_marks Ds _ hp.2 (fun D' hD' => ?_) (fun w' hw' => h w' ⟨hw'.os, hw'.tape, hw'.output, hw'.size.trans (by simp), fun g hg => ?_⟩)
    · have := hp.1 D' hD'
      rw [World.putObj_heap_other (by omega)]
      exact hd D' (List.mem_cons_of_mem _ hD')
    · rw [List.mem_cons, not_or] at hg
      rw [hw'.block g hg.2, World.putObj_heap_other hg.1]
theorem KeptBut.ofRound {H : Nat} {p : Nat → Prop} {a b c : World} {row : Option Nat} (h : KeptBut H p a b) (hg : b.grownBy c row) (hH : H ≤ b.heap.size) (hr : ∀ r, row = some r → H ≤ r ∧ ∃ o : Obj, b.heap[r]? = some o ∧ o.isCells = false) : KeptBut H p a c :=
  h.grown hg hH fun g e => .inl (hr g e).1
end Go.Um
namespace Go.Proofs.YthfcbbdghggefaaGreat
open Go.Proofs Go.Um Go.RowKit Go.Shelf
set_option maxHeartbeats 1000000 in
theorem Backward_calls (A : Option Addr) (n c : Nat) (w : World) : Calls Tryz.prog 87 #[.slice A n c] w fun e w' => e = .returned (.func (.func 104) #[] #[.pointer (some ⟨w.heap.size, 0, none⟩)]) ∧ w' = w.alloc (.cells #[.slice A n c] 73) := by
  have hmf : ∀ (fn : Fn) (first cap : Array Value) (w : World), (Instr.makeFunc fn first cap).run Tryz.prog w = .ok (.func fn first cap) w := fun _ _ _ _ => rfl
  go_enter Tryz.func87, Tryz.ntmps87
  go_wp2_with fail
  go_ret
  exact ⟨rfl, rfl⟩
/-- where the fold over places has come to. -/
structure MainI (W8 : World) (H8 LV M AB j : Nat) (L : Nat → Bool) (Ds : List Nat) (w' : World) : Prop where
  kept : KeptBut H8 (fun g => g = LV) W8 w'
  row : w'.rowIs LV 4 M (fun i => .bool (L i))
  atb : w'.heap[AB]? = some (.cells #[.int .i64 j] 3)
  ds : Ds.Pairwise (· > ·) ∧ ∀ D ∈ Ds, H8 ≤ D ∧ D < w'.heap.size ∧ w'.heap[D]? = some (.deferred (some []))
  ab : AB + 1 = H8 ∨ H8 ≤ AB
def atMu (x : Nat) (a : Act) (w : World) : Nat :=
  match a.tmps.getD 12 undef with
  | Value.pointer (some p) => (match w.cell? p with
    | some (Value.int _ z) => (x - z).toNat
    | _ => 0)
  | _ => 0
end Go.Proofs.YthfcbbdghggefaaGreat
namespace Go.Proofs.YthfcbbdghggefaaGreat
open Go.Proofs Go.Um Go.RowKit
/-- one place's rules. -/
def stepE (E : Nat → Nat → Bool) (L : Nat → Bool) (q : Nat) : Nat → Bool := fun p => L p || (L q && E q p)
theorem fold_mono {E : Nat → Nat → Bool} : ∀ {P : List Nat} {L : Nat → Bool} {p : Nat}, L p = true → P.foldl (stepE E) L p = true
  | [], _, _, h => h
  | q :: P, L, p, h => fold_mono (P := P) (by unfold stepE; rw [h, Bool.true_or])
theorem fold_same {E : Nat → Nat → Bool} {q : Nat} : ∀ {P : List Nat} {L : Nat → Bool}, (∀ r ∈ P, E r q = false) → P.foldl (stepE E) L q = L q
  | [], _, _ => rfl
  | r :: P, L, h => by
    rw [List.foldl_cons, fold_same (P := P) fun r' hr' => h r' (List.mem_cons_of_mem _ hr')]
    unfold stepE
    rw [h r List.mem_cons_self, Bool.and_false, Bool.or_false]
theorem fold_closed {E : Nat → Nat → Bool} : ∀ {P : List Nat} {L : Nat → Bool}, P.Pairwise (fun q r => E r q = false) → ∀ {q p : Nat}, q ∈ P → P.foldl (stepE E) L q = true → E q p = true → P.foldl (stepE E) L p = true
  | r :: P, L, hp, q, p, hq, h, he => by
    rw [List.pairwise_cons] at hp
    rw [List.foldl_cons] at h ⊢
    rcases List.mem_cons.1 hq with rfl | hq'
    · rw [fold_same hp.1] at h
      refine fold_mono ?_
      have h1 : L q = true := by
        unfold stepE at h
        cases hl : L q with
        | true => rfl
        | false => rw [hl] at h; simp at h
      unfold stepE
      rw [h1, he]
      simp
    · exact fold_closed hp.2 hq' h he
theorem fold_sound {E : Nat → Nat → Bool} {T : Nat → Prop} (hE : ∀ q p, T q → E q p = true → T p) : ∀ {P : List Nat} {L : Nat → Bool}, (∀ p, L p = true → T p) → ∀ p, P.foldl (stepE E) L p = true → T p
  | [], _, h, p, hp => h p hp
  | q :: P, L, h, p, hp => by
    refine fold_sound hE (P := P) (L := stepE E L q) (fun p' hp' => ?_) p hp
    unfold stepE at hp'
    rw [Bool.or_eq_true, Bool.and_eq_true] at hp'
    rcases hp' with h1 | ⟨h1, h2⟩
    · exact h p' h1
    · exact hE q p' (h q h1) h2
/-- the rules from one place to another. -/
def edgeB (d : Desc) (x : List Int) (n q p : Nat) : Bool := d.rules.any fun r => decide (r.src = ((q % n : Nat) : Int)) && fitsB x r.guards (q / n) && decide (p = (q / n + r.eat.toNat) * n + r.dst.toNat)
def rowP1 (n a : Nat) (ord : List Int) : List Nat := ord.reverse.map fun s => a * n + s.toNat
def allP (n k : Nat) (ord : List Int) : List Nat := (List.range k).flatMap fun a => rowP1 n a ord
def liveF (d : Desc) (x : List Int) (n : Nat) (ord : List Int) (k : Nat) : Nat → Bool := (allP n k ord).foldl (stepE (edgeB d x n)) fun p => decide (p = d.start.toNat)
theorem liveF_succ (d : Desc) (x : List Int) (n : Nat) (ord : List Int) (k : Nat) : liveF d x n ord (k + 1) = (rowP1 n k ord).foldl (stepE (edgeB d x n)) (liveF d x n ord k) := by
  unfold liveF allP
  rw [List.range_succ, List.flatMap_append, List.foldl_append]
  simp
/-- what holds of a right description's rules. -/
structure RuleOk (d : Desc) (n : Nat) : Prop where
  st : d.states = n
  start : 0 ≤ d.start ∧ d.start < n
  rule : ∀ r ∈ d.rules, (0 ≤ r.src ∧ r.src < n) ∧ (0 ≤ r.dst ∧ r.dst < n) ∧ 0 ≤ r.eat ∧ r.eat ≤ r.guards.length ∧ (r.eat = 0 → r.guards = []) ∧ r.out.length ≤ 64 ∧ guardsF d.inn r.guards = true ∧ writesF d.inn d.out r.out r.guards = true
  final : ∀ f ∈ d.finals, (0 ≤ f.src ∧ f.src < n) ∧ f.out.length ≤ 64 ∧ guardsF d.inn f.guards = true ∧ writesF d.inn d.out f.out f.guards = true
theorem rule_ok {d : Desc} (h : (whereF d).1 = 0) : ∃ n : Nat, RuleOk d n ∧ 1 ≤ n ∧ n ≤ 1024 ∧ d.rules.length ≤ 4096 ∧ d.finals.length ≤ 4096 ∧ (d.inn = 1 ∨ d.inn = 2) ∧ (d.out = 1 ∨ d.out = 2) := by
  obtain ⟨h1, h2, h3, _⟩ := whereF_ok.1 h
  unfold headF stateF sortF at h1
  simp only [Bool.and_eq_true, decide_eq_true_eq] at h1
  obtain ⟨⟨⟨⟨⟨⟨a1, a2⟩, a3⟩, a4⟩, a5⟩, a6⟩, a7⟩ := h1
  refine ⟨d.states.toNat, ⟨by omega, by omega, fun r hr => ?_, fun f hf => ?_⟩, by omega, by omega, a6, a7, a1, a2⟩
  · have h4 := h2 r hr
    unfold ruleF stateF eatF at h4
    simp only [Bool.and_eq_true, decide_eq_true_eq] at h4
    obtain ⟨⟨⟨⟨b1, b2⟩, b3⟩, b4⟩, b5⟩ := h4
    have h5 : r.out.length ≤ 64 := by
      unfold writesF at b5
      simp only [Bool.and_eq_true, decide_eq_true_eq] at b5
      exact b5.1
    refine ⟨by omega, by omega, ?_, by omega, fun h0 => ?_, h5, b3, b5⟩
    · have := b4.1; split at this <;> omega
    · have := b4.1
      split at this
      · rename_i h6; exact List.eq_nil_of_length_eq_zero h6
      · omega
  · have h4 := h3 f hf
    unfold finalF stateF at h4
    simp only [Bool.and_eq_true, decide_eq_true_eq] at h4
    obtain ⟨⟨b1, b3⟩, b5⟩ := h4
    have h5 : f.out.length ≤ 64 := by
      unfold writesF at b5
      simp only [Bool.and_eq_true, decide_eq_true_eq] at b5
      exact b5.1
    exact ⟨by omega, h5, b3, b5⟩
theorem code_div {n a s : Nat} (hs : s < n) : (a * n + s) / n = a ∧ (a * n + s) % n = s := by
  constructor
  · rw [Nat.mul_comm, Nat.mul_add_div (by omega), Nat.div_eq_of_lt hs, Nat.add_zero]
  · rw [Nat.mul_comm, Nat.mul_add_mod, Nat.mod_eq_of_lt hs]
theorem reach_in {d : Desc} {n : Nat} (h : RuleOk d n) {x : List Int} {a : Nat} {s : Int} (hr : Reach d x a s) : a ≤ x.length ∧ 0 ≤ s ∧ s < n := by
  induction hr with
  | start => exact ⟨Nat.zero_le _, h.start⟩
  | step r _ hr hs hx ih =>
    obtain ⟨_, h2, h3, h4, _⟩ := h.rule r hr
    have := hx.1
    refine ⟨by omega, h2⟩
theorem edgeB_iff {d : Desc} {x : List Int} {n a s p : Nat} (hs : s < n) : edgeB d x n (a * n + s) p = true ↔ ∃ r ∈ d.rules, r.src = (s : Int) ∧ fitsX x r.guards a ∧ p = (a + r.eat.toNat) * n + r.dst.toNat := by
  obtain ⟨h1, h2⟩ := code_div (a := a) hs
  unfold edgeB
  rw [List.any_eq_true, h1, h2]
  simp only [Bool.and_eq_true, decide_eq_true_eq, fitsB_iff, and_assoc]
theorem all_mem {n k : Nat} {ord : List Int} {a s : Nat} (ha : a < k) (hs : (s : Int) ∈ ord) : a * n + s ∈ allP n k ord := by
  unfold allP rowP1
  rw [List.mem_flatMap]
  exact ⟨a, List.mem_range.2 ha, List.mem_map.2 ⟨s, List.mem_reverse.2 hs, by simp⟩⟩
theorem code_inj {n a b s t : Nat} (hs : s < n) (ht : t < n) (h : a * n + s = b * n + t) : a = b ∧ s = t := by
  obtain ⟨h1, h2⟩ := code_div (a := a) hs
  obtain ⟨h3, h4⟩ := code_div (a := b) ht
  rw [h] at h1 h2
  exact ⟨h1.symm.trans h3, h2.symm.trans h4⟩
theorem pairwise_all {d : Desc} {n : Nat} (h : RuleOk d n) {x : List Int} {ord : List Int} (ho : Ord d ord) (hm : ∀ t ∈ ord, ∃ k : Nat, t = k ∧ k < n) (k : Nat) : (allP n k ord).Pairwise fun q r => edgeB d x n r q = false := by
  unfold allP
  rw [List.pairwise_flatMap]
  constructor
  · intro a _
    unfold rowP1
    rw [List.pairwise_map, List.pairwise_reverse]
    rw [List.pairwise_iff_getElem]
    intro i j hi hj hij
    obtain ⟨s, hs, hsn⟩ := hm ord[i] (List.getElem_mem _)
    obtain ⟨t, ht, htn⟩ := hm ord[j] (List.getElem_mem _)
    rw [hs, ht, Int.toNat_natCast, Int.toNat_natCast]
    cases he : edgeB d x n (a * n + s) (a * n + t) with
    | false => rfl
    | true =>
      exfalso
      obtain ⟨r, hr, h1, h2, h3⟩ := (edgeB_iff hsn).1 he
      obtain ⟨_, h5, h6, h7, h8, _⟩ := h.rule r hr
      obtain ⟨e1, e2⟩ := code_inj htn (by omega) h3
      have h9 := h8 (by omega)
      have h10 : ord[i]? = some (s : Int) := by rw [List.getElem?_eq_getElem hi, hs]
      obtain ⟨j', hj', hj2⟩ := ho.eps i s t h10 ⟨r, hr, h9, h1, by omega⟩
      have h11 : ord[j]? = some (t : Int) := by rw [List.getElem?_eq_getElem hj, ht]
      have hj'l := (List.getElem?_eq_some_iff.1 hj2).1
      have := (List.getElem?_inj hj'l ho.nd).1 (hj2.trans h11.symm)
      omega
  · rw [List.pairwise_iff_getElem]
    intro i j hi hj hij q hq r hr
    simp only [List.length_range] at hi hj
    rw [List.getElem_range] at hq hr
    unfold rowP1 at hq hr
    obtain ⟨t, ht, rfl⟩ := List.mem_map.1 hq
    obtain ⟨s, hs, rfl⟩ := List.mem_map.1 hr
    obtain ⟨t, rfl, htn⟩ := hm t (List.mem_reverse.1 ht)
    obtain ⟨s, rfl, hsn⟩ := hm s (List.mem_reverse.1 hs)
    rw [Int.toNat_natCast, Int.toNat_natCast]
    cases he : edgeB d x n (j * n + s) (i * n + t) with
    | false => rfl
    | true =>
      exfalso
      obtain ⟨r, hr, h1, h2, h3⟩ := (edgeB_iff hsn).1 he
      obtain ⟨_, h5, h6, h7, h8, _⟩ := h.rule r hr
      obtain ⟨e1, e2⟩ := code_inj htn (by omega) h3
      omega
/-- the fold says which places come. -/
theorem live_iff {d : Desc} {n : Nat} (h : RuleOk d n) {x : List Int} {ord : List Int} (ho : Ord d ord) (hm : ∀ t ∈ ord, ∃ k : Nat, t = k ∧ k < n) (hall : ∀ s : Nat, s < n → (s : Int) ∈ ord) {a s : Nat} (hs : s < n) :
    liveF d x n ord (x.length + 1) (a * n + s) = true ↔ Reach d x a s := by
  constructor
  · intro hl
    have : ∀ p, liveF d x n ord (x.length + 1) p = true → ∃ a s : Nat, s < n ∧ p = a * n + s ∧ Reach d x a s := by
      refine fold_sound (fun q p hq he => ?_) (fun p hp => ?_)
      · obtain ⟨a, s, hs, rfl, hR⟩ := hq
        obtain ⟨r, hr, h1, h2, rfl⟩ := (edgeB_iff hs).1 he
        obtain ⟨_, h5, _⟩ := h.rule r hr
        refine ⟨a + r.eat.toNat, r.dst.toNat, by omega, rfl, ?_⟩
        have := Reach.step r hR hr h1 h2
        rwa [show ((r.dst.toNat : Nat) : Int) = r.dst by omega]
      · rw [decide_eq_true_eq] at hp
        have := h.start
        refine ⟨0, d.start.toNat, by omega, by omega, ?_⟩
        rw [show ((d.start.toNat : Nat) : Int) = d.start by omega]
        exact Reach.start
    obtain ⟨a', s', h1, h2, h3⟩ := this _ hl
    obtain ⟨rfl, rfl⟩ := code_inj hs h1 h2
    exact h3
  · intro hR
    have key : ∀ {a : Nat} {s : Int}, Reach d x a s → liveF d x n ord (x.length + 1) (a * n + s.toNat) = true := by
      intro a s hR
      induction hR with
      | start =>
        refine fold_mono ?_
        simp
      | @step a s r h1 hr hs' hx ih =>
        obtain ⟨h4, h5, h6⟩ := reach_in h h1
        have hsn : s.toNat < n := by omega
        have hmem : a * n + s.toNat ∈ allP n (x.length + 1) ord := all_mem (by omega) (hall _ hsn)
        refine fold_closed (pairwise_all h ho hm _) hmem ih ((edgeB_iff hsn).2 ⟨r, hr, by omega, hx, rfl⟩)
    have := key hR
    rwa [Int.toNat_natCast] at this
/-- what is written of a place is never too long. -/
theorem run_len {d : Desc} {n : Nat} (h : RuleOk d n) (hn : n ≤ 1024) {ρ : Int → Nat} (hb : ∀ t, ρ t ≤ n + 1) (hρ : ∀ r ∈ d.rules, r.guards = [] → ρ r.dst < ρ r.src) {x : List Int} {a : Nat} {s : Int} {w : List Int} (hr : Run d x a s w) (ha : a ≤ x.length) :
    w.length ≤ 64 * ((x.length - a) * 1026 + ρ s + 1) := by
  induction hr with
  | fin f hf hs hl hx hw =>
    subst hw
    have := (h.final f hf).2.1
    unfold writesV
    rw [List.length_map]
    omega
  | @step a s w u r hr hs hx h' hw ih =>
    obtain ⟨_, _, h3, h4, h5, h6, _⟩ := h.rule r hr
    have hfit := hx.1
    have ih := ih (by omega)
    subst hw
    unfold writesV
    rw [List.length_append, List.length_map]
    have hbd := hb r.dst
    by_cases he : r.eat = 0
    · have h7 := hρ r hr (h5 he)
      rw [hs] at h7
      rw [he] at ih
      simp only [Int.toNat_zero, Nat.add_zero] at ih
      omega
    · have h8 : 1 ≤ r.eat.toNat := by omega
      have h9 : (x.length - (a + r.eat.toNat)) * 1026 + 1026 ≤ (x.length - a) * 1026 := by
        have : x.length - a = (x.length - (a + r.eat.toNat)) + r.eat.toNat := by omega
        rw [this, Nat.add_mul]
        omega
      omega
end Go.Proofs.YthfcbbdghggefaaGreat
