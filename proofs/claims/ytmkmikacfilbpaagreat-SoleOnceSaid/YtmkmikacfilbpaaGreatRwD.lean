/-
  Words of which each stands once: slices.CompactFunc.
-/
import Derived.Test.YtmkmikacfilbpaaGreatRwC
import Derived.Deep.OwnRows
import Derived.Lib.LazyBuf
import Derived.Lib.SliceRun
namespace Go.Um
open Go.RowKit
def keepB (ms : List (List Int)) (j : Nat) : Bool := j == 0 || ms[j]? != ms[j - 1]?
def keepL (ms : List (List Int)) (k : Nat) : List Nat := (List.range k).filter (keepB ms)
theorem keepL_succ (ms : List (List Int)) (k : Nat) : keepL ms (k + 1) = keepL ms k ++ if keepB ms k = true then [k] else [] := by
  unfold keepL
  rw [List.range_succ, List.filter_append]
  simp [List.filter_cons]
theorem keepL_all {ms : List (List Int)} {k : Nat} (h : ∀ j, j < k → keepB ms j = true) : keepL ms k = List.range k := by
  unfold keepL
  rw [List.filter_eq_self]
  exact fun j hj => h j (List.mem_range.1 hj)
theorem keepL_le (ms : List (List Int)) (k : Nat) : (keepL ms k).length ≤ k := by
  have := List.length_filter_le (keepB ms) (List.range k)
  simpa [keepL] using this
theorem keepL_lt {ms : List (List Int)} {k j i : Nat} (h : (keepL ms k)[j]? = some i) : i < k := by
  have := List.mem_of_getElem? h
  exact List.mem_range.1 (List.mem_filter.1 this).1
theorem grown_trans {w w1 w2 : World} {row : Option Nat} (h : w.grownBy w1 row) (h2 : w1.grownBy w2 row) : w.grownBy w2 row :=
  ⟨h2.os.trans h.os, h2.tape.trans h.tape, h2.output.trans h.output, Nat.le_trans h.size h2.size, fun k hk hne => (h2.block k (Nat.lt_of_lt_of_le hk h.size) hne).trans (h.block k hk hne)⟩
theorem grown_drewN (w : World) (q : Nat) (row : Option Nat) : w.grownBy (w.drewN q) row := ⟨rfl, rfl, rfl, Nat.le_refl _, fun _ _ _ => rfl⟩
theorem grown_set (w : World) (G j : Nat) (u : Value) : w.grownBy (w.setCell ⟨G, j, none⟩ u) (some G) :=
  ⟨rfl, rfl, rfl, by simp, fun k _ hk => heap_setCell_other w ⟨G, j, none⟩ k u (fun e => hk (by rw [e]))⟩
theorem grown_sets (G : Nat) : ∀ (vs : List Value) (o : Nat) (w : World), w.grownBy (w.setCells G o vs) (some G)
  | [], _, w => grown_drewN w 0 _
  | v :: vs, o, w => grown_trans (grown_set w G o v) (grown_sets G vs (o + 1) _)
end Go.Um
namespace Go.Proofs.YtmkmikacfilbpaaGreat
open Go.RowKit Go.Um Go.Proofs
theorem beq_words {a b : Option (List Int)} : (a != b) = !(a == b) := rfl
def CompPost (G n : Nat) (f : Nat → Value) (ms : List (List Int)) (w : World) (e : Ending) (w' : World) : Prop := ∃ f', e = .returned (.slice (some ⟨G, 0, none⟩) (keepL ms n).length n) ∧ w'.rowIs G 27 n f' ∧ (∀ j i, (keepL ms n)[j]? = some i → f' j = f i) ∧ w.grownBy w' (some G)
def CompI (G n : Nat) (f : Nat → Value) (ms : List (List Int)) (w : World) (m kk : Nat) (wr : World) : Prop := kk = (keepL ms m).length ∧ kk < m ∧ ∃ f', wr.rowIs G 27 n f' ∧ (∀ j i, (keepL ms m)[j]? = some i → f' j = f i) ∧ (∀ j, kk ≤ j → f' j = f j) ∧ w.grownBy wr (some G)
theorem CompI.skip {G n : Nat} {f : Nat → Value} {ms : List (List Int)} {w : World} {m kk : Nat} {wr : World} (h : CompI G n f ms w m kk wr) (hb : keepB ms m = false) (q : Nat) : CompI G n f ms w (m + 1) kk (wr.drewN q) := by
  obtain ⟨h1, h2, f', h3, h4, h5, h6⟩ := h
  have e : keepL ms (m + 1) = keepL ms m := by rw [keepL_succ, if_neg (by rw [hb]; simp), List.append_nil]
  exact ⟨by rw [e]; exact h1, by omega, f', h3, by rw [e]; exact h4, h5, grown_trans h6 (grown_drewN _ _ _)⟩
theorem CompI.keep {G n : Nat} {f : Nat → Value} {ms : List (List Int)} {w : World} {m kk : Nat} {wr : World} (h : CompI G n f ms w m kk wr) (hb : keepB ms m = true) (q : Nat) : CompI G n f ms w (m + 1) (kk + 1) ((wr.drewN q).setCell ⟨G, kk, none⟩ (f m)) := by
  obtain ⟨h1, h2, f', h3, h4, h5, h6⟩ := h
  have e : keepL ms (m + 1) = keepL ms m ++ [m] := by rw [keepL_succ, if_pos hb]
  have h3' : (wr.drewN q).rowIs G 27 n f' := h3
  refine ⟨by rw [e, List.length_append, h1]; rfl, by omega, _, h3'.set kk (f m), fun j i hj => ?_, fun j hj => ?_, grown_trans (grown_trans h6 (grown_drewN _ q _)) (grown_set _ _ _ _)⟩
  · rw [e] at hj
    show (if j = kk then f m else f' j) = f i
    by_cases hjk : j = kk
    · rw [if_pos hjk]
      rw [hjk, h1, List.getElem?_append_right (Nat.le_refl _), Nat.sub_self] at hj
      simp at hj
      rw [hj]
    · rw [if_neg hjk]
      have hjl := (List.getElem?_eq_some_iff.1 hj).1
      rw [List.length_append, List.length_singleton] at hjl
      rw [List.getElem?_append_left (by omega)] at hj
      exact h4 j i hj
  · show (if j = kk then f m else f' j) = f j
    rw [if_neg (by omega)]
    exact h5 j (by omega)
theorem CompI.done {G n : Nat} {f : Nat → Value} {ms : List (List Int)} {w : World} {kk : Nat} {wr : World} (h : CompI G n f ms w n kk wr) {e : Ending} (he : e = .returned (.slice (some ⟨G, 0, none⟩) kk n)) : CompPost G n f ms w e (wr.setCells G kk (List.replicate (n - kk) (.slice none 0 0))) := by
  obtain ⟨h1, h2, f', h3, h4, h5, h6⟩ := h
  refine ⟨_, by rw [he, h1], Go.rowIs_setCells _ kk _ _ h3, fun j i hj => ?_, grown_trans h6 (grown_sets _ _ _ _)⟩
  have hjl := (List.getElem?_eq_some_iff.1 hj).1
  show (if kk ≤ j ∧ _ then _ else f' j) = f i
  rw [if_neg (by omega)]
  exact h4 j i hj
set_option maxHeartbeats 2000000 in
set_option maxRecDepth 100000 in
theorem Compact_calls (G n : Nat) (f : Nat → Value) (ms : List (List Int)) (w : World) (hR : w.rowIs G 27 n f) (hf : ∀ i, i < n → ∃ A m c, f i = .slice A m c) (hn : n ≤ 1000000000)
    (hq : ∀ (W : World) (i j : Nat), w.grownBy W (some G) → i < n → j < n → Calls Tryz.prog 97 #[f i, f j] W fun e w' => e = .returned (.bool (ms[i]? == ms[j]?)) ∧ ∃ q, w' = W.drewN q) :
    Calls Tryz.prog 96 #[.slice (some ⟨G, 0, none⟩) n n, .func (.func 97) #[] #[]] w fun e w' => CompPost G n f ms w e w' := by
  have hall : Hid ((∀ j, j < n → keepB ms j = true) → (keepL ms n).length = n ∧ ∀ j i, (keepL ms n)[j]? = some i → f j = f i) := hid fun h => by
    rw [keepL_all h]
    refine ⟨List.length_range, fun j i hj => ?_⟩
    have hjn := (List.getElem?_eq_some_iff.1 hj).1
    rw [List.getElem?_range (by simpa using hjn)] at hj
    injection hj with hj
    rw [hj]
  have HR := hid hR
  by_cases h2 : n < 2
  · have h2' : (n : Int) < 2 := by omega
    have hk := hid (hall.out fun j hj => by
      have : j = 0 := by omega
      subst this
      rfl)
    clear hf hq hall hR
    go_enter Tryz.func96, Tryz.ntmps96
    go_wp2_with fail
    go_ret
    exact ⟨f, by rw [hk.out.1]; rfl, HR.out, hk.out.2, grown_drewN w 0 _⟩
  · have h2' : ¬ (n : Int) < 2 := by omega
    have HF := hid hf
    have HQ0 := hid hq
    clear hf hq hR
    go_enter Tryz.func96, Tryz.ntmps96
    go_wp2_with fail
    go_loopw [5] (fun vi wr => ∃ k q : Nat, k + 1 ≤ n ∧ vi = .int .i64 ((k : Int) + 1) ∧ (∀ j, j < k + 1 → keepB ms j = true) ∧ wr = w.drewN q) (fun vi _ => n - (intOf vi).toNat)
    case atStart => exact ⟨0, 0, by omega, rfl, fun j hj => by (have : j = 0 := by omega); subst this; rfl, rfl⟩
    case round =>
      obtain ⟨k, q, hk, rfl, hkp, rfl⟩ := hrel
      have HK := hid hkp
      clear hkp
      by_cases hlt : k + 1 < n
      · have hlt' : (k : Int) + 1 < n := by omega
        have c1 := HR.out.cell hlt
        have c0 := HR.out.cell (show k < n by omega)
        obtain ⟨t, ht⟩ : ∃ t, t = (ms[k + 1]? == ms[k]?) := ⟨_, rfl⟩
        have HQ : Hid (∀ W : World, w.grownBy W (some G) → Calls Tryz.prog 97 #[f (k + 1), f k] W fun e w' => e = .returned (.bool t) ∧ ∃ q, w' = W.drewN q) := hid fun W hW => by
          have := HQ0.out W (k + 1) k hW hlt (by omega)
          rwa [← ht] at this
        have HB : Hid (keepB ms (k + 1) = !t) := hid (by rw [ht]; unfold keepB; simp [beq_words])
        obtain ⟨A1, m1, d1, hf1⟩ := HF.out _ hlt
        obtain ⟨A0, m0, d0, hf0⟩ := HF.out k (by omega)
        rw [hf1] at c1 HQ
        rw [hf0] at c0 HQ
        clear ht hf1 hf0
        go_wp2_with fail
        obtain ⟨ι, Wc, ⟨i0, hi0'⟩, hWc, Wsur⟩ := held_class (w.drewN q).drew (fun q => q = G)
        have hne : Nonempty ι := ⟨i0⟩
        have WS := hid Wsur; clear Wsur
        have HWc := hid hWc; clear hWc
        have Hi0 := hid hi0'; clear hi0'
        have q1 : ∀ i, (Wc i).cell? ⟨G, k + 1, none⟩ = some (.slice A1 m1 d1) := fun i => (World.cell?_of_block (a := ⟨G, k + 1, none⟩) (HWc.out i G rfl)).trans c1
        have q2 : ∀ i, (Wc i).cell? ⟨G, k, none⟩ = some (.slice A0 m0 d0) := fun i => (World.cell?_of_block (a := ⟨G, k, none⟩) (HWc.out i G rfl)).trans c0
        refine region_anyL (S := fun w' => ∃ i, w' = Wc i) (last := 12) (by kernel_rfl) ?_
        refine anyL_seg 0 10 (by kernel_rfl) (fun _ _ _ _ _ h => h) ⟨i0, Hi0.out.symm⟩ (f := 1) rfl (by kernel_rfl) (by kernel_rfl) ?_
        simp only [List.drop_zero, List.take_succ_cons, List.take_zero]
        repeat go_big_quiet_step (fail)
        refine wpQuiet_nil ?_
        refine anyL_act (i := 10) (by kernel_rfl) rfl rfl ?_
        intro K hK
        go_wp2_with fail
        refine (HQ.out (w.drewN q).drew (grown_drewN w (q + 1) _)).mono ?_
        rintro e w2 ⟨rfl, q3, rfl⟩
        have hS2 : ∃ i, (w.drewN q).drew.drewN q3 = Wc i := WS.out _ (fun q hq => rfl)
        go_wp2_with fail
        refine hK.out _ _ (fun _ => WS.out _ (fun q hq => rfl)) ?_
        clear hK K
        refine anyL_done (by kernel_rfl) ?_ 0
        clear q1 q2 hS2 WS HWc Hi0 hne i0 Wc ι
        cases t with
        | false =>
          go_wp2_with fail
          refine ⟨⟨k + 1, _, by omega, by go_num, fun j hj => ?_, rfl⟩, ?_⟩
          · by_cases e : j = k + 1
            · subst e
              rw [HB.out]; rfl
            · exact HK.out j (by omega)
          · simp [intOf]; omega
        | true =>
          have HI0 : Hid (CompI G n f ms w (k + 1 + 0 + 1) (k + 1) (w.drewN (q + 1 + q3))) := hid (by
            have e : keepL ms (k + 1 + 0 + 1) = List.range (k + 1) := by
              rw [Nat.add_zero, keepL_succ, HB.out, keepL_all HK.out]
              simp
            refine ⟨by rw [e, List.length_range], by omega, f, HR.out, fun j i hj => ?_, fun _ _ => rfl, grown_drewN _ _ _⟩
            rw [e] at hj
            have hjn := (List.getElem?_eq_some_iff.1 hj).1
            rw [List.getElem?_range (by simpa using hjn)] at hj
            injection hj with hj
            rw [hj])
          clear HQ c1 c0
          go_wp2_with fail
          go_loopw [5, 7] (fun v5 v7 wr => ∃ kk p : Nat, v5 = .int .i64 kk ∧ v7 = .int .i64 ((p : Int) + 1) ∧ k + 1 + p + 1 ≤ n ∧ CompI G n f ms w (k + 1 + p + 1) kk wr) (fun _ v7 _ => n - (intOf v7).toNat)
          case atStart => exact ⟨k + 1, 0, by go_num, rfl, by omega, HI0.out⟩
          case round =>
            obtain ⟨kk, p, rfl, rfl, hp, hI⟩ := hrel
            obtain ⟨wo, hwo⟩ : ∃ wo, wo = wr := ⟨_, rfl⟩
            subst hwo
            have HI := hid hI
            obtain ⟨hkk, hkm, f', hR', hk', hh', hg⟩ := hI
            have hck := hR'.cell (show kk < n by omega)
            have hfk := hR'.frozen kk
            by_cases hlt2 : k + 1 + p + 1 < n
            · have hlt2' : (p : Int) + 1 < ((n - (k + 1) : Nat) : Int) := by omega
              have c1 := hR'.cell hlt2
              have c0 := hR'.cell (show k + 1 + p < n by omega)
              rw [hh' _ (by omega)] at c1 c0
              rw [Nat.add_assoc (k + 1) p 1] at c1
              obtain ⟨t2, ht⟩ : ∃ t, t = (ms[k + 1 + p + 1]? == ms[k + 1 + p]?) := ⟨_, rfl⟩
              have HQ : Hid (∀ W : World, w.grownBy W (some G) → Calls Tryz.prog 97 #[f (k + 1 + p + 1), f (k + 1 + p)] W fun e w' => e = .returned (.bool t2) ∧ ∃ q, w' = W.drewN q) := hid fun W hW => by
                have := HQ0.out W (k + 1 + p + 1) (k + 1 + p) hW hlt2 (by omega)
                rwa [← ht] at this
              have HB2 : Hid (keepB ms (k + 1 + p + 1) = !t2) := hid (by rw [ht]; unfold keepB; simp [beq_words])
              obtain ⟨A1, m1, d1, hf1⟩ := HF.out _ hlt2
              obtain ⟨A0, m0, d0, hf0⟩ := HF.out (k + 1 + p) (by omega)
              have HK2 : Hid (keepB ms (k + 1 + p + 1) = true → ∀ q, CompI G n f ms w (k + 1 + p + 1 + 1) (kk + 1) ((wo.drewN q).setCell ⟨G, kk, none⟩ (.slice A1 m1 d1))) := hid fun hb q => by
                have := HI.out.keep hb q
                rwa [hf1] at this
              have hf1' : f (k + 1 + (p + 1)) = .slice A1 m1 d1 := hf1
              rw [hf1'] at c1
              rw [hf1] at HQ
              rw [hf0] at c0 HQ
              have HGo := hid hg
              have hkn : kk < n := by omega
              clear ht hf1 hf0 hf1' hk' hh' hR' hg hkk
              go_wp2_with fail
              obtain ⟨ι, Wc, ⟨i0, hi0'⟩, hWc, Wsur⟩ := held_class wo.drew (fun q => q = G)
              have hne : Nonempty ι := ⟨i0⟩
              have WS := hid Wsur; clear Wsur
              have HWc := hid hWc; clear hWc
              have Hi0 := hid hi0'; clear hi0'
              have q1 : ∀ i, (Wc i).cell? ⟨G, k + 1 + (p + 1), none⟩ = some (.slice A1 m1 d1) := fun i => (World.cell?_of_block (a := ⟨G, k + 1 + (p + 1), none⟩) (HWc.out i G rfl)).trans c1
              have q2 : ∀ i, (Wc i).cell? ⟨G, k + 1 + p, none⟩ = some (.slice A0 m0 d0) := fun i => (World.cell?_of_block (a := ⟨G, k + 1 + p, none⟩) (HWc.out i G rfl)).trans c0
              refine region_anyL (S := fun w' => ∃ i, w' = Wc i) (last := 12) (by kernel_rfl) ?_
              refine anyL_seg 0 10 (by kernel_rfl) (fun _ _ _ _ _ h => h) ⟨i0, Hi0.out.symm⟩ (f := 2) rfl (by kernel_rfl) (by kernel_rfl) ?_
              simp only [List.drop_zero, List.take_succ_cons, List.take_zero]
              repeat go_big_quiet_step (fail)
              refine wpQuiet_nil ?_
              refine anyL_act (i := 10) (by kernel_rfl) rfl rfl ?_
              intro K hK
              go_wp2_with fail
              refine (HQ.out wo.drew (grown_trans HGo.out (grown_drewN wo 1 _))).mono ?_
              rintro e w2 ⟨rfl, q3, rfl⟩
              have hS2 : ∃ i, wo.drew.drewN q3 = Wc i := WS.out _ (fun q hq => rfl)
              go_wp2_with fail
              refine hK.out _ _ (fun _ => WS.out _ (fun q hq => rfl)) ?_
              clear hK K
              refine anyL_seg 11 1 (by kernel_rfl) (fun _ _ _ _ _ h => h) (WS.out (wo.drewN (1 + q3)) (fun q hq => rfl)) (f := 0) rfl (by kernel_rfl) (by kernel_rfl) ?_
              simp only [List.drop_succ_cons, List.drop_zero, List.take_succ_cons, List.take_zero]
              repeat go_big_quiet_step (fail)
              refine wpQuiet_nil ?_
              refine anyL_done (by kernel_rfl) ?_ 0
              clear q1 q2 hS2 WS HWc Hi0 hne i0 Wc ι
              cases t2 with
              | true =>
                go_wp2_with fail
                refine ⟨⟨kk, p + 1, rfl, by go_num, by omega, HI.out.skip HB2.out _⟩, ?_⟩
                simp [intOf]; omega
              | false =>
                go_wp2_with fail
                refine ⟨⟨kk + 1, p + 1, by go_num, by go_num, by omega, HK2.out HB2.out _⟩, ?_⟩
                simp [intOf]; omega
            · obtain rfl : n = k + 1 + p + 1 := by omega
              have hcl : ∀ ty, (Builtin.clear_ #[33] ty #[.slice (some ⟨G, kk, none⟩) (k + 1 + p + 1 - kk) (k + 1 + p + 1 - kk)]).run Tryz.prog wo = .ok (.tuple #[]) (wo.setCells G kk (List.replicate (k + 1 + p + 1 - kk) (.slice none 0 0))) := fun ty =>
                Lib.run_clear_slice wo _ 27 ty _ Tryz.underlying33 (fun W => by kernel_rfl) rfl rfl G kk _ _ (by omega) (fun j hj => by rw [hR'.cell (by omega)]; rfl) (fun j _ => hR'.frozen _)
              clear hk' hh' hR' hg hkk
              go_wp2_with fail
              go_ret
              exact HI.out.done rfl
      · obtain rfl : n = k + 1 := by omega
        have hk2 := hid (hall.out fun j hj => HK.out j (by omega))
        clear hlt
        go_wp2_with fail
        go_ret
        exact ⟨f, by rw [hk2.out.1]; rfl, HR.out, hk2.out.2, grown_drewN w _ _⟩
end Go.Proofs.YtmkmikacfilbpaaGreat
