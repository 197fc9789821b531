/-
  Words of which each stands once: slices.CompactFunc. Words as the other texts tell them: cells of memory; which of two comes first. The library's sort of a row of words. No more than that is told here. word.Sort, as the other texts tell it.
-/
import Derived.Test.YtofcjmjokokajaaGreatQaa
import Derived.Test.YtofcjmjokokajaaGreatQp
import Derived.Deep.OwnRows
import Derived.Lib.LazyBuf
import Derived.Lib.SliceRun
import Derived.Shelf.SlSortCmp.Whole1
namespace Go.Um
open Go.RowKit
def keepB (ms : List (List Int)) (j : Nat) : Bool := j == 0 || ms[j]? != ms[j - 1]?
def keepL (ms : List (List Int)) (k : Nat) : List Nat := (List.range k).filter (keepB ms)
theorem keepL_succ (ms : List (List Int)) (k : Nat) : keepL ms (k + 1) = keepL ms k ++ if keepB ms k = true then [k] else [] := by
  unfold keepL
  rw [List.range_succ, List.filter_append]
  simp [List.filter_cons]
theorem keepL_all {ms : List (List Int)} {k : Nat} (h : ∀ j, j < k → keepB ms j = true) : keepL ms k = List.range k := by
  unfold keepL
  rw [List.filter_eq_self]
  exact fun j hj => h j (List.mem_range.1 hj)
theorem keepL_le (ms : List (List Int)) (k : Nat) : (keepL ms k).length ≤ k := by
  have := List.length_filter_le (keepB ms) (List.range k)
  simpa [keepL] using this
theorem keepL_lt {ms : List (List Int)} {k j i : Nat} (h : (keepL ms k)[j]? = some i) : i < k := by
  have := List.mem_of_getElem? h
  exact List.mem_range.1 (List.mem_filter.1 this).1
theorem grown_trans {w w1 w2 : World} {row : Option Nat} (h : w.grownBy w1 row) (h2 : w1.grownBy w2 row) : w.grownBy w2 row :=
  ⟨h2.os.trans h.os, h2.tape.trans h.tape, h2.output.trans h.output, Nat.le_trans h.size h2.size, fun k hk hne => (h2.block k (Nat.lt_of_lt_of_le hk h.size) hne).trans (h.block k hk hne)⟩
theorem grown_drewN (w : World) (q : Nat) (row : Option Nat) : w.grownBy (w.drewN q) row := ⟨rfl, rfl, rfl, Nat.le_refl _, fun _ _ _ => rfl⟩
theorem grown_set (w : World) (G j : Nat) (u : Value) : w.grownBy (w.setCell ⟨G, j, none⟩ u) (some G) :=
  ⟨rfl, rfl, rfl, by simp, fun k _ hk => heap_setCell_other w ⟨G, j, none⟩ k u (fun e => hk (by rw [e]))⟩
theorem grown_sets (G : Nat) : ∀ (vs : List Value) (o : Nat) (w : World), w.grownBy (w.setCells G o vs) (some G)
  | [], _, w => grown_drewN w 0 _
  | v :: vs, o, w => grown_trans (grown_set w G o v) (grown_sets G vs (o + 1) _)
end Go.Um
namespace Go.Proofs.YtofcjmjokokajaaGreat
open Go.RowKit Go.Um Go.Proofs Go.Vm
theorem beq_words {a b : Option (List Int)} : (a != b) = !(a == b) := rfl
def CompPost (G n : Nat) (f : Nat → Value) (ms : List (List Int)) (w : World) (e : Ending) (w' : World) : Prop := ∃ f', e = .returned (.slice (some ⟨G, 0, none⟩) (keepL ms n).length n) ∧ w'.rowIs G 37 n f' ∧ (∀ j i, (keepL ms n)[j]? = some i → f' j = f i) ∧ w.grownBy w' (some G)
def CompI (G n : Nat) (f : Nat → Value) (ms : List (List Int)) (w : World) (m kk : Nat) (wr : World) : Prop := kk = (keepL ms m).length ∧ kk < m ∧ ∃ f', wr.rowIs G 37 n f' ∧ (∀ j i, (keepL ms m)[j]? = some i → f' j = f i) ∧ (∀ j, kk ≤ j → f' j = f j) ∧ w.grownBy wr (some G)
theorem CompI.skip {G n : Nat} {f : Nat → Value} {ms : List (List Int)} {w : World} {m kk : Nat} {wr : World} (h : CompI G n f ms w m kk wr) (hb : keepB ms m = false) (q : Nat) : CompI G n f ms w (m + 1) kk (wr.drewN q) := by
  obtain ⟨h1, h2, f', h3, h4, h5, h6⟩ := h
  have e : keepL ms (m + 1) = keepL ms m := by rw [keepL_succ, if_neg (by rw [hb]; simp), List.append_nil]
  exact ⟨by rw [e]; exact h1, by omega, f', h3, by rw [e]; exact h4, h5, grown_trans h6 (grown_drewN _ _ _)⟩
theorem CompI.keep {G n : Nat} {f : Nat → Value} {ms : List (List Int)} {w : World} {m kk : Nat} {wr : World} (h : CompI G n f ms w m kk wr) (hb : keepB ms m = true) (q : Nat) : CompI G n f ms w (m + 1) (kk + 1) ((wr.drewN q).setCell ⟨G, kk, none⟩ (f m)) := by
  obtain ⟨h1, h2, f', h3, h4, h5, h6⟩ := h
  have e : keepL ms (m + 1) = keepL ms m ++ [m] := by rw [keepL_succ, if_pos hb]
  have h3' : (wr.drewN q).rowIs G 37 n f' := h3
  refine ⟨by rw [e, List.length_append, h1]; rfl, by omega, _, h3'.set kk (f m), fun j i hj => ?_, fun j hj => ?_, grown_trans (grown_trans h6 (grown_drewN _ q _)) (grown_set _ _ _ _)⟩
  · rw [e] at hj
    show (if j = kk then f m else f' j) = f i
    by_cases hjk : j = kk
    · rw [if_pos hjk]
      rw [hjk, h1, List.getElem?_append_right (Nat.le_refl _), Nat.sub_self] at hj
      simp at hj
      rw [hj]
    · rw [if_neg hjk]
      have hjl := (List.getElem?_eq_some_iff.1 hj).1
      rw [List.length_append, List.length_singleton] at hjl
      rw [List.getElem?_append_left (by omega)] at hj
      exact h4 j i hj
  · show (if j = kk then f m else f' j) = f j
    rw [if_neg (by omega)]
    exact h5 j (by omega)
theorem CompI.done {G n : Nat} {f : Nat → Value} {ms : List (List Int)} {w : World} {kk : Nat} {wr : World} (h : CompI G n f ms w n kk wr) {e : Ending} (he : e = .returned (.slice (some ⟨G, 0, none⟩) kk n)) : CompPost G n f ms w e (wr.setCells G kk (List.replicate (n - kk) (.slice none 0 0))) := by
  obtain ⟨h1, h2, f', h3, h4, h5, h6⟩ := h
  refine ⟨_, by rw [he, h1], Go.rowIs_setCells _ kk _ _ h3, fun j i hj => ?_, grown_trans h6 (grown_sets _ _ _ _)⟩
  have hjl := (List.getElem?_eq_some_iff.1 hj).1
  show (if kk ≤ j ∧ _ then _ else f' j) = f i
  rw [if_neg (by omega)]
  exact h4 j i hj
set_option maxHeartbeats 2000000 in
set_option maxRecDepth 100000 in
theorem Compact_calls (G n : Nat) (f : Nat → Value) (ms : List (List Int)) (w : World) (hR : w.rowIs G 37 n f) (hf : ∀ i, i < n → ∃ A m c, f i = .slice A m c) (hn : n ≤ 1000000000)
    (hq : ∀ (W : World) (i j : Nat), w.grownBy W (some G) → i < n → j < n → Calls Tryz.prog 111 #[f i, f j] W fun e w' => e = .returned (.bool (ms[i]? == ms[j]?)) ∧ ∃ q, w' = W.drewN q) :
    Calls Tryz.prog 110 #[.slice (some ⟨G, 0, none⟩) n n, .func (.func 111) #[] #[]] w fun e w' => CompPost G n f ms w e w' := by
  have hall : Hid ((∀ j, j < n → keepB ms j = true) → (keepL ms n).length = n ∧ ∀ j i, (keepL ms n)[j]? = some i → f j = f i) := hid fun h => by
    rw [keepL_all h]
    refine ⟨List.length_range, fun j i hj => ?_⟩
    have hjn := (List.getElem?_eq_some_iff.1 hj).1
    rw [List.getElem?_range (by simpa using hjn)] at hj
    injection hj with hj
    rw [hj]
  have HR := hid hR
  by_cases h2 : n < 2
  · have h2' : (n : Int) < 2 := by omega
    have hk := hid (hall.out fun j hj => by
      have : j = 0 := by omega
      subst this
      rfl)
    clear hf hq hall hR
    go_enter Tryz.func110, Tryz.ntmps110
    go_wp2_with fail
    go_ret
    exact ⟨f, by rw [hk.out.1]; rfl, HR.out, hk.out.2, grown_drewN w 0 _⟩
  · have h2' : ¬ (n : Int) < 2 := by omega
    have HF := hid hf
    have HQ0 := hid hq
    clear hf hq hR
    go_enter Tryz.func110, Tryz.ntmps110
    go_wp2_with fail
    go_loopw [5] (fun vi wr => ∃ k q : Nat, k + 1 ≤ n ∧ vi = .int .i64 ((k : Int) + 1) ∧ (∀ j, j < k + 1 → keepB ms j = true) ∧ wr = w.drewN q) (fun vi _ => n - (intOf vi).toNat)
    case atStart => exact ⟨0, 0, by omega, rfl, fun j hj => by (have : j = 0 := by omega); subst this; rfl, rfl⟩
    case round =>
      obtain ⟨k, q, hk, rfl, hkp, rfl⟩ := hrel
      have HK := hid hkp
      clear hkp
      by_cases hlt : k + 1 < n
      · have hlt' : (k : Int) + 1 < n := by omega
        have c1 := HR.out.cell hlt
        have c0 := HR.out.cell (show k < n by omega)
        obtain ⟨t, ht⟩ : ∃ t, t = (ms[k + 1]? == ms[k]?) := ⟨_, rfl⟩
        have HQ : Hid (∀ W : World, w.grownBy W (some G) → Calls Tryz.prog 111 #[f (k + 1), f k] W fun e w' => e = .returned (.bool t) ∧ ∃ q, w' = W.drewN q) := hid fun W hW => by
          have := HQ0.out W (k + 1) k hW hlt (by omega)
          rwa [← ht] at this
        have HB : Hid (keepB ms (k + 1) = !t) := hid (by rw [ht]; unfold keepB; simp [beq_words])
        obtain ⟨A1, m1, d1, hf1⟩ := HF.out _ hlt
        obtain ⟨A0, m0, d0, hf0⟩ := HF.out k (by omega)
        rw [hf1] at c1 HQ
        rw [hf0] at c0 HQ
        clear ht hf1 hf0
        go_wp2_with fail
        obtain ⟨ι, Wc, ⟨i0, hi0'⟩, hWc, Wsur⟩ := held_class (w.drewN q).drew (fun q => q = G)
        have hne : Nonempty ι := ⟨i0⟩
        have WS := hid Wsur; clear Wsur
        have HWc := hid hWc; clear hWc
        have Hi0 := hid hi0'; clear hi0'
        have q1 : ∀ i, (Wc i).cell? ⟨G, k + 1, none⟩ = some (.slice A1 m1 d1) := fun i => (World.cell?_of_block (a := ⟨G, k + 1, none⟩) (HWc.out i G rfl)).trans c1
        have q2 : ∀ i, (Wc i).cell? ⟨G, k, none⟩ = some (.slice A0 m0 d0) := fun i => (World.cell?_of_block (a := ⟨G, k, none⟩) (HWc.out i G rfl)).trans c0
        refine region_anyL (S := fun w' => ∃ i, w' = Wc i) (last := 12) (by kernel_rfl) ?_
        refine anyL_seg 0 10 (by kernel_rfl) (fun _ _ _ _ _ h => h) ⟨i0, Hi0.out.symm⟩ (f := 1) rfl (by kernel_rfl) (by kernel_rfl) ?_
        simp only [List.drop_zero, List.take_succ_cons, List.take_zero]
        repeat go_big_quiet_step (fail)
        refine wpQuiet_nil ?_
        refine anyL_act (i := 10) (by kernel_rfl) rfl rfl ?_
        intro K hK
        go_wp2_with fail
        refine (HQ.out (w.drewN q).drew (grown_drewN w (q + 1) _)).mono ?_
        rintro e w2 ⟨rfl, q3, rfl⟩
        have hS2 : ∃ i, (w.drewN q).drew.drewN q3 = Wc i := WS.out _ (fun q hq => rfl)
        go_wp2_with fail
        refine hK.out _ _ (fun _ => WS.out _ (fun q hq => rfl)) ?_
        clear hK K
        refine anyL_done (by kernel_rfl) ?_ 0
        clear q1 q2 hS2 WS HWc Hi0 hne i0 Wc ι
        cases t with
        | false =>
          go_wp2_with fail
          refine ⟨⟨k + 1, _, by omega, by go_num, fun j hj => ?_, rfl⟩, ?_⟩
          · by_cases e : j = k + 1
            · subst e
              rw [HB.out]; rfl
            · exact HK.out j (by omega)
          · simp [intOf]; omega
        | true =>
          have HI0 : Hid (CompI G n f ms w (k + 1 + 0 + 1) (k + 1) (w.drewN (q + 1 + q3))) := hid (by
            have e : keepL ms (k + 1 + 0 + 1) = List.range (k + 1) := by
              rw [Nat.add_zero, keepL_succ, HB.out, keepL_all HK.out]
              simp
            refine ⟨by rw [e, List.length_range], by omega, f, HR.out, fun j i hj => ?_, fun _ _ => rfl, grown_drewN _ _ _⟩
            rw [e] at hj
            have hjn := (List.getElem?_eq_some_iff.1 hj).1
            rw [List.getElem?_range (by simpa using hjn)] at hj
            injection hj with hj
            rw [hj])
          clear HQ c1 c0
          go_wp2_with fail
          go_loopw [5, 7] (fun v5 v7 wr => ∃ kk p : Nat, v5 = .int .i64 kk ∧ v7 = .int .i64 ((p : Int) + 1) ∧ k + 1 + p + 1 ≤ n ∧ CompI G n f ms w (k + 1 + p + 1) kk wr) (fun _ v7 _ => n - (intOf v7).toNat)
          case atStart => exact ⟨k + 1, 0, by go_num, rfl, by omega, HI0.out⟩
          case round =>
            obtain ⟨kk, p, rfl, rfl, hp, hI⟩ := hrel
            obtain ⟨wo, hwo⟩ : ∃ wo, wo = wr := ⟨_, rfl⟩
            subst hwo
            have HI := hid hI
            obtain ⟨hkk, hkm, f', hR', hk', hh', hg⟩ := hI
            have hck := hR'.cell (show kk < n by omega)
            have hfk := hR'.frozen kk
            by_cases hlt2 : k + 1 + p + 1 < n
            · have hlt2' : (p : Int) + 1 < ((n - (k + 1) : Nat) : Int) := by omega
              have c1 := hR'.cell hlt2
              have c0 := hR'.cell (show k + 1 + p < n by omega)
              rw [hh' _ (by omega)] at c1 c0
              rw [Nat.add_assoc (k + 1) p 1] at c1
              obtain ⟨t2, ht⟩ : ∃ t, t = (ms[k + 1 + p + 1]? == ms[k + 1 + p]?) := ⟨_, rfl⟩
              have HQ : Hid (∀ W : World, w.grownBy W (some G) → Calls Tryz.prog 111 #[f (k + 1 + p + 1), f (k + 1 + p)] W fun e w' => e = .returned (.bool t2) ∧ ∃ q, w' = W.drewN q) := hid fun W hW => by
                have := HQ0.out W (k + 1 + p + 1) (k + 1 + p) hW hlt2 (by omega)
                rwa [← ht] at this
              have HB2 : Hid (keepB ms (k + 1 + p + 1) = !t2) := hid (by rw [ht]; unfold keepB; simp [beq_words])
              obtain ⟨A1, m1, d1, hf1⟩ := HF.out _ hlt2
              obtain ⟨A0, m0, d0, hf0⟩ := HF.out (k + 1 + p) (by omega)
              have HK2 : Hid (keepB ms (k + 1 + p + 1) = true → ∀ q, CompI G n f ms w (k + 1 + p + 1 + 1) (kk + 1) ((wo.drewN q).setCell ⟨G, kk, none⟩ (.slice A1 m1 d1))) := hid fun hb q => by
                have := HI.out.keep hb q
                rwa [hf1] at this
              have hf1' : f (k + 1 + (p + 1)) = .slice A1 m1 d1 := hf1
              rw [hf1'] at c1
              rw [hf1] at HQ
              rw [hf0] at c0 HQ
              have HGo := hid hg
              have hkn : kk < n := by omega
              clear ht hf1 hf0 hf1' hk' hh' hR' hg hkk
              go_wp2_with fail
              obtain ⟨ι, Wc, ⟨i0, hi0'⟩, hWc, Wsur⟩ := held_class wo.drew (fun q => q = G)
              have hne : Nonempty ι := ⟨i0⟩
              have WS := hid Wsur; clear Wsur
              have HWc := hid hWc; clear hWc
              have Hi0 := hid hi0'; clear hi0'
              have q1 : ∀ i, (Wc i).cell? ⟨G, k + 1 + (p + 1), none⟩ = some (.slice A1 m1 d1) := fun i => (World.cell?_of_block (a := ⟨G, k + 1 + (p + 1), none⟩) (HWc.out i G rfl)).trans c1
              have q2 : ∀ i, (Wc i).cell? ⟨G, k + 1 + p, none⟩ = some (.slice A0 m0 d0) := fun i => (World.cell?_of_block (a := ⟨G, k + 1 + p, none⟩) (HWc.out i G rfl)).trans c0
              refine region_anyL (S := fun w' => ∃ i, w' = Wc i) (last := 12) (by kernel_rfl) ?_
              refine anyL_seg 0 10 (by kernel_rfl) (fun _ _ _ _ _ h => h) ⟨i0, Hi0.out.symm⟩ (f := 2) rfl (by kernel_rfl) (by kernel_rfl) ?_
              simp only [List.drop_zero, List.take_succ_cons, List.take_zero]
              repeat go_big_quiet_step (fail)
              refine wpQuiet_nil ?_
              refine anyL_act (i := 10) (by kernel_rfl) rfl rfl ?_
              intro K hK
              go_wp2_with fail
              refine (HQ.out wo.drew (grown_trans HGo.out (grown_drewN wo 1 _))).mono ?_
              rintro e w2 ⟨rfl, q3, rfl⟩
              have hS2 : ∃ i, wo.drew.drewN q3 = Wc i := WS.out _ (fun q hq => rfl)
              go_wp2_with fail
              refine hK.out _ _ (fun _ => WS.out _ (fun q hq => rfl)) ?_
              clear hK K
              refine anyL_seg 11 1 (by kernel_rfl) (fun _ _ _ _ _ h => h) (WS.out (wo.drewN (1 + q3)) (fun q hq => rfl)) (f := 0) rfl (by kernel_rfl) (by kernel_rfl) ?_
              simp only [List.drop_succ_cons, List.drop_zero, List.take_succ_cons, List.take_zero]
              repeat go_big_quiet_step (fail)
              refine wpQuiet_nil ?_
              refine anyL_done (by kernel_rfl) ?_ 0
              clear q1 q2 hS2 WS HWc Hi0 hne i0 Wc ι
              cases t2 with
              | true =>
                go_wp2_with fail
                refine ⟨⟨kk, p + 1, rfl, by go_num, by omega, HI.out.skip HB2.out _⟩, ?_⟩
                simp [intOf]; omega
              | false =>
                go_wp2_with fail
                refine ⟨⟨kk + 1, p + 1, by go_num, by go_num, by omega, HK2.out HB2.out _⟩, ?_⟩
                simp [intOf]; omega
            · obtain rfl : n = k + 1 + p + 1 := by omega
              have hcl : ∀ ty, (Builtin.clear_ #[34] ty #[.slice (some ⟨G, kk, none⟩) (k + 1 + p + 1 - kk) (k + 1 + p + 1 - kk)]).run Tryz.prog wo = .ok (.tuple #[]) (wo.setCells G kk (List.replicate (k + 1 + p + 1 - kk) (.slice none 0 0))) := fun ty =>
                Lib.run_clear_slice wo _ 37 ty _ Tryz.underlying34 (fun W => by kernel_rfl) rfl rfl G kk _ _ (by omega) (fun j hj => by rw [hR'.cell (by omega)]; rfl) (fun j _ => hR'.frozen _)
              clear hk' hh' hR' hg hkk
              go_wp2_with fail
              go_ret
              exact HI.out.done rfl
      · obtain rfl : n = k + 1 := by omega
        have hk2 := hid (hall.out fun j hj => HK.out j (by omega))
        clear hlt
        go_wp2_with fail
        go_ret
        exact ⟨f, by rw [hk2.out.1]; rfl, HR.out, hk2.out.2, grown_drewN w _ _⟩
end Go.Proofs.YtofcjmjokokajaaGreat
namespace Go.Uo
open Go.RowKit Go.Um
structure RepOf (α : Type) where
  width : Nat
  rel : World → (Nat → Prop) → List Value → α → Prop
  len : ∀ {w : World} {S : Nat → Prop} {cs : List Value} {x : α}, rel w S cs x → cs.length = width
  mono : ∀ {w w' : World} {S S' : Nat → Prop} {cs : List Value} {x : α}, (∀ p : Addr, S p.block → w'.cell? p = w.cell? p) → (∀ b, S b → S' b) → rel w S cs x → rel w' S' cs x
def rowAt {α : Type} (r : RepOf α) (w : World) (S : Nat → Prop) (b o : Nat) (xs : List α) : Prop :=
  ∀ (i : Nat) (x : α), xs[i]? = some x → ∃ ds, r.rel w S ds x ∧ ∀ (j : Nat) (v : Value), ds[j]? = some v → w.cell? ⟨b, o + i * r.width + j, none⟩ = some v
def listRel {α : Type} (r : RepOf α) (w : World) (S : Nat → Prop) (cs : List Value) (xs : List α) : Prop :=
  ∃ A n cap, cs = [.slice A n cap] ∧ n = xs.length ∧ n ≤ cap ∧ cap ≤ maxLen ∧ (n = 0 ∨ ∃ b o, A = some ⟨b, o, none⟩ ∧ S b ∧ rowAt r w S b o xs)
theorem rowAt_mono {α : Type} {r : RepOf α} {w w' : World} {S S' : Nat → Prop} {b o : Nat} {xs : List α} (hw : ∀ p : Addr, S p.block → w'.cell? p = w.cell? p) (hS : ∀ b, S b → S' b)
    (hb : S b) (h : rowAt r w S b o xs) : rowAt r w' S' b o xs := fun i x hx => by
  obtain ⟨ds, h1, h2⟩ := h i x hx
  exact ⟨ds, r.mono hw hS h1, fun j v hv => (hw _ hb).trans (h2 j v hv)⟩
def listR {α : Type} (r : RepOf α) : RepOf (List α) where
  width := 1
  rel := listRel r
  len := by rintro w S cs x ⟨A, n, cap, rfl, _⟩; rfl
  mono := by
    rintro w w' S S' cs x hw hS ⟨A, n, cap, h1, h2, h3, h4, h5⟩
    refine ⟨A, n, cap, h1, h2, h3, h4, ?_⟩
    rcases h5 with h5 | ⟨b, o, h5, h6, h7⟩
    · exact .inl h5
    · exact .inr ⟨b, o, h5, hS b h6, rowAt_mono hw hS h6 h7⟩
abbrev upto (B : Nat) : Nat → Prop := fun b => b < B
theorem below_cells {B : Nat} {w w' : World} (hb : Below B w w') : ∀ p : Addr, upto B p.block → w'.cell? p = w.cell? p := fun _ hp => hb.cell hp
theorem RepOf.below {α : Type} (r : RepOf α) {B B' : Nat} {w w' : World} {cs : List Value} {x : α} (h : r.rel w (upto B) cs x) (hb : Below B w w') (hB : B ≤ B') : r.rel w' (upto B') cs x :=
  r.mono (below_cells hb) (fun _ h => Nat.lt_of_lt_of_le h hB) h
theorem RepOf.later {α : Type} (r : RepOf α) {w w' : World} {cs : List Value} {x : α} (h : r.rel w (upto w.heap.size) cs x) (hb : Below w.heap.size w w') : r.rel w' (upto w'.heap.size) cs x :=
  r.below h hb hb.size
theorem list_form {α : Type} {r : RepOf α} {w : World} {S : Nat → Prop} {v : Value} {xs : List α} (h : (listR r).rel w S [v] xs) :
    ∃ A cap, v = .slice A xs.length cap ∧ xs.length ≤ cap ∧ cap ≤ maxLen := by
  obtain ⟨A, n, cap, h1, h2, h3, h4, _⟩ := h
  simp at h1
  subst h2
  exact ⟨A, cap, h1, h3, h4⟩
theorem list_at {α : Type} {r : RepOf α} {w : World} {S : Nat → Prop} {A : Option Addr} {n cap : Nat} {xs : List α} (h : (listR r).rel w S [.slice A n cap] xs) {i : Nat} {x : α} (hx : xs[i]? = some x) :
    ∃ b o ds, A = some ⟨b, o, none⟩ ∧ S b ∧ r.rel w S ds x ∧ ∀ (j : Nat) (v : Value), ds[j]? = some v → w.cell? ⟨b, o + i * r.width + j, none⟩ = some v := by
  obtain ⟨A, n', cap, h1, h2, h3, h4, h5⟩ := h
  simp at h1
  obtain ⟨rfl, rfl, rfl⟩ := h1
  rcases h5 with h5 | ⟨b, o, h5, h6, h7⟩
  · have : xs = [] := List.eq_nil_of_length_eq_zero (by omega)
    subst this
    simp at hx
  · obtain ⟨ds, h8, h9⟩ := h7 i x hx
    exact ⟨b, o, ds, h5, h6, h8, h9⟩
theorem list_at1 {α : Type} {r : RepOf α} (hr : r.width = 1) {w : World} {S : Nat → Prop} {A : Option Addr} {n cap : Nat} {xs : List α} (h : (listR r).rel w S [.slice A n cap] xs) {i : Nat} {x : α} (hx : xs[i]? = some x) :
    ∃ b o v, A = some ⟨b, o, none⟩ ∧ S b ∧ r.rel w S [v] x ∧ w.cell? ⟨b, o + i, none⟩ = some v := by
  obtain ⟨b, o, ds, h1, h2, h3, h4⟩ := list_at h hx
  have hl := r.len h3
  rw [hr] at hl h4
  match ds, hl with
  | [v], _ => exact ⟨b, o, v, h1, h2, h3, by simpa using h4 0 v rfl⟩
theorem list_nil {α : Type} (r : RepOf α) (w : World) (S : Nat → Prop) : (listR r).rel w S [.slice none 0 0] [] := ⟨none, 0, 0, rfl, rfl, Nat.le_refl _, Nat.zero_le _, .inl rfl⟩
theorem own_list {α : Type} {r : RepOf α} {enc : α → List Value} {w : World} {S : Nat → Prop} {base : Nat} {e : TypeId} {v : Value} {xs : List α} (h : w.ownsRow base e r.width v xs.length (xs.flatMap enc))
    (hS : ∀ g, v.ownBlock = some g → S g) (hx : ∀ x ∈ xs, (enc x).length = r.width ∧ r.rel w S (enc x) x) : (listR r).rel w S [v] xs := by
  rcases h.2 with ⟨rfl, hn⟩ | ⟨g, cap, cur, rfl, hb, hg, hnc, hcm, hcs, htake⟩
  · have : xs = [] := List.eq_nil_of_length_eq_zero hn
    subst this
    exact list_nil r w S
  · refine ⟨_, _, _, rfl, rfl, hnc, hcm, .inr ⟨g, 0, rfl, hS g rfl, fun i x hi => ⟨enc x, (hx x (List.mem_of_getElem? hi)).2, fun j u hu => ?_⟩⟩⟩
    have hseg : (xs.flatMap enc)[i * r.width + j]? = some u := by
      clear h hg hnc hcm hcs htake hS
      induction xs generalizing i with
      | nil => simp at hi
      | cons y ys ih =>
        rw [List.flatMap_cons]
        cases i with
        | zero =>
          simp at hi
          subst hi
          rw [Nat.zero_mul, Nat.zero_add, List.getElem?_append_left (List.getElem?_eq_some_iff.1 hu).1]
          exact hu
        | succ i =>
          have hl := (hx y (List.mem_cons_self ..)).1
          rw [List.getElem?_append_right (by rw [hl, Nat.add_mul]; omega), hl]
          rw [show (i + 1) * r.width + j - r.width = i * r.width + j by rw [Nat.add_mul]; omega]
          exact ih (fun x hx' => hx x (List.mem_cons_of_mem _ hx')) i (by simpa using hi)
    have hc := h.cells (g := g) rfl (i * r.width + j) u hseg
    rw [show 0 + i * r.width + j = i * r.width + j by omega]
    have ha : (⟨g, 0, none⟩ : Addr).add (i * r.width + j) = ⟨g, i * r.width + j, none⟩ := by unfold Addr.add; split <;> simp_all
    rwa [ha] at hc
/-! ### The things of umlaut -/
def I32 (x : Int) : Prop := -2147483648 ≤ x ∧ x ≤ 2147483647
def runeR : RepOf Int where
  width := 1
  rel := fun _ _ cs x => cs = [.int .i32 x] ∧ I32 x
  len := by rintro w S cs x ⟨rfl, _⟩; rfl
  mono := by intro w w' S S' cs x _ _ h; exact h
abbrev wordR : RepOf (List Int) := listR runeR
theorem rune_at {w : World} {S : Nat → Prop} {A : Option Addr} {n cap : Nat} {xs : List Int} {x : Int} {i : Nat} (h : wordR.rel w S [.slice A n cap] xs) (hx : xs[i]? = some x) :
    ∃ b o, A = some ⟨b, o, none⟩ ∧ S b ∧ w.cell? ⟨b, o + i, none⟩ = some (.int .i32 x) ∧ I32 x := by
  obtain ⟨b, o, v, h1, h2, ⟨h3, h4⟩, h5⟩ := list_at1 rfl h hx
  injection h3 with h3 _
  exact ⟨b, o, h1, h2, by rw [h5, h3], h4⟩
theorem encW_flat (l : List Int) : encW l = l.flatMap fun x => [Value.int .i32 x] := by
  unfold encW
  induction l with
  | nil => rfl
  | cons x l ih => rw [List.map_cons, ih]; rfl
def Fresh (base : Nat) (w : World) : Nat → Prop := fun b => base ≤ b ∧ b < w.heap.size
def OwnW (e : TypeId) (w : World) (base : Nat) (v : Value) (l : List Int) : Prop := w.ownsRow base e 1 v l.length (encW l) ∧ ∀ x ∈ l, I32 x
def nwordR : RepOf (List Int) where
  width := 1
  rel := fun w S cs l => wordR.rel w S cs l ∧ ∀ n c, cs = [.slice none n c] → c = 0
  len := fun h => wordR.len h.1
  mono := fun h1 h2 h => ⟨wordR.mono h1 h2 h.1, h.2⟩
section
variable {e : TypeId} {w w' : World} {base : Nat} {v : Value} {l : List Int} {S : Nat → Prop}
theorem OwnW.rel (h : OwnW e w base v l) (hS : ∀ g, v.ownBlock = some g → S g) : nwordR.rel w S [v] l := by
  refine ⟨own_list (r := runeR) (enc := fun x => [Value.int .i32 x]) (by rw [← encW_flat]; exact h.1) hS (fun x hx => ⟨rfl, rfl, h.2 x hx⟩), fun n c hc => ?_⟩
  injection hc with hc _
  rcases h.1.2 with ⟨h1, _⟩ | ⟨g, cap, cur, h1, _⟩
  · rw [h1] at hc; injection hc with _ _ hc; exact hc.symm
  · rw [h1] at hc; injection hc with hc; cases hc
theorem OwnW.fresh {b : Nat} (h : OwnW e w base v l) (hb : b ≤ base) : nwordR.rel w (Fresh b w) [v] l := h.rel fun g hg => ⟨Nat.le_trans hb (h.1.lt g hg).1, (h.1.lt g hg).2⟩
theorem OwnW.nil : OwnW e w base (.slice none 0 0) [] := ⟨World.ownsRow_nil _ _ _ _, fun x hx => by cases hx⟩
theorem word_news {ad : Addr} {n c : Nat} (h : wordR.rel w S [.slice (some ad) n c] l) (j : Nat) (u : Value) (hu : (encW l)[j]? = some u) : S ad.block ∧ w.cell? (ad.add j) = some u := by
  unfold encW at hu
  rw [List.getElem?_map] at hu
  obtain ⟨x, hx, rfl⟩ := Option.map_eq_some_iff.1 hu
  obtain ⟨b, o, hA, hb, hc, _⟩ := rune_at h hx
  injection hA with hA
  subst hA
  refine ⟨hb, ?_⟩
  have ha : (⟨b, o, none⟩ : Addr).add j = ⟨b, o + j, none⟩ := by unfold Addr.add; split <;> simp_all
  rw [ha]
  exact hc
theorem word_i32 (h : wordR.rel w S [v] l) : ∀ x ∈ l, I32 x := fun x hx => by
  obtain ⟨i, hi⟩ := List.mem_iff_getElem?.1 hx
  obtain ⟨A, c, rfl, _, _⟩ := list_form h
  obtain ⟨_, _, _, _, _, h4⟩ := rune_at h hi
  exact h4
theorem word_none {n c : Nat} (h : wordR.rel w S [.slice none n c] l) : l = [] := by
  cases l with
  | nil => rfl
  | cons x l =>
    obtain ⟨_, _, hA, _⟩ := rune_at h (i := 0) (x := x) rfl
    cases hA
end
theorem at_lt {α : Type} {xs : List α} {i : Nat} (h : i < xs.length) : ∃ x, xs[i]? = some x := ⟨_, List.getElem?_eq_getElem h⟩
end Go.Uo
namespace Go.Proofs.YtofcjmjokokajaaGreat
open Go.RowKit Go.Proofs
open Go.Um Go.Uo
open Go.Vm (hid)
theorem isNaN_calls (x : Int) (w : World) : Calls Tryz.prog 203 #[.int .i32 x] w fun e w' => e = .returned (.bool false) ∧ w' = w := by
  go_enter Tryz.func203, Tryz.ntmps203
  go_wp2_with fail
  go_ret
  exact ⟨by simp, rfl⟩
set_option maxHeartbeats 1000000 in
theorem cmpRune_calls (x y : Int) (w : World) : Calls Tryz.prog 162 #[.int .i32 x, .int .i32 y] w fun e w' => e = .returned (.int .i64 (if x < y then -1 else if y < x then 1 else 0)) ∧ w' = w := by
  have HN := hid fun z W => isNaN_calls z W
  by_cases h1 : x < y
  · rw [if_pos h1]
    go_enter Tryz.func162, Tryz.ntmps162
    go_wp2_with fail
    refine (HN.out _ _).mono ?_
    rintro e w1 ⟨rfl, rfl⟩
    go_wp2_with fail
    refine (HN.out _ _).mono ?_
    rintro e w1 ⟨rfl, rfl⟩
    go_wp2_with fail
    go_ret
    exact ⟨rfl, rfl⟩
  · rw [if_neg h1]
    by_cases h2 : y < x
    · rw [if_pos h2]
      go_enter Tryz.func162, Tryz.ntmps162
      go_wp2_with fail
      refine (HN.out _ _).mono ?_
      rintro e w1 ⟨rfl, rfl⟩
      go_wp2_with fail
      refine (HN.out _ _).mono ?_
      rintro e w1 ⟨rfl, rfl⟩
      go_wp2_with fail
      go_ret
      exact ⟨rfl, rfl⟩
    · rw [if_neg h2]
      go_enter Tryz.func162, Tryz.ntmps162
      go_wp2_with fail
      refine (HN.out _ _).mono ?_
      rintro e w1 ⟨rfl, rfl⟩
      go_wp2_with fail
      refine (HN.out _ _).mono ?_
      rintro e w1 ⟨rfl, rfl⟩
      go_wp2_with fail
      go_ret
      exact ⟨rfl, rfl⟩
set_option maxHeartbeats 1000000 in
theorem Front_calls (a b : List Int) (v u : Value) (w : World) (S T : Nat → Prop) (ha : wordR.rel w S [v] a) (hb : wordR.rel w T [u] b) :
    Calls Tryz.prog 161 #[v, u] w fun e w' => e = .returned (.int .i64 (frontF a b)) ∧ ∃ n, w' = w.drewN n := by
  obtain ⟨A, c, rfl, hc, hm⟩ := list_form ha
  obtain ⟨B, d, rfl, hd, hn⟩ := list_form hb
  unfold maxLen at hm hn
  go_enter Tryz.func161, Tryz.ntmps161
  go_wp2_with fail
  go_loopw [5] (fun vi wr => ∃ k n : Nat, k ≤ a.length ∧ k ≤ b.length ∧ vi = .int .i64 k ∧ frontF a b = k + frontF (a.drop k) (b.drop k) ∧ wr = w.drewN n) (fun vi _ => a.length - (intOf vi).toNat)
  case atStart => exact ⟨0, 0, Nat.zero_le _, Nat.zero_le _, rfl, by simp, rfl⟩
  case round =>
    obtain ⟨k, n, hk, hk2, rfl, hp, hw⟩ := hrel
    subst hw
    have HP := hid hp; clear hp
    by_cases hlt : k < a.length
    · have hlt' : (k : Int) < a.length := by omega
      obtain ⟨x, hx⟩ := at_lt hlt
      obtain ⟨b1, o1, rfl, hb1, h1, hx1⟩ := rune_at ha hx
      by_cases hlt2 : k < b.length
      · have hlt2' : (k : Int) < b.length := by omega
        obtain ⟨y, hy⟩ := at_lt hlt2
        obtain ⟨b2, o2, rfl, hb2, h2, hx2⟩ := rune_at hb hy
        have HP2 := hid (HP.out.trans (by rw [front_drop hx hy]))
        clear hx hy hx1 hx2 ha hb
        by_cases he : x = y
        · subst he
          have hF : Hid (frontF a b = k + 1 + frontF (a.drop (k + 1)) (b.drop (k + 1))) := hid (by rw [HP2.out, if_pos rfl]; omega)
          go_wp2_with fail
          go_quiet (fail)
          go_wp2_with fail
          refine ⟨⟨k + 1, _, by omega, by omega, by go_num, hF.out, rfl⟩, ?_⟩
          simp [intOf]; omega
        · have he' : (x == y) = false := by simpa using he
          have hF : Hid (frontF a b = k) := hid (by rw [HP2.out, if_neg he]; omega)
          go_wp2_with fail
          go_quiet (fail)
          go_wp2_with fail
          go_ret
          exact ⟨by rw [hF.out]; rfl, n + nq, by simp⟩
      · have hF : Hid (frontF a b = k) := hid (by rw [HP.out, front_end (.inr (by omega))]; omega)
        have hlt2' : ¬ (k : Int) < b.length := by omega
        clear hx hx1 ha hb
        go_wp2_with fail
        go_quiet (fail)
        go_wp2_with fail
        go_ret
        exact ⟨by rw [hF.out]; rfl, n + nq, by simp⟩
    · have hF : Hid (frontF a b = k) := hid (by rw [HP.out, front_end (.inl (by omega))]; omega)
      have hlt' : ¬ (k : Int) < a.length := by omega
      clear ha hb
      go_wp2_with fail
      go_quiet (fail)
      go_wp2_with fail
      go_ret
      exact ⟨by rw [hF.out]; rfl, n + nq, by simp⟩
set_option maxHeartbeats 1000000 in
theorem Compare_calls (a b : List Int) (v u : Value) (w : World) (S T : Nat → Prop) (ha : wordR.rel w S [v] a) (hb : wordR.rel w T [u] b) :
    Calls Tryz.prog 109 #[v, u] w fun e w' => e = .returned (.int .i64 (cmpW a b)) ∧ ∃ n, w' = w.drewN n := by
  have HFr := hid (Front_calls a b v u w S T ha hb)
  have HC := hid fun x y W => cmpRune_calls x y W
  obtain ⟨A, c, rfl, hc, hm⟩ := list_form ha
  obtain ⟨B, d, rfl, hd, hn⟩ := list_form hb
  unfold maxLen at hm hn
  obtain ⟨g1, g2, g3, g4⟩ := cmpW_front a b
  obtain ⟨l1, l2⟩ := front_le a b
  obtain ⟨k, hk⟩ : ∃ k, k = frontF a b := ⟨_, rfl⟩
  rw [← hk] at HFr g1 g2 g3 g4 l1 l2
  clear hk
  by_cases e1 : k = a.length
  · have e1' : ((k : Int) == a.length) = true := by simpa using (show (k : Int) = a.length by omega)
    by_cases e2 : k = b.length
    · have e2' : ((k : Int) == b.length) = true := by simpa using (show (k : Int) = b.length by omega)
      have hF := hid (g1 e1 e2)
      clear g1 g2 g3 g4 e1 e2 ha hb
      go_enter Tryz.func109, Tryz.ntmps109
      go_wp2_with fail
      refine HFr.out.mono ?_
      rintro e w1 ⟨rfl, n, rfl⟩
      go_wp2_with fail
      go_ret
      exact ⟨by rw [hF.out]; rfl, _, rfl⟩
    · have e2' : ((k : Int) == b.length) = false := by simpa using (show ¬ (k : Int) = b.length by omega)
      have hF := hid (g2 e1 e2)
      clear g1 g2 g3 g4 e1 e2 ha hb
      go_enter Tryz.func109, Tryz.ntmps109
      go_wp2_with fail
      refine HFr.out.mono ?_
      rintro e w1 ⟨rfl, n, rfl⟩
      go_wp2_with fail
      go_ret
      exact ⟨by rw [hF.out]; rfl, _, rfl⟩
  · have e1' : ((k : Int) == a.length) = false := by simpa using (show ¬ (k : Int) = a.length by omega)
    by_cases e2 : k = b.length
    · have e2' : ((k : Int) == b.length) = true := by simpa using (show (k : Int) = b.length by omega)
      have hF := hid (g3 e1 e2)
      clear g1 g2 g3 g4 e1 e2 ha hb
      go_enter Tryz.func109, Tryz.ntmps109
      go_wp2_with fail
      refine HFr.out.mono ?_
      rintro e w1 ⟨rfl, n, rfl⟩
      go_wp2_with fail
      go_ret
      exact ⟨by rw [hF.out]; rfl, _, rfl⟩
    · have e2' : ((k : Int) == b.length) = false := by simpa using (show ¬ (k : Int) = b.length by omega)
      obtain ⟨x, hx⟩ := at_lt (xs := a) (i := k) (by omega)
      obtain ⟨y, hy⟩ := at_lt (xs := b) (i := k) (by omega)
      obtain ⟨b1, o1, rfl, hb1, h1, hx1⟩ := rune_at ha hx
      obtain ⟨b2, o2, rfl, hb2, h2, hx2⟩ := rune_at hb hy
      have hF := hid (g4 x y hx hy)
      have HC2 := hid fun W => HC.out x y W
      obtain ⟨t, ht⟩ : ∃ t, t = (if x < y then (-1 : Int) else if y < x then 1 else 0) := ⟨_, rfl⟩
      rw [← ht] at hF HC2
      clear ht HC
      have k1 : (k : Int) < a.length := by omega
      have k2 : (k : Int) < b.length := by omega
      clear g1 g2 g3 g4 e1 e2 ha hb hx hy hx1 hx2
      go_enter Tryz.func109, Tryz.ntmps109
      go_wp2_with fail
      refine HFr.out.mono ?_
      rintro e w1 ⟨rfl, n, rfl⟩
      go_wp2_with fail
      obtain ⟨ι, Wc, ⟨i0, hi0'⟩, hWc, Wsur⟩ := held_class (w.drewN n).drew (fun q => q = b1 ∨ q = b2)
      have hne : Nonempty ι := ⟨i0⟩
      have WS := hid Wsur; clear Wsur
      have HWc := hid hWc; clear hWc
      have Hi0 := hid hi0'; clear hi0'
      have q1 : ∀ i, (Wc i).cell? ⟨b1, o1 + k, none⟩ = some (.int .i32 x) := fun i => (World.cell?_of_block (a := ⟨b1, o1 + k, none⟩) (HWc.out i b1 (.inl rfl))).trans h1
      have q2 : ∀ i, (Wc i).cell? ⟨b2, o2 + k, none⟩ = some (.int .i32 y) := fun i => (World.cell?_of_block (a := ⟨b2, o2 + k, none⟩) (HWc.out i b2 (.inr rfl))).trans h2
      refine region_anyL (S := fun w' => ∃ i, w' = Wc i) (last := 10) (by kernel_rfl) ?_
      refine anyL_seg 0 8 (by kernel_rfl) (fun _ _ _ _ _ h => h) ⟨i0, Hi0.out.symm⟩ (f := 2) rfl (by kernel_rfl) (by kernel_rfl) ?_
      simp only [List.drop_zero, List.take_succ_cons, List.take_zero]
      repeat go_big_quiet_step (fail)
      refine wpQuiet_nil ?_
      refine anyL_act (i := 8) (by kernel_rfl) rfl rfl ?_
      intro K hK
      go_wp2_with fail
      refine (HC2.out _).mono ?_
      rintro e w2 ⟨rfl, rfl⟩
      go_wp2_with fail
      refine hK.out _ _ (fun _ => ⟨i0, Hi0.out.symm⟩) ?_
      clear hK K
      refine anyL_seg 9 1 (by kernel_rfl) (fun _ _ _ _ _ h => h) ⟨i0, Hi0.out.symm⟩ (f := 0) rfl (by kernel_rfl) (by kernel_rfl) ?_
      simp only [List.drop_succ_cons, List.drop_zero, List.take_succ_cons, List.take_zero]
      repeat go_big_quiet_step (fail)
      refine wpQuiet_nil ?_
      refine anyL_done (by kernel_rfl) ?_ 0
      go_wp2_with fail
      go_ret
      exact ⟨by rw [hF.out]; rfl, _, rfl⟩
set_option maxHeartbeats 1000000 in
set_option maxRecDepth 100000 in
theorem cloneW_calls (l : List Int) (v : Value) (w : World) (h : wordR.rel w (upto w.heap.size) [v] l) (hl : l.length ≤ 1000000000000) :
    Calls Tryz.prog 107 #[v] w fun e w' => ∃ u, e = .returned u ∧ nwordR.rel w' (Fresh w.heap.size w') [u] l ∧ Below w.heap.size w w' := by
  obtain ⟨A, c, rfl, hc, hm⟩ := list_form h
  obtain ⟨inf, hi0, hz0, hz1, hz2⟩ := info_partsR infoRn
  cases A with
  | none =>
    have hl0 := word_none h
    subst hl0
    have hnil : ∀ W : World, (binOp .eql 37 (.slice none 0 c) (.slice none 0 0)).run Tryz.prog W = .ok (.bool true) W := fun W => Lib.run_eql_slice_nil_nil W 0 c Tryz.underlying37
    clear h
    go_enter Tryz.func107, Tryz.ntmps107
    go_wp2_with fail
    go_ret
    exact ⟨_, rfl, (OwnW.nil (e := 21) (base := w.heap.size)).fresh (Nat.le_refl _), Below.refl _ _⟩
  | some ad =>
    have hnews : ∀ (j : Nat) (u : Value), (encW l)[j]? = some u → (w.alloc (.cells #[] 21)).cell? (ad.add j) = some u := fun j u hu => by
      obtain ⟨h1, h2⟩ := word_news h j u hu
      have hb : (ad.add j).block = ad.block := by unfold Addr.add; split <;> rfl
      rw [World.cell?_of_block (Below.heap_alloc _ _ _ (by rw [hb]; exact h1))]
      exact h2
    have hI := word_i32 h
    have hown : (w.alloc (.cells #[] 21)).ownsRow w.heap.size 21 1 (.slice (some ⟨w.heap.size, 0, none⟩) 0 0) 0 [] := World.ownsRow_lit w #[] 0 (Nat.le_refl _) (Nat.zero_le _) rfl
    have hB0 : Below w.heap.size w (w.alloc (.cells #[] 21)) := (Below.refl _ w).alloc (Nat.le_refl _) _
    have hnil : ∀ W : World, (binOp .eql 37 (.slice (some ad) l.length c) (.slice none 0 0)).run Tryz.prog W = .ok (.bool false) W := fun W => Lib.run_eql_slice_some_nil W ad l.length c Tryz.underlying37
    clear h
    go_enter Tryz.func107, Tryz.ntmps107
    go_wp2_with (at_builtin; refine Hid.out ?_)
    refine hid ?_
    show wpList _ _ _ _ _ _
    refine wpList_append_own _ (by rfl) _ _ 37 (by rfl) w.heap.size 21 inf _ 1 4 Tryz.underlying37 hi0 hz0 hz1 hz2 rfl (by decide) (.slice (some ⟨w.heap.size, 0, none⟩) 0 0) _ _ (by rfl) hown ad l.length c (encW l) (by rfl) (by rw [encW_len]; omega) hnews encW_one (by unfold maxLen; omega) (by omega) (by simp) ?_
    intro v' w3 hown3 hg3 hn3
    rw [Nat.zero_add, List.nil_append] at hown3
    have hO : OwnW 21 w3 w.heap.size v' l := ⟨hown3, hI⟩
    have hF := hO.fresh (Nat.le_refl _)
    have hB3 := hB0.trans (own_below hown hg3 (Nat.le_refl _) hB0.size)
    obtain ⟨A9, c9, rfl, _, _⟩ := list_form hF.1
    clear hown3 hg3 hn3 hO
    go_wp2_with fail
    go_ret
    exact ⟨_, rfl, hF, hB3⟩
end Go.Proofs.YtofcjmjokokajaaGreat
namespace Go.Uo
open Go.RowKit Go.Sort Go.Proofs Go.Um
theorem cmpW_le_trans {a b c : List Int} (h1 : cmpW a b ≤ 0) (h2 : cmpW b c ≤ 0) : cmpW a c ≤ 0 := by
  rcases Int.lt_or_eq_of_le h1 with h | h
  · rcases Int.lt_or_eq_of_le h2 with h' | h'
    · exact Int.le_of_lt (cmpW_trans h h')
    · rw [← cmpW_eq h']; exact h1
  · rw [cmpW_eq h]; exact h2
theorem row_sort {α : Type} [Inhabited α] {enc : α → Value} {w : World} {g n m : Nat} {e : TypeId} {f : Nat → Value} {os : Array Obj} (d : Array α) (hd : d.size = m) (h : w.rowIs g e m f) : (sortWorld enc w g 0 n d os).rowIs g e m fun i => enc d[i]! := by
  obtain ⟨c, hb, hc, _⟩ := h
  have hg : g < w.heap.size := (Array.getElem?_eq_some_iff.1 hb).1
  refine ⟨putCells enc 0 d c, ?_, by simp [putCells, hc], fun i hi => ?_⟩
  · unfold sortWorld
    rw [heap_grow_old _ _ (by simpa using hg)]
    simp [putRow, mapBlock, Sort.ahead, Array.getElem?_modify, hb, onCells]
  · simp [putCells, hc, hd, hi]
theorem grown_sort {α : Type} [Inhabited α] {enc : α → Value} {w : World} {g n : Nat} {os : Array Obj} (d : Array α) : w.grownBy (sortWorld enc w g 0 n d os) (some g) := by
  refine ⟨rfl, rfl, rfl, by simp [sortWorld], fun k hk hne => ?_⟩
  unfold sortWorld
  rw [heap_grow_old _ _ (by simpa using hk)]
  have : g ≠ k := fun e => hne (by rw [e])
  simp [putRow, mapBlock, Sort.ahead, Array.getElem?_modify, this]
theorem perm_in {α : Type} [Inhabited α] {d d' : Array α} (h : PermIn 0 d.size d d') : d'.toList.Perm d.toList := by
  obtain ⟨h1, _, h3⟩ := h
  have e1 : d'.extract 0 d.size = d' := by rw [← h1]; simp
  have e2 : d.extract 0 d.size = d := by simp
  rwa [e1, e2] at h3
def WT (w : World) (G : Nat) : Type := { p : Value × List Int // nwordR.rel w (Fresh (G + 1) w) [p.1] p.2 }
theorem nword_nil (w : World) (S : Nat → Prop) : nwordR.rel w S [.slice none 0 0] [] := ⟨list_nil _ _ _, fun n c h => by injection h with h; injection h with _ _ h; exact h.symm⟩
instance {w : World} {G : Nat} : Inhabited (WT w G) := ⟨⟨(.slice none 0 0, []), nword_nil _ _⟩⟩
def encT {w : World} {G : Nat} (p : WT w G) : Value := p.1.1
def wordT {w : World} {G : Nat} (p : WT w G) : List Int := p.1.2
def cfT {w : World} {G : Nat} (p q : WT w G) : Int := cmpW (wordT p) (wordT q)
theorem encT_one {w : World} {G : Nat} (p : WT w G) : (encT p).oneCell' = true := by
  obtain ⟨A, c, h, _, _⟩ := list_form p.2.1
  unfold encT
  rw [h]
  rfl
theorem cfT_swo {w : World} {G : Nat} : SWO (ltOf (cfT (w := w) (G := G))) where
  irrefl x := by unfold ltOf cfT; rw [cmpW_refl]; rfl
  trans x y z h1 h2 := by
    unfold ltOf cfT at *
    rw [decide_eq_true_eq] at *
    exact cmpW_trans h1 h2
  ntrans x y z h1 h2 := by
    unfold ltOf cfT at *
    rw [decide_eq_false_iff_not] at *
    have f1 := cmpW_flip (wordT x) (wordT y)
    have f2 := cmpW_flip (wordT y) (wordT z)
    have f3 := cmpW_flip (wordT x) (wordT z)
    have := cmpW_le_trans (a := wordT z) (b := wordT y) (c := wordT x) (by omega) (by omega)
    omega
end Go.Uo
namespace Go.Proofs.YtofcjmjokokajaaGreat
open Go.RowKit Go.Um Go.Uo Go.Proofs Go.Sort
open Go.Vm (hid)
theorem sortW_calls (G n : Nat) (f : Nat → Value) (ms : List (List Int)) (w : World) (hR : w.rowIs G 37 n f) (hm : ms.length = n) (hn : n ≤ 1000000000) (hel : ∀ i m, ms[i]? = some m → nwordR.rel w (Fresh (G + 1) w) [f i] m) :
    Calls Tryz.prog 108 #[.slice (some ⟨G, 0, none⟩) n n, .func (.func 109) #[] #[]] w fun e w' => e = .returned (.tuple #[]) ∧ ∃ (f' : Nat → Value) (ms' : List (List Int)), ms'.Perm ms ∧ ms'.Pairwise (fun a b => cmpW a b ≤ 0) ∧ w'.rowIs G 37 n f' ∧
      (∀ i m, ms'[i]? = some m → nwordR.rel w' (Fresh (G + 1) w') [f' i] m) ∧ w.grownBy w' (some G) := by
  have eg : ∀ args w, (callFunc 109 args).run Tryz.prog w = .ok (.enter 109 args) w := enters_of Tryz.func109 (by kernel_rfl) rfl
  have hG := hR.lt
  have hmk : ∀ i, ∃ t : WT w G, i < n → t.1 = (f i, ms.getD i []) := fun i => by
    by_cases hi : i < n
    · exact ⟨⟨(f i, ms.getD i []), hel i (ms.getD i []) (by rw [List.getD_eq_getElem?_getD, List.getElem?_eq_getElem (by omega)]; rfl)⟩, fun _ => rfl⟩
    · exact ⟨default, fun h => absurd h hi⟩
  obtain ⟨d, hd⟩ : ∃ d : Array (WT w G), d = ((List.range n).map fun i => (hmk i).choose).toArray := ⟨_, rfl⟩
  have hds : d.size = n := by rw [hd]; simp
  have hdi : ∀ i, i < n → (d[i]!).1 = (f i, ms.getD i []) := fun i hi => by
    have e : d[i]! = (hmk i).choose := by
      rw [getElem!_pos d i (by omega)]
      simp [hd]
    rw [e]
    exact (hmk i).choose_spec hi
  have hmap : d.toList.map wordT = ms := by
    apply List.ext_getElem?
    intro i
    by_cases hi : i < n
    · rw [List.getElem?_map, Array.getElem?_toList, Array.getElem?_eq_getElem (by omega), List.getElem?_eq_getElem (by omega)]
      have := hdi i hi
      rw [getElem!_pos d i (by omega)] at this
      show some (d[i]).1.2 = _
      rw [this]
      simp [List.getD_eq_getElem?_getD, List.getElem?_eq_getElem (show i < ms.length by omega)]
    · rw [List.getElem?_eq_none (by simp; omega), List.getElem?_eq_none (by omega)]
  have hH : Holds encT w G 0 d := fun j hj => by
    have e : encT d[j]! = f j := by unfold encT; rw [hdi j (by omega)]
    rw [Nat.zero_add, e]
    exact ⟨hR.cell (by omega), hR.frozen _⟩
  have hcmp : CmpLays1 Tryz.prog 109 #[] encT cfT G 0 d.size w := fun m os dk hs x y => by
    have hg := grown_sort (enc := encT) (w := w) (g := G) (n := m) (os := os) dk
    have hr : ∀ z : WT w G, wordR.rel (sortWorld encT w G 0 m dk os) (Fresh (G + 1) w) [encT z] (wordT z) := fun z => wordR.mono (fun p hp => World.cell?_of_block (hg.block _ hp.2 (fun e => by injection e with e; have := hp.1; omega))) (fun _ h => h) z.2.1
    refine (Compare_calls (wordT x) (wordT y) (encT x) (encT y) _ _ _ (hr x) (hr y)).mono ?_
    rintro e w' ⟨rfl, q, rfl⟩
    exact ⟨rfl, q, #[], by rw [grow_empty]⟩
  have hcon := Any.slices_SortFunc Tryz.sortWords encT encT_one cfT cfT_swo 109 #[] G 0 n d w eg hcmp hH hG (by omega)
  rw [hds] at hcon
  refine (show Calls Tryz.prog 108 _ _ _ from hcon).mono ?_
  rintro e w' ⟨rfl, d', q, os, hp, hs, rfl⟩
  rw [← hds] at hp
  have hd's : d'.size = n := hp.1.trans hds
  have hg := grown_sort (enc := encT) (w := w) (g := G) (n := q) (os := os) d'
  refine ⟨rfl, fun i => encT d'[i]!, d'.toList.map wordT, ?_, ?_, row_sort d' hd's hR, fun i m hi => ?_, hg⟩
  · rw [← hmap]; exact (perm_in hp).map _
  · rw [List.pairwise_iff_getElem]
    intro i j hi hj hij
    simp only [List.length_map, Array.length_toList] at hi hj
    have h1 := hs i j (Nat.zero_le _) hij (by omega)
    rw [getElem!_pos d' i hi, getElem!_pos d' j hj] at h1
    unfold ltOf cfT at h1
    rw [decide_eq_false_iff_not] at h1
    simp only [List.getElem_map, Array.getElem_toList]
    have := cmpW_flip (wordT d'[i]) (wordT d'[j])
    omega
  · have hil := (List.getElem?_eq_some_iff.1 hi).1
    simp only [List.length_map, Array.length_toList] at hil
    rw [List.getElem?_map, Array.getElem?_toList, Array.getElem?_eq_getElem hil] at hi
    injection hi with hi
    subst hi
    show nwordR.rel _ _ [encT d'[i]!] _
    rw [getElem!_pos d' i hil]
    exact nwordR.mono (fun p hp => World.cell?_of_block (hg.block _ hp.2 (fun e => by injection e with e; have := hp.1; omega))) (fun b hb => ⟨hb.1, Nat.lt_of_lt_of_le hb.2 hg.size⟩) d'[i].2
end Go.Proofs.YtofcjmjokokajaaGreat
namespace Go.Uo
open Go.RowKit Go.Um
theorem keep_first {ms : List (List Int)} : ∀ {j : Nat} {x : List Int}, ms[j]? = some x → ∃ i, i ≤ j ∧ keepB ms i = true ∧ ms[i]? = some x
  | 0, x, h => ⟨0, Nat.le_refl _, rfl, h⟩
  | j + 1, x, h => by
    by_cases hk : keepB ms (j + 1) = true
    · exact ⟨j + 1, Nat.le_refl _, hk, h⟩
    · have he : ms[j + 1]? = ms[j]? := by
        unfold keepB at hk
        simpa using hk
      obtain ⟨i, h1, h2, h3⟩ := keep_first (he ▸ h)
      exact ⟨i, by omega, h2, h3⟩
theorem keep_mem {ms : List (List Int)} {n : Nat} (hn : ms.length = n) {x : List Int} : x ∈ (keepL ms n).map (fun i => ms.getD i []) ↔ x ∈ ms := by
  rw [List.mem_map]
  constructor
  · rintro ⟨i, hi, rfl⟩
    have hl := List.mem_range.1 (List.mem_filter.1 hi).1
    rw [List.getD_eq_getElem?_getD, List.getElem?_eq_getElem (by omega)]
    exact List.getElem_mem _
  · intro hx
    obtain ⟨j, hj⟩ := List.mem_iff_getElem?.1 hx
    have hjl := (List.getElem?_eq_some_iff.1 hj).1
    obtain ⟨i, h1, h2, h3⟩ := keep_first hj
    exact ⟨i, List.mem_filter.2 ⟨List.mem_range.2 (by omega), h2⟩, by rw [List.getD_eq_getElem?_getD, h3]; rfl⟩
theorem keep_strict {ms : List (List Int)} {n : Nat} (hn : ms.length = n) (hp : ms.Pairwise fun a b => cmpW a b ≤ 0) : ((keepL ms n).map fun i => ms.getD i []).Pairwise fun a b => cmpW a b < 0 := by
  rw [List.pairwise_map]
  have hr : (keepL ms n).Pairwise (· < ·) := List.pairwise_lt_range.filter _
  rw [List.pairwise_iff_getElem] at hp
  refine List.Pairwise.imp_of_mem ?_ hr
  intro i j hi hj hij
  have hil := List.mem_range.1 (List.mem_filter.1 hi).1
  obtain ⟨hjl, hjk⟩ := List.mem_filter.1 hj
  have hjl := List.mem_range.1 hjl
  rw [List.getD_eq_getElem?_getD, List.getElem?_eq_getElem (by omega), List.getD_eq_getElem?_getD, List.getElem?_eq_getElem (by omega)]
  show cmpW ms[i] ms[j] < 0
  have h1 := hp i j (by omega) (by omega) hij
  rcases Int.lt_or_eq_of_le h1 with h | h
  · exact h
  · exfalso
    have he := cmpW_eq h
    have hne : ms[j - 1]? ≠ ms[j]? := by
      unfold keepB at hjk
      rw [Bool.or_eq_true] at hjk
      rcases hjk with h' | h'
      · have : j = 0 := by simpa using h'
        omega
      · intro e; simp [e] at h'
    apply hne
    rw [List.getElem?_eq_getElem (show j - 1 < ms.length by omega), List.getElem?_eq_getElem (show j < ms.length by omega)]
    congr 1
    rcases Nat.eq_or_lt_of_le (show i ≤ j - 1 by omega) with e | e
    · subst e; exact he
    · have h2 := hp i (j - 1) (by omega) (by omega) e
      have h3 := hp (j - 1) j (by omega) (by omega) (by omega)
      rw [← he] at h3
      have f := cmpW_flip ms[i] ms[j - 1]
      have : cmpW ms[j - 1] ms[i] = 0 := by omega
      rw [cmpW_eq this]; exact he
theorem rel_words {α : Type} {r : RepOf α} (hr : r.width = 1) {w : World} {G n : Nat} {e : TypeId} {f : Nat → Value} {S : Nat → Prop} {xs : List α} (h : w.rowIs G e n f) (hG : S G) (hx : xs.length ≤ n) (hn : n ≤ maxLen) (hel : ∀ i x, xs[i]? = some x → r.rel w S [f i] x) :
    (listR r).rel w S [.slice (some ⟨G, 0, none⟩) xs.length n] xs := by
  refine ⟨_, _, _, rfl, rfl, hx, hn, .inr ⟨G, 0, rfl, hG, fun i x hi => ⟨[f i], hel i x hi, fun j u hu => ?_⟩⟩⟩
  have hil := (List.getElem?_eq_some_iff.1 hi).1
  cases j with
  | succ j => simp at hu
  | zero =>
    simp at hu
    subst hu
    rw [hr, Nat.mul_one, Nat.zero_add, Nat.add_zero]
    exact h.cell (by omega)
end Go.Uo
namespace Go.Proofs.YtofcjmjokokajaaGreat
open Go.RowKit Go.Um Go.Uo Go.Proofs
open Go.Vm (hid)
theorem infoW : (Tryz.prog.info? 37).map (fun i => (i.zero, i.size, i.bytes)) = some (some (.slice none 0 0), 1, 24) := by kernel_rfl
set_option maxHeartbeats 1000000 in
theorem eqW_calls (a b : List Int) (v u : Value) (w : World) (S T : Nat → Prop) (ha : wordR.rel w S [v] a) (hb : wordR.rel w T [u] b) :
    Calls Tryz.prog 111 #[v, u] w fun e w' => e = .returned (.bool (cmpW a b == 0)) ∧ ∃ n, w' = w.drewN n := by
  have HC := hid (Compare_calls a b v u w S T ha hb)
  obtain ⟨t, ht⟩ : ∃ t, t = cmpW a b := ⟨_, rfl⟩
  rw [← ht] at HC
  rw [← ht]
  clear ht ha hb
  go_enter Tryz.func111, Tryz.ntmps111
  go_wp2_with fail
  refine HC.out.mono ?_
  rintro e w1 ⟨rfl, n, rfl⟩
  go_wp2_with fail
  go_ret
  exact ⟨rfl, _, rfl⟩
def SortPost (ls : List (List Int)) (w : World) (e : Ending) (w' : World) : Prop := ∃ u ls', e = .returned u ∧ (listR nwordR).rel w' (Fresh w.heap.size w') [u] ls' ∧ (∀ x, x ∈ ls' ↔ x ∈ ls) ∧ ls'.Pairwise (fun a b => cmpW a b < 0) ∧ Below w.heap.size w w'
def CloI (ls : List (List Int)) (w : World) (k : Nat) (wr : World) : Prop := ∃ f, wr.rowIs w.heap.size 37 ls.length f ∧ (∀ j m, j < k → ls[j]? = some m → nwordR.rel wr (Fresh (w.heap.size + 1) wr) [f j] m) ∧ Below w.heap.size w wr
theorem compact_sorted {n : Nat} {f : Nat → Value} {ms ls : List (List Int)} {w w4 : World} (hms : ms.length = n) (hn : n ≤ 1000000000) (hR : w4.rowIs w.heap.size 37 n f) (hel : ∀ i m, ms[i]? = some m → nwordR.rel w4 (Fresh (w.heap.size + 1) w4) [f i] m)
    (hmem : ∀ x, x ∈ ms ↔ x ∈ ls) (hp : ms.Pairwise fun a b => cmpW a b ≤ 0) (hB : Below w.heap.size w w4) :
    Calls Tryz.prog 110 #[.slice (some ⟨w.heap.size, 0, none⟩) n n, .func (.func 111) #[] #[]] w4 fun e w' => SortPost ls w e w' := by
  have hget : ∀ i, i < n → ∃ m, ms[i]? = some m := fun i hi => ⟨_, List.getElem?_eq_getElem (by omega)⟩
  refine (Compact_calls w.heap.size n f ms w4 hR (fun i hi => ?_) hn (fun W i j hW hi hj => ?_)).mono ?_
  · obtain ⟨m, hm⟩ := hget i hi
    obtain ⟨A, c, h, _, _⟩ := list_form (hel i m hm).1
    exact ⟨_, _, _, h⟩
  · obtain ⟨a, ha⟩ := hget i hi
    obtain ⟨b, hb⟩ := hget j hj
    have hr : ∀ i m, ms[i]? = some m → wordR.rel W (Fresh (w.heap.size + 1) w4) [f i] m := fun i m hm => wordR.mono (fun p hp => World.cell?_of_block (hW.block _ hp.2 (fun e => by injection e with e; have := hp.1; omega))) (fun _ h => h) (hel i m hm).1
    refine (eqW_calls a b _ _ W _ _ (hr i a ha) (hr j b hb)).mono ?_
    rintro e w' ⟨rfl, q⟩
    refine ⟨?_, q⟩
    rw [ha, hb]
    congr 2
    rw [Bool.eq_iff_iff]
    simp only [beq_iff_eq, Option.some.injEq]
    exact ⟨cmpW_eq, fun h => by rw [h]; exact cmpW_refl _⟩
  · rintro e w' ⟨f', rfl, hR', hk, hg⟩
    have hB' : Below w.heap.size w w' := ⟨hg.os.trans hB.os, hg.tape.trans hB.tape, hg.output.trans hB.output, Nat.le_trans hB.size hg.size, fun q hq => (hg.block q (Nat.lt_of_lt_of_le hq hB.size) (fun e => by injection e with e; omega)).trans (hB.block q hq)⟩
    have hkl := keepL_le ms n
    refine ⟨_, (keepL ms n).map (fun i => ms.getD i []), rfl, ?_, fun x => (keep_mem hms).trans (hmem x), keep_strict hms hp, hB'⟩
    have := rel_words (r := nwordR) rfl (S := Fresh w.heap.size w') (xs := (keepL ms n).map (fun i => ms.getD i [])) hR' ⟨Nat.le_refl _, hR'.lt⟩ (by rw [List.length_map]; exact hkl) (by unfold maxLen; omega) (fun i x hi => by
      rw [List.getElem?_map] at hi
      obtain ⟨q, hq, rfl⟩ := Option.map_eq_some_iff.1 hi
      have hql := keepL_lt hq
      rw [hk i q hq]
      have hm : ms[q]? = some (ms.getD q []) := by rw [List.getD_eq_getElem?_getD, List.getElem?_eq_getElem (by omega)]; rfl
      exact nwordR.mono (fun p hp => World.cell?_of_block (hg.block _ hp.2 (fun e => by injection e with e; have := hp.1; omega))) (fun b hb => ⟨by have := hb.1; omega, Nat.lt_of_lt_of_le hb.2 hg.size⟩) (hel q _ hm))
    rw [List.length_map] at this
    exact this
set_option maxHeartbeats 2000000 in
set_option maxRecDepth 100000 in
theorem Sort_calls (ls : List (List Int)) (v : Value) (w : World) (h : (listR wordR).rel w (upto w.heap.size) [v] ls) (hl : ls.length ≤ 1000000000) (hw : ∀ l ∈ ls, l.length ≤ 1000000000000) :
    Calls Tryz.prog 54 #[v] w fun e w' => SortPost ls w e w' := by
  obtain ⟨inf, hi0, hz0, hz1, hz2⟩ := info_partsR infoW
  obtain ⟨A, c, rfl, hc, hm⟩ := list_form h
  unfold maxLen at hm
  have hmk : ∀ W : World, (Instr.makeSlice 34 (.int .i64 ls.length) (.int .i64 ls.length)).run Tryz.prog W = .ok (.slice (some ⟨W.heap.size, 0, none⟩) ls.length ls.length) (W.alloc (.cells (madeCells #[.slice none 0 0] ls.length) 37)) :=
    run_make_row 34 37 inf _ Tryz.underlying34 hi0 hz0 hz1 rfl .i64 .i64 ls.length (by rw [hz2]; omega) (by omega)
  have HC := hid fun l v W h1 h2 => cloneW_calls l v W h1 h2
  have hR0 := World.rowIs_made w (.slice none 0 0) ls.length 37
  have hB0 : Below w.heap.size w (w.alloc (.cells (madeCells #[.slice none 0 0] ls.length) 37)) := (Below.refl _ w).alloc (Nat.le_refl _) _
  have HI0 : Hid (CloI ls w 0 (w.alloc (.cells (madeCells #[.slice none 0 0] ls.length) 37))) := hid ⟨_, hR0, fun j m hj => by omega, hB0⟩
  clear hR0 hB0
  have HW := hid hw
  clear hw
  go_enter Tryz.func54, Tryz.ntmps54
  go_wp2_with fail
  generalize w.alloc (.cells (madeCells #[.slice none 0 0] ls.length) 37) = w1 at *
  go_loopw [11] (fun vi wr => ∃ k : Nat, k ≤ ls.length ∧ vi = .int .i64 k ∧ CloI ls w k wr) (fun vi _ => ls.length - (intOf vi).toNat)
  case atStart => exact ⟨0, Nat.zero_le _, rfl, HI0.out⟩
  case round =>
    clear hmk
    obtain ⟨k, hk, rfl, hI⟩ := hrel
    obtain ⟨wo, hwo⟩ : ∃ wo, wo = wr := ⟨_, rfl⟩
    subst hwo
    obtain ⟨f, hR, hel, hB⟩ := hI
    by_cases hlt : k < ls.length
    · have hlt' : (k : Int) < ls.length := by omega
      obtain ⟨m, hm'⟩ := at_lt hlt
      obtain ⟨b1, o1, y, rfl, hb1, hy, hcy⟩ := list_at1 rfl h hm'
      replace hcy := (hB.cell (p := ⟨b1, o1 + k, none⟩) hb1).trans hcy
      have hyo : wordR.rel wo (upto wo.heap.size) [y] m := wordR.mono (fun p hp => hB.cell hp) (fun b hb => Nat.lt_of_lt_of_le hb hB.size) hy
      obtain ⟨A2, c2, rfl, _, _⟩ := list_form hy
      have HCL := hid (HC.out m _ wo hyo (HW.out m (List.mem_of_getElem? hm')))
      have HR := hid hR
      have HE := hid hel
      have HB := hid hB
      have HM := hid hm'
      clear hR hel hB hm' hy hyo hlt
      go_wp2_with fail
      refine HCL.out.mono ?_
      rintro e w2 ⟨u, rfl, hu, hB2⟩
      have hR2 := HR.out.of_block (hB2.block _ HR.out.lt)
      have hck := hR2.cell (show k < ls.length by omega)
      have hfk := hR2.frozen k
      obtain ⟨A9, c9, rfl, _, _⟩ := list_form hu.1
      have hI2 : CloI ls w (k + 1) (w2.setCell ⟨w.heap.size, k, none⟩ (.slice A9 m.length c9)) := by
        have hoth : ∀ g, g ≠ w.heap.size → (w2.setCell ⟨w.heap.size, k, none⟩ (.slice A9 m.length c9)).heap[g]? = w2.heap[g]? := fun g hg => heap_setCell_other _ _ _ _ (by simpa using hg)
        have hsz := HR.out.lt
        refine ⟨_, hR2.set k _, fun j m' hj hm' => ?_, (HB.out.trans (hB2.mono HB.out.size)).setCell (p := ⟨w.heap.size, k, none⟩) (Nat.le_refl _) _⟩
        show nwordR.rel _ _ [if j = k then _ else f j] m'
        by_cases e : j = k
        · subst e
          rw [HM.out] at hm'
          injection hm' with hm'
          subst hm'
          rw [if_pos rfl]
          exact nwordR.mono (fun p hp => World.cell?_of_block (hoth _ (by have := hp.1; omega))) (fun b hb => ⟨by have := hb.1; omega, by simpa using hb.2⟩) hu
        · rw [if_neg e]
          exact nwordR.mono (fun p hp => World.cell?_of_block ((hoth _ (by have := hp.1; omega)).trans (hB2.block _ hp.2))) (fun b hb => ⟨hb.1, by have := hb.2; have := hB2.size; simp; omega⟩) (HE.out j m' (by omega) hm')
      have HI2 := hid hI2
      clear hI2 hu hB2
      go_wp2_with fail
      refine ⟨⟨k + 1, by omega, by go_num, HI2.out⟩, ?_⟩
      simp [intOf]; omega
    · obtain rfl : k = ls.length := by omega
      have HS := hid (sortW_calls w.heap.size ls.length f ls wo hR rfl hl (fun i m hi => hel i m (List.getElem?_eq_some_iff.1 hi).1 hi))
      have HB := hid hB
      clear hlt hR hel hB
      go_wp2_with fail
      refine HS.out.mono ?_
      rintro e w4 ⟨rfl, f', ms, hp, hs, hR', hel', hg⟩
      have hB4 : Below w.heap.size w w4 := ⟨hg.os.trans HB.out.os, hg.tape.trans HB.out.tape, hg.output.trans HB.out.output, Nat.le_trans HB.out.size hg.size, fun q hq => (hg.block q (Nat.lt_of_lt_of_le hq HB.out.size) (fun e => by injection e with e; omega)).trans (HB.out.block q hq)⟩
      have HCo := hid (compact_sorted (ls := ls) (w := w) (hp.length_eq) hl hR' hel' (fun x => hp.mem_iff) hs hB4)
      clear hp hs hR' hel' hg hB4
      go_wp2_with fail
      refine HCo.out.mono ?_
      rintro e w5 ⟨u, ls', rfl, h1, h2, h3, h4⟩
      obtain ⟨A9, c9, rfl, _, _⟩ := list_form h1
      go_wp2_with fail
      go_ret
      exact ⟨_, ls', rfl, h1, h2, h3, h4⟩
end Go.Proofs.YtofcjmjokokajaaGreat
