/-
  desc.cycle. Conditions: at most 1024 states and 4096 rules, whose states are there. desc.Where, Check. Condition: no rule without guards. What a transducer relates an input to; how its places are gone through. Plain Lean, no program is named here.
-/
import Derived.Test.YtofcjmjokokajaaGreatQn
import Derived.Test.YtofcjmjokokajaaGreatQo
import Derived.Test.YtofcjmjokokajaaGreatQv
import Derived.Test.YtofcjmjokokajaaGreatQm
namespace Go.Um
open Go.Vm
structure CySt where
  k : Nat
  g : Nat → Nat
  L : Nat → Nat
  xs : Nat → List Int
  inn : Int → Int
def CyOk (d : Desc) (_n : Nat) (x : CySt) : Prop := x.k ≤ d.rules.length ∧ (∀ i : Nat, x.L i ≤ x.g i ∧ x.xs i = toF (edgesF (d.rules.take x.k)) (i : Int)) ∧ ∀ t, x.inn t = innF (edgesF (d.rules.take x.k)) t
def famX (x : CySt) (i : Nat) : Option Blk := nb 3 1 (x.g i) (x.L i) ((x.xs i).map intR.cells)
structure QuSt where
  k : Nat
  g : Nat
  L : Nat
  xs : List Int
def zerosF (inn : Int → Int) (k : Nat) : List Int := ((List.range k).map fun j : Nat => (j : Int)).filter fun t => decide (inn t = 0)
theorem zerosF_succ (inn : Int → Int) (k : Nat) : zerosF inn (k + 1) = zerosF inn k ++ if inn (k : Int) = 0 then [(k : Int)] else [] := by
  unfold zerosF
  rw [List.range_succ, List.map_append, List.filter_append]
  congr 1
  by_cases h : inn (k : Int) = 0 <;> simp [h]
theorem zerosF_len (inn : Int → Int) (k : Nat) : (zerosF inn k).length ≤ k := by
  unfold zerosF
  exact Nat.le_trans (List.length_filter_le _ _) (by simp)
def innL (n : Nat) (inn : Int → Int) : List Int := (List.range n).map fun t : Nat => inn t
theorem innL_len {n : Nat} {inn : Int → Int} : (innL n inn).length = n := by simp [innL]
theorem innL_at {n : Nat} {inn : Int → Int} {t : Nat} (h : t < n) : (innL n inn)[t]? = some (inn t) := by
  unfold innL
  rw [List.getElem?_map, List.getElem?_range h]
  rfl
theorem innL_set {n : Nat} {inn : Int → Int} {t : Nat} (h : t < n) (z : Int) : (innL n inn).set t z = innL n (fun x => if x = t then z else inn x) := by
  apply List.ext_getElem?
  intro j
  rw [List.getElem?_set, innL_len]
  by_cases hj : t = j
  · subst hj
    rw [if_pos rfl, if_pos h, innL_at h, if_pos rfl]
  · rw [if_neg hj]
    by_cases hjn : j < n
    · rw [innL_at hjn, innL_at hjn, if_neg (by omega)]
    · rw [List.getElem?_eq_none (by rw [innL_len]; omega), List.getElem?_eq_none (by rw [innL_len]; omega)]
theorem innL_zero (n : Nat) : (innL n (fun _ => 0)).map intR.cells = List.replicate n [V.int .i64 0] := by
  apply List.ext_getElem?
  intro j
  rw [List.getElem?_map]
  by_cases hj : j < n
  · rw [innL_at hj, List.getElem?_replicate, if_pos hj]
    rfl
  · rw [List.getElem?_eq_none (by rw [innL_len]; omega), List.getElem?_eq_none (by simp; omega)]
    rfl
end Go.Um
namespace Go.Proofs.YtofcjmjokokajaaGreat
open Go.RowKit Go.Um Go.Proofs Go.Vm
attribute [local irreducible] Ev arun frun awp RetQ NextQ
set_option maxHeartbeats 4000000
set_option maxRecDepth 20000
theorem cycle_v (d : Desc) (n : Nat) (hn : d.states = n) (hn0 : 1 ≤ n) (hn1 : n ≤ 1024) (hE : ∀ r ∈ d.rules, ¬ r.guards.length = 0) (hl : d.rules.length ≤ 4096) (hr : ∀ r ∈ d.rules, (0 ≤ r.src ∧ r.src < d.states) ∧ 0 ≤ r.dst ∧ r.dst < d.states) : VPure Tryz.prog 96 [.agg (descR.cells d)] (.bool (kahnF (edgesF d.rules) n)) := by
  refine a_pure (n0 := 0) (hN := Tryz.ntmps96) (hf := Tryz.func96) ?_
  refine wk ⟨?_⟩
  have e0 : d.states.toNat = n := by omega
  have e1 : List.replicate d.states.toNat (vcells V.nil) = outC 3 n (fun _ => 0) (fun _ => 0) := by rw [e0, outC_zero]; rfl
  have e2 : List.replicate d.states.toNat (vcells (V.int .i64 0)) = (innL n (fun _ => 0)).map intR.cells := by rw [e0, innL_zero]; rfl
  rw [e1, e2, e0]
  clear e1 e2
  have hbd : ∀ k i, (toF (edgesF (d.rules.take k)) i).length ≤ 4096 := fun k i => by
    have h1 := toF_len (edgesF (d.rules.take k)) i
    have h2 := edgesF_len (d.rules.take k)
    rw [List.length_take] at h2
    omega
  have hib : ∀ k t, 0 ≤ innF (edgesF (d.rules.take k)) t ∧ innF (edgesF (d.rules.take k)) t ≤ 4096 := fun k t => by
    have h1 := innF_bounds (edgesF (d.rules.take k)) t
    have h2 := edgesF_len (d.rules.take k)
    rw [List.length_take] at h2
    omega
  refine a_loopH (σ := CySt) 1024 1027 [1, 3, 4, 21, 22] (fun x => [(23, V.int .i64 (x.k : Int))]) (fun x => [(2, some (.cells 3 1 0 0 ((innL n x.inn).map intR.cells))), (1, some (.cells 88 1 0 0 (outC 3 n x.g fun i => (x.xs i).length))), (0, some (.cells 27 6 0 0 [descR.cells d]))] ++ fam 3 1024 (famX x)) (CyOk d n) (fun x => d.rules.length - x.k) ⟨0, fun _ => 0, fun _ => 0, fun _ => [], fun _ => 0⟩ ⟨Nat.zero_le _, fun i => ⟨Nat.le_refl _, rfl⟩, fun t => rfl⟩ (loop_fam (fun i _ => rfl) ⟨rfl, rfl, rfl, trivial⟩ rfl) ?_
  rintro ⟨k, g, L, xs, inn⟩ hok
  have hok0 := hok
  obtain ⟨hk, hx1, hi1⟩ := hok0
  simp only at hk hx1 hi1
  obtain hx | ⟨r, hrk, hlt⟩ := range_cases hk
  · subst k
    rw [List.take_length] at hx1 hi1
    dsimp only
    refine wk ⟨?_⟩
    refine a_drop (S2 := [(2, some (.cells 3 1 0 0 ((innL n inn).map intR.cells))), (0, some (.cells 27 6 0 0 [descR.cells d]))]) (1 :: List.range' 3 1024) (by exact .keep (k := 1) FV.ptr (.pack (k := 3) (v := intR.listR.L ((List.range n).map xs)) (pk_outC (e2 := 3) (L := L) (g := g) (len := fun i => (xs i).length) (xs := xs) (r := intR) rfl rfl fun i hi => ⟨(restr_in (by simp; omega)).trans (Pass.fam (K := 1024) (x := 0) (f := famX ⟨d.rules.length, g, L, xs, inn⟩) (T := _) (by repeat' first | refine Pass.cons rfl ?_ | exact Pass.refl _) (by omega) (by omega)), rfl, (hx1 i).1⟩) (.keep (k := 4) FV.row (.keep (k := 7) FV.nil (.keep (k := 52) FV.row (.keep (k := 53) FV.int (.keep (k := 54) FV.int .nil))))))) (fun id => ?_) ?_
    · by_cases h1 : id = 1
      · subst h1
        rfl
      · by_cases h3 : 3 ≤ id ∧ id < 1027
        · rw [if_pos (by simp; omega), fam_cons_ne (by simp only; omega), fam_cons_ne (by simp only; omega)]
          rfl
        · rw [if_neg (by simp; omega), List.append_assoc]
          rcases (show id = 0 ∨ id = 2 ∨ (3 ≤ id ∧ id ≠ 0 ∧ id ≠ 2) by omega) with rfl | rfl | h4
          · rfl
          · rfl
          · rw [slk_app.2 (by simp; omega), slk_fam_ne (by omega), fam_cons_ne (by simp only; omega), fam_cons_ne (by simp only; omega), fam_cons_ne (by simp only; omega), fam_cons_ne (by simp only; omega), fam_cons_ne (by simp only; omega)]
    have hil : (innL n inn).length = n := innL_len
    refine a_loopG (σ := QuSt) 1 [1, 3, 4, 52, 53] (fun x => [(7, nrow 1027 x.g x.xs.length), (54, V.int .i64 (x.k : Int))]) (fun x => [(2, some (.cells 3 1 0 0 ((innL n inn).map intR.cells))), (1027, nb 3 1 x.g x.L (x.xs.map intR.cells))]) (fun x => x.k ≤ n ∧ x.L ≤ x.g ∧ x.xs = zerosF inn x.k) (fun x => n - x.k) ⟨0, 0, 0, []⟩ ⟨Nat.zero_le _, Nat.le_refl _, rfl⟩ ?_
    rintro ⟨k, qg, qL, qs⟩ ⟨hkn, hq1, hq2⟩
    simp only at hkn hq1 hq2
    rcases Nat.lt_or_ge k n with hkl | hkl
    · have hIk := innL_at (inn := inn) hkl
      have hzs := zerosF_succ inn k
      have hzl := zerosF_len inn k
      rw [← hq2] at hzs hzl
      dsimp only
      repeat' first | (show arun _ _ _ _ _ (⟨some _, _, _, _, _, none⟩ :: _) _ _ _; first | refine ar_s ?_ | refine ar_app_n (fun h => ?_) (fun h => ?_) | refine ar_app_nz (fun h => ?_) (fun h => ?_)) | (show arun _ _ _ _ _ (⟨_, _, _, _, _, some _⟩ :: _) _ _ _; first | refine ar_on ?_ | refine ar_off ?_ | refine ar_off2 ?_ | refine ar_split_t ?_ | refine ar_split_f ?_ | refine ar_split (fun h => ?_) (fun h => ?_)) | (show arun _ _ _ _ _ (⟨none, _, _, _, _, none⟩ :: _) _ _ _; refine ar_n ?_) | (show frun _ _ _ _ _ _ (⟨some _, _, _, _, _, none⟩ :: _) _ _ _; refine fr_s ?_) | (show frun _ _ _ _ _ _ (⟨none, _, _, _, _, none⟩ :: _) _ _ _; refine fr_n ?_) | (show grun _ _ _ _ _ _ _ (⟨some _, _, _, _, _, none⟩ :: _) _ _ _; refine gr_s ?_) | (show grun _ _ _ _ _ _ _ (⟨none, _, _, _, _, none⟩ :: _) _ _ _; refine gr_n ?_) | refine gr_nil ?_ | refine fr_nil ?_ | refine ar_nil ?_ | refine a_seq ?_ | refine a_block ?_ | refine a_region ?_ | refine a_drawn ?_ | refine a_skip ?_ | refine a_exit ?_ | refine a_ret ?_ | (show awp _ _ (.cond _ _ _) _ _ _ _; first | refine a_yes rfl ?_ | refine a_no rfl ?_ | refine a_dec_t ?_ | refine a_dec_f ?_ | refine a_dec rfl (fun h => ?_) (fun h => ?_))
      · rw [if_pos (by assumption)] at hzs
        have hnil : qs = [] := by assumption
        subst hnil
        refine a_next (⟨k + 1, 0, 0, [(k : Int)]⟩ : QuSt) ⟨hkl, Nat.le_refl _, hzs.symm⟩ (by simp only; omega) ?_
        · refine end1 (CS := [(2, some (.cells 3 1 0 0 ((innL n inn).map intR.cells)))]) 1029 1027 ?_ ?_ rfl (RnX.of_eq rfl) ?_ (hfree := rfl) (hS := SameG.same (by repeat' first | exact SameG.refl _ | refine SameG.cons rfl ?_)); all_goals repeat' first | exact trivial | refine And.intro ?_ ?_ | exact rn_int rfl | exact rn_list rfl | exact rn_row rfl ⟨rfl, rfl, rfl⟩ | exact rn_ptr rfl | exact rn_bool rfl | exact rn_agg rfl | exact rn_iptr rfl | exact rn_map rfl | exact rn_nrows rfl | exact rn_new rfl rfl rfl (by omega) | refine rn_int ?_ | refine rn_bool ?_ | refine rn_list ?_ | refine rn_row rfl ⟨?_, ?_, ?_⟩ | refine rn_nrow rfl ⟨rfl, ?_⟩ ?_ | refine rn_agg ?_ | exact Exists.intro _ ⟨rfl, RnB.cells (RnX.of_eq rfl), rfl⟩ | exact Exists.intro _ ⟨rfl, RnB.cells (RnX.of_eq (map_snoc rfl)), rfl⟩ | exact Exists.intro _ ⟨rfl, RnB.cells (RnX.of_eq (map_setc rfl)), rfl⟩ | exact Exists.intro _ ⟨rfl, RnB.cells (RnX.of_eq (map_inc rfl)), rfl⟩ | exact Exists.intro _ ⟨rfl, RnB.cells (RnX.of_eq (map_snocs rfl)), rfl⟩ | refine Exists.intro _ ⟨rfl, RnB.cells (RnX.cons (RnC.cons ?_ ?_ RnC.nil) RnX.nil), rfl⟩ | exact Exists.intro _ ⟨rfl, RnB.hole, rfl⟩ | refine Exists.intro _ ⟨rfl, rnm_of ?_, rfl⟩ | exact nrow_one | refine old_nbs ?_ rfl | refine old_nb ?_ ⟨?_, _, rfl, RnB.cells (RnX.of_eq (map_snoc rfl)), rfl⟩ | refine old_nb ?_ ⟨?_, _, rfl, RnB.cells (RnX.of_eq (map_snocs rfl)), rfl⟩ | refine old_nb ?_ ⟨?_, _, rfl, RnB.cells (RnX.of_eq (map_inc rfl)), rfl⟩ | refine old_nb ?_ ⟨?_, _, rfl, RnB.cells (RnX.of_eq rfl), rfl⟩ | rfl | (simp only []; omega) | (simp; done) | (simp; omega) | assumption
      · rw [if_pos (by assumption)] at hzs
        refine a_next (⟨k + 1, qg + 1, qL, qs ++ [(k : Int)]⟩ : QuSt) ⟨hkl, by simp only; omega, hzs.symm⟩ (by simp only; omega) ?_
        refine end0 ?_ ?_ (hS := SameG.same (by repeat' first | exact SameG.refl _ | refine SameG.cons rfl ?_)); all_goals repeat' first | exact trivial | refine And.intro ?_ ?_ | exact rn_int rfl | exact rn_list rfl | exact rn_row rfl ⟨rfl, rfl, rfl⟩ | exact rn_ptr rfl | exact rn_bool rfl | exact rn_agg rfl | exact rn_iptr rfl | exact rn_map rfl | exact rn_nrows rfl | exact rn_new rfl rfl rfl (by omega) | refine rn_int ?_ | refine rn_bool ?_ | refine rn_list ?_ | refine rn_row rfl ⟨?_, ?_, ?_⟩ | refine rn_nrow rfl ⟨rfl, ?_⟩ ?_ | refine rn_agg ?_ | exact Exists.intro _ ⟨rfl, RnB.cells (RnX.of_eq rfl), rfl⟩ | exact Exists.intro _ ⟨rfl, RnB.cells (RnX.of_eq (map_snoc rfl)), rfl⟩ | exact Exists.intro _ ⟨rfl, RnB.cells (RnX.of_eq (map_setc rfl)), rfl⟩ | exact Exists.intro _ ⟨rfl, RnB.cells (RnX.of_eq (map_inc rfl)), rfl⟩ | exact Exists.intro _ ⟨rfl, RnB.cells (RnX.of_eq (map_snocs rfl)), rfl⟩ | refine Exists.intro _ ⟨rfl, RnB.cells (RnX.cons (RnC.cons ?_ ?_ RnC.nil) RnX.nil), rfl⟩ | exact Exists.intro _ ⟨rfl, RnB.hole, rfl⟩ | refine Exists.intro _ ⟨rfl, rnm_of ?_, rfl⟩ | exact nrow_one | refine old_nbs ?_ rfl | refine old_nb ?_ ⟨?_, _, rfl, RnB.cells (RnX.of_eq (map_snoc rfl)), rfl⟩ | refine old_nb ?_ ⟨?_, _, rfl, RnB.cells (RnX.of_eq (map_snocs rfl)), rfl⟩ | refine old_nb ?_ ⟨?_, _, rfl, RnB.cells (RnX.of_eq (map_inc rfl)), rfl⟩ | refine old_nb ?_ ⟨?_, _, rfl, RnB.cells (RnX.of_eq rfl), rfl⟩ | rfl | (simp only []; omega) | (simp; done) | (simp; omega) | assumption
      · rw [if_neg (by assumption), List.append_nil] at hzs
        refine a_next (⟨k + 1, qg, qL, qs⟩ : QuSt) ⟨hkl, hq1, hzs.symm⟩ (by simp only; omega) ?_
        refine end0 ?_ ?_ (hS := SameG.same (by repeat' first | exact SameG.refl _ | refine SameG.cons rfl ?_)); all_goals repeat' first | exact trivial | refine And.intro ?_ ?_ | exact rn_int rfl | exact rn_list rfl | exact rn_row rfl ⟨rfl, rfl, rfl⟩ | exact rn_ptr rfl | exact rn_bool rfl | exact rn_agg rfl | exact rn_iptr rfl | exact rn_map rfl | exact rn_nrows rfl | exact rn_new rfl rfl rfl (by omega) | refine rn_int ?_ | refine rn_bool ?_ | refine rn_list ?_ | refine rn_row rfl ⟨?_, ?_, ?_⟩ | refine rn_nrow rfl ⟨rfl, ?_⟩ ?_ | refine rn_agg ?_ | exact Exists.intro _ ⟨rfl, RnB.cells (RnX.of_eq rfl), rfl⟩ | exact Exists.intro _ ⟨rfl, RnB.cells (RnX.of_eq (map_snoc rfl)), rfl⟩ | exact Exists.intro _ ⟨rfl, RnB.cells (RnX.of_eq (map_setc rfl)), rfl⟩ | exact Exists.intro _ ⟨rfl, RnB.cells (RnX.of_eq (map_inc rfl)), rfl⟩ | exact Exists.intro _ ⟨rfl, RnB.cells (RnX.of_eq (map_snocs rfl)), rfl⟩ | refine Exists.intro _ ⟨rfl, RnB.cells (RnX.cons (RnC.cons ?_ ?_ RnC.nil) RnX.nil), rfl⟩ | exact Exists.intro _ ⟨rfl, RnB.hole, rfl⟩ | refine Exists.intro _ ⟨rfl, rnm_of ?_, rfl⟩ | exact nrow_one | refine old_nbs ?_ rfl | refine old_nb ?_ ⟨?_, _, rfl, RnB.cells (RnX.of_eq (map_snoc rfl)), rfl⟩ | refine old_nb ?_ ⟨?_, _, rfl, RnB.cells (RnX.of_eq (map_snocs rfl)), rfl⟩ | refine old_nb ?_ ⟨?_, _, rfl, RnB.cells (RnX.of_eq (map_inc rfl)), rfl⟩ | refine old_nb ?_ ⟨?_, _, rfl, RnB.cells (RnX.of_eq rfl), rfl⟩ | rfl | (simp only []; omega) | (simp; done) | (simp; omega) | assumption
    · obtain rfl : k = n := by omega
      dsimp only
      refine wk ⟨?_⟩
      have hE0 : edgesF d.rules = [] := by
        unfold edgesF
        rw [List.map_eq_nil_iff, List.filter_eq_nil_iff]
        intro r hr'
        simpa using hE r hr'
      have hinn : ∀ t, inn t = 0 := fun t => by rw [hi1, hE0]; rfl
      have hqs : qs = (List.range k).map fun j : Nat => (j : Int) := by
        rw [hq2]
        unfold zerosF
        rw [List.filter_eq_self]
        intro t _
        simp [hinn]
      have hql : qs.length = k := by rw [hqs]; simp
      have hqat : ∀ i, i < k → qs[i]? = some (i : Int) := fun i hi => by rw [hqs, List.getElem?_map, List.getElem?_range hi]; rfl
      have hto : ∀ i, i < k → ((List.range k).map xs)[i]? = some [] := fun i hi => by
        rw [List.getElem?_map, List.getElem?_range hi]
        show some (xs i) = _
        rw [(hx1 i).2, hE0]
        rfl
      rw [hql, nrow_pos (by omega)]
      have hnb : nb 3 1 qg qL (qs.map intR.cells) = some (.cells 3 1 qg qL (qs.map intR.cells)) := nb_pos (by simp; omega)
      rw [hnb]
      refine a_loopG (σ := Nat) 0 [1, 3, 4] (fun i => [(7, V.row 1027 qg i (k - i)), (10, V.int .i64 (i : Int))]) (fun i => [(2, some (.cells 3 1 0 0 ((innL k inn).map intR.cells))), (1027, some (.cells 3 1 qg qL (qs.map intR.cells)))]) (fun i => i ≤ k) (fun i => k - i) 0 (Nat.zero_le _) ?_
      intro i hi
      rcases Nat.lt_or_ge i k with hik | hik
      · have hq0 := hqat i hik
        have ht0 := hto i hik
        refine wk ⟨?_⟩
        refine a_loopG (σ := Unit) 0 [1, 3, 4, 7, 10, 80, 81] (fun _ => []) (fun _ => []) (fun _ => True) (fun _ => 0) () trivial ?_
        intro _ _
        refine wk ⟨?_⟩
        refine a_next (i + 1) (by omega) (by omega) ?_
        refine end0 ?_ ?_ (hS := SameG.same (by repeat' first | exact SameG.refl _ | refine SameG.cons rfl ?_)); all_goals repeat' first | exact trivial | refine And.intro ?_ ?_ | exact rn_int rfl | exact rn_list rfl | exact rn_row rfl ⟨rfl, rfl, rfl⟩ | exact rn_ptr rfl | exact rn_bool rfl | exact rn_agg rfl | exact rn_iptr rfl | exact rn_map rfl | exact rn_nrows rfl | exact rn_new rfl rfl rfl (by omega) | refine rn_int ?_ | refine rn_bool ?_ | refine rn_list ?_ | refine rn_row rfl ⟨?_, ?_, ?_⟩ | refine rn_nrow rfl ⟨rfl, ?_⟩ ?_ | refine rn_agg ?_ | exact Exists.intro _ ⟨rfl, RnB.cells (RnX.of_eq rfl), rfl⟩ | exact Exists.intro _ ⟨rfl, RnB.cells (RnX.of_eq (map_snoc rfl)), rfl⟩ | exact Exists.intro _ ⟨rfl, RnB.cells (RnX.of_eq (map_setc rfl)), rfl⟩ | exact Exists.intro _ ⟨rfl, RnB.cells (RnX.of_eq (map_inc rfl)), rfl⟩ | exact Exists.intro _ ⟨rfl, RnB.cells (RnX.of_eq (map_snocs rfl)), rfl⟩ | refine Exists.intro _ ⟨rfl, RnB.cells (RnX.cons (RnC.cons ?_ ?_ RnC.nil) RnX.nil), rfl⟩ | exact Exists.intro _ ⟨rfl, RnB.hole, rfl⟩ | refine Exists.intro _ ⟨rfl, rnm_of ?_, rfl⟩ | exact nrow_one | refine old_nbs ?_ rfl | refine old_nb ?_ ⟨?_, _, rfl, RnB.cells (RnX.of_eq (map_snoc rfl)), rfl⟩ | refine old_nb ?_ ⟨?_, _, rfl, RnB.cells (RnX.of_eq (map_snocs rfl)), rfl⟩ | refine old_nb ?_ ⟨?_, _, rfl, RnB.cells (RnX.of_eq (map_inc rfl)), rfl⟩ | refine old_nb ?_ ⟨?_, _, rfl, RnB.cells (RnX.of_eq rfl), rfl⟩ | rfl | (simp only []; omega) | (simp; done) | (simp; omega) | assumption
      · obtain rfl : i = k := by omega
        refine wk ⟨?_⟩
        refine ret_tmp (.inr rfl) rfl rfl (pk_bool ?_)
        have h1 : kahnF (edgesF d.rules) i = false := by
          rw [hE0]
          cases h2 : kahnF [] i with
          | false => rfl
          | true =>
            obtain ⟨t, s, hs, _⟩ := (kahnF_iff (E := []) (n := i) (by simp)).1 h2
            cases hs
        rw [h1]
        exact decide_eq_false (by omega)
  · obtain ⟨⟨hs0, hs1⟩, hd0, hd1⟩ := hr r (List.mem_of_getElem? hrk)
    have hj : r.src.toNat < n := by omega
    have ht : r.dst.toNat < n := by omega
    have hT := outC_at (b := 3) (g := g) (len := fun i => (xs i).length) hj
    have hI := innL_at (inn := inn) ht
    have hdd : ((r.dst.toNat : Nat) : Int) = r.dst := by omega
    rw [hdd] at hI
    have hIs := innL_set (inn := inn) ht (inn r.dst + 1)
    rw [hdd] at hIs
    have hib1 := hib k r.dst
    rw [← hi1] at hib1
    have hedge := edgesF_snoc (d.rules.take k) r
    rw [← take_at hrk] at hedge
    have hfl : slk (fam 3 1024 (famX ⟨k, g, L, xs, inn⟩) ++ []) (r.src.toNat + 3) = famX ⟨k, g, L, xs, inn⟩ r.src.toNat := slk_fam (by omega)
    dsimp only
    refine wk2 (fun h => ⟨?_⟩) (fun h => ⟨?_⟩)
    · have hg0 : r.guards.length = 0 := by omega
      rw [if_pos hg0] at hedge
      refine a_freeze0 [1027] (by exact .pack (k := 6) (v := .iptr (ruleR.cells r)) (pk_boxw (r := ruleR) (x := r) rfl rfl rfl) (.keep (k := 23) FV.int (.keep (k := 1) FV.ptr (.keep (k := 3) FV.row (.keep (k := 4) FV.row (.keep (k := 21) FV.list (.keep (k := 22) FV.int .nil))))))) ?_
      by_cases hz : xs r.src.toNat = []
      · have hTz : (outC 3 n g fun i => (xs i).length)[r.src.toNat]? = some [V.nil] := by rw [hT, hz]; rfl
        clear hT
        refine a_regionF [1, 2] ?_
        refine wk ⟨?_⟩
        refine a_next (⟨k + 1, fun j => if j = r.src.toNat then 0 else g j, fun j => if j = r.src.toNat then 0 else L j, fun j => if j = r.src.toNat then [r.dst] else xs j, fun t => if t = r.dst then inn r.dst + 1 else inn t⟩ : CySt) ⟨hlt, fun i => ?_, fun t => ?_⟩ (by simp only; omega) ?_
        · have := hx1 i
          simp only
          rw [hedge, toF_snoc]
          by_cases hii : i = r.src.toNat
          · rw [if_pos hii, if_pos hii, if_pos hii, if_pos (by omega), ← (hx1 i).2, hii, hz]
            exact ⟨Nat.le_refl _, rfl⟩
          · rw [if_neg hii, if_neg hii, if_neg hii, if_neg (by omega)]
            exact this
        · simp only
          rw [hedge, innF_snoc]
          by_cases htt : t = r.dst
          · rw [if_pos htt, if_pos htt, htt, hi1]
          · rw [if_neg htt, if_neg htt, hi1]
        refine endF1 (b := 3) (K := 1024) (i := r.src.toNat) (k := 1029) (f := famX ⟨k, g, L, xs, inn⟩) (cx := [(2, some (.cells 3 1 0 0 ((innL n inn).map intR.cells))), (1, some (.cells 88 1 0 0 (outC 3 n g fun i => (xs i).length))), (0, some (.cells 27 6 0 0 [descR.cells d]))]) (CS := [(2, some (.cells 3 1 0 0 ((innL n fun t => if t = r.dst then inn r.dst + 1 else inn t).map intR.cells))), (1, some (.cells 88 1 0 0 (outC 3 n (fun j => if j = r.src.toNat then 0 else g j) fun i => (if i = r.src.toNat then [r.dst] else xs i).length))), (0, some (.cells 27 6 0 0 [descR.cells d]))]) (by omega) ?_ ?_ (fun j hj hji => ?_) rfl (RnX.of_eq (r := intR) (ys := [r.dst]) rfl) ?_ ?_ ?_ (by decide) (by decide) (fun id hid hno => ?_)
        · all_goals repeat' first | exact Rn.row rfl | exact ⟨_, _, _, _, _, _, rfl, rfl, RnX.of_eq rfl⟩ | exact trivial | refine And.intro ?_ ?_ | exact rn_int rfl | exact rn_list rfl | exact rn_row rfl ⟨rfl, rfl, rfl⟩ | exact rn_ptr rfl | exact rn_bool rfl | exact rn_agg rfl | exact rn_iptr rfl | exact rn_map rfl | exact rn_nrows rfl | exact rn_new rfl rfl rfl (by omega) | refine rn_int ?_ | refine rn_bool ?_ | refine rn_list ?_ | refine rn_row rfl ⟨?_, ?_, ?_⟩ | refine rn_nrow rfl ⟨rfl, ?_⟩ ?_ | refine rn_agg ?_ | exact Exists.intro _ ⟨rfl, RnB.cells (RnX.of_eq rfl), rfl⟩ | exact Exists.intro _ ⟨rfl, RnB.cells (RnX.of_eq (map_snoc rfl)), rfl⟩ | exact Exists.intro _ ⟨rfl, RnB.cells (RnX.of_eq (map_setc rfl)), rfl⟩ | exact Exists.intro _ ⟨rfl, RnB.cells (RnX.of_eq (map_inc rfl)), rfl⟩ | exact Exists.intro _ ⟨rfl, RnB.cells (RnX.of_eq (map_snocs rfl)), rfl⟩ | refine Exists.intro _ ⟨rfl, RnB.cells (RnX.cons (RnC.cons ?_ ?_ RnC.nil) RnX.nil), rfl⟩ | exact Exists.intro _ ⟨rfl, RnB.hole, rfl⟩ | refine Exists.intro _ ⟨rfl, rnm_of ?_, rfl⟩ | exact nrow_one | refine old_nbs ?_ rfl | refine old_nb ?_ ⟨?_, _, rfl, RnB.cells (RnX.of_eq (map_snoc rfl)), rfl⟩ | refine old_nb ?_ ⟨?_, _, rfl, RnB.cells (RnX.of_eq (map_snocs rfl)), rfl⟩ | refine old_nb ?_ ⟨?_, _, rfl, RnB.cells (RnX.of_eq (map_inc rfl)), rfl⟩ | refine old_nb ?_ ⟨?_, _, rfl, RnB.cells (RnX.of_eq rfl), rfl⟩ | rfl | (simp only []; omega) | (simp; done) | (simp; omega) | assumption
        · refine ⟨⟨by simp, _, rfl, RnB.cells (RnX.of_eq (r := intR) (congrArg (List.map intR.cells) hIs)), rfl⟩, ⟨by simp, _, rfl, RnB.cells (rnx_outC hj (by omega) (fun j hne => by simp [hne]) ?_), rfl⟩, ⟨by simp, _, rfl, RnB.cells (RnX.of_eq (r := descR) (ys := [d]) rfl), rfl⟩, trivial⟩
          · rw [if_pos rfl, if_pos rfl]
            exact rn_new rfl rfl rfl (by decide)
        · have e : famX ⟨k + 1, fun j => if j = r.src.toNat then 0 else g j, fun j => if j = r.src.toNat then 0 else L j, fun j => if j = r.src.toNat then [r.dst] else xs j, fun t => if t = r.dst then inn r.dst + 1 else inn t⟩ j = famX ⟨k, g, L, xs, inn⟩ j := by simp [famX, hji]
          rw [e]
          exact old_nbs (r := intR) (by omega) (Pass.fam (K := 1024) (x := 0) (f := famX ⟨k, g, L, xs, inn⟩) (T := _) (by repeat' first | refine Pass.cons rfl ?_ | exact Pass.refl _) hj (by omega))
        · simp [famX, nb]
        · simp [famX, nb, hz]
        · refine (Pass.fam (K := 1024) (x := 0) (f := famX ⟨k, g, L, xs, inn⟩) (T := _) (by repeat' first | refine Pass.cons rfl ?_ | exact Pass.refl _) (by omega) (by omega)).trans ?_
          simp [famX, nb, hz]
        · exact absurd (fam_all (b := 3) (K := 1024) hid fun i hi => by simp; omega) hno
      · have hlen : 0 < (xs r.src.toNat).length := List.length_pos_iff.2 hz
        have hTz : (outC 3 n g fun i => (xs i).length)[r.src.toNat]? = some [V.row (r.src.toNat + 3) (g r.src.toNat) 0 (xs r.src.toNat).length] := by rw [hT, nrow_pos hlen]
        have hrow : famX ⟨k, g, L, xs, inn⟩ r.src.toNat = some (.cells 3 1 (g r.src.toNat) (L r.src.toNat) ((xs r.src.toNat).map intR.cells)) := nb_pos (by simpa using hlen)
        have hxl := hbd k r.src
        have hx1j := hx1 r.src.toNat
        have hss : ((r.src.toNat : Nat) : Int) = r.src := by omega
        rw [hss] at hx1j
        rw [← hx1j.2] at hxl
        clear hT
        refine a_regionF [1, 2] ?_
        refine wk ⟨?_⟩
        show frun _ _ _ _ _ _ (⟨some _, _, _, _, _, none⟩ :: _) _ _ _
        refine fr_s ?_ (ev_app_row1m (hc := (Pass.fam (K := 1024) (x := 0) (T := _) (by repeat' first | refine Pass.cons rfl ?_ | exact Pass.refl _) (by omega) (by omega)).trans hrow))
        refine wk ⟨?_⟩
        refine a_next (⟨k + 1, fun j => if j = r.src.toNat then g j + 1 else g j, L, fun j => if j = r.src.toNat then xs j ++ [r.dst] else xs j, fun t => if t = r.dst then inn r.dst + 1 else inn t⟩ : CySt) ⟨hlt, fun i => ?_, fun t => ?_⟩ (by simp only; omega) ?_
        · have := hx1 i
          simp only
          rw [hedge, toF_snoc]
          by_cases hii : i = r.src.toNat
          · rw [if_pos hii, if_pos hii, if_pos (by omega), this.2]
            exact ⟨by omega, rfl⟩
          · rw [if_neg hii, if_neg hii, if_neg (by omega)]
            exact this
        · simp only
          rw [hedge, innF_snoc]
          by_cases htt : t = r.dst
          · rw [if_pos htt, if_pos htt, htt, hi1]
          · rw [if_neg htt, if_neg htt, hi1]
        refine endF0 (b := 3) (K := 1024) (f := famX ⟨k, g, L, xs, inn⟩) (cx := [(2, some (.cells 3 1 0 0 ((innL n inn).map intR.cells))), (1, some (.cells 88 1 0 0 (outC 3 n g fun i => (xs i).length))), (0, some (.cells 27 6 0 0 [descR.cells d]))]) (CS := [(2, some (.cells 3 1 0 0 ((innL n fun t => if t = r.dst then inn r.dst + 1 else inn t).map intR.cells))), (1, some (.cells 88 1 0 0 (outC 3 n (fun j => if j = r.src.toNat then g j + 1 else g j) fun i => (if i = r.src.toNat then xs i ++ [r.dst] else xs i).length))), (0, some (.cells 27 6 0 0 [descR.cells d]))]) ?_ ?_ (fun j hj => ?_) (fun id hid hno => ?_)
        · all_goals repeat' first | exact Rn.row rfl | exact ⟨_, _, _, _, _, _, rfl, rfl, RnX.of_eq rfl⟩ | exact trivial | refine And.intro ?_ ?_ | exact rn_int rfl | exact rn_list rfl | exact rn_row rfl ⟨rfl, rfl, rfl⟩ | exact rn_ptr rfl | exact rn_bool rfl | exact rn_agg rfl | exact rn_iptr rfl | exact rn_map rfl | exact rn_nrows rfl | exact rn_new rfl rfl rfl (by omega) | refine rn_int ?_ | refine rn_bool ?_ | refine rn_list ?_ | refine rn_row rfl ⟨?_, ?_, ?_⟩ | refine rn_nrow rfl ⟨rfl, ?_⟩ ?_ | refine rn_agg ?_ | exact Exists.intro _ ⟨rfl, RnB.cells (RnX.of_eq rfl), rfl⟩ | exact Exists.intro _ ⟨rfl, RnB.cells (RnX.of_eq (map_snoc rfl)), rfl⟩ | exact Exists.intro _ ⟨rfl, RnB.cells (RnX.of_eq (map_setc rfl)), rfl⟩ | exact Exists.intro _ ⟨rfl, RnB.cells (RnX.of_eq (map_inc rfl)), rfl⟩ | exact Exists.intro _ ⟨rfl, RnB.cells (RnX.of_eq (map_snocs rfl)), rfl⟩ | refine Exists.intro _ ⟨rfl, RnB.cells (RnX.cons (RnC.cons ?_ ?_ RnC.nil) RnX.nil), rfl⟩ | exact Exists.intro _ ⟨rfl, RnB.hole, rfl⟩ | refine Exists.intro _ ⟨rfl, rnm_of ?_, rfl⟩ | exact nrow_one | refine old_nbs ?_ rfl | refine old_nb ?_ ⟨?_, _, rfl, RnB.cells (RnX.of_eq (map_snoc rfl)), rfl⟩ | refine old_nb ?_ ⟨?_, _, rfl, RnB.cells (RnX.of_eq (map_snocs rfl)), rfl⟩ | refine old_nb ?_ ⟨?_, _, rfl, RnB.cells (RnX.of_eq (map_inc rfl)), rfl⟩ | refine old_nb ?_ ⟨?_, _, rfl, RnB.cells (RnX.of_eq rfl), rfl⟩ | rfl | (simp only []; omega) | (simp; done) | (simp; omega) | assumption
        · refine ⟨⟨by simp, _, rfl, RnB.cells (RnX.of_eq (r := intR) (congrArg (List.map intR.cells) hIs)), rfl⟩, ⟨by simp, _, rfl, RnB.cells (rnx_outC hj (by omega) (fun j hne => by simp [hne]) ?_), rfl⟩, ⟨by simp, _, rfl, RnB.cells (RnX.of_eq (r := descR) (ys := [d]) rfl), rfl⟩, trivial⟩
          rw [if_pos rfl, if_pos rfl]
          exact rn_nrow (by simp only [Nat.blt_eq]; omega) ⟨rfl, by simp⟩ (by omega)
        · by_cases hji : j = r.src.toNat
          · subst hji
            have e : famX ⟨k + 1, fun j => if j = r.src.toNat then g j + 1 else g j, L, fun j => if j = r.src.toNat then xs j ++ [r.dst] else xs j, fun t => if t = r.dst then inn r.dst + 1 else inn t⟩ r.src.toNat = nb 3 1 (g r.src.toNat + 1) (L r.src.toNat) ((xs r.src.toNat ++ [r.dst]).map intR.cells) := by simp [famX]
            rw [e]
            refine old_nbs (r := intR) (by omega) ?_
            rw [nb_pos (by simp)]
            rw [fam_cons_ne (by simp only; omega), fam_cons_ne (by simp only; omega), slk_here, List.map_append]
            rfl
          · have e : famX ⟨k + 1, fun j => if j = r.src.toNat then g j + 1 else g j, L, fun j => if j = r.src.toNat then xs j ++ [r.dst] else xs j, fun t => if t = r.dst then inn r.dst + 1 else inn t⟩ j = famX ⟨k, g, L, xs, inn⟩ j := by simp [famX, hji]
            rw [e]
            exact old_nbs (r := intR) (by omega) (Pass.fam (K := 1024) (x := r.src.toNat + 3) (f := famX ⟨k, g, L, xs, inn⟩) (T := _) (by repeat' first | refine Pass.cons rfl ?_ | refine Pass.here ?_ | exact Pass.refl _) hj (by omega))
        · exact absurd (fam_all (b := 3) (K := 1024) hid fun i hi => by simp; omega) hno
    · have hg0 : ¬ r.guards.length = 0 := by omega
      rw [if_neg hg0, List.append_nil] at hedge
      refine a_next (⟨k + 1, g, L, xs, inn⟩ : CySt) ⟨hlt, fun i => by simp only; rw [hedge]; exact hx1 i, fun t => by simp only; rw [hedge]; exact hi1 t⟩ (by simp only; omega) ?_
      refine endF0 (b := 3) (K := 1024) (f := famX ⟨k, g, L, xs, inn⟩) (cx := [(2, some (.cells 3 1 0 0 ((innL n inn).map intR.cells))), (1, some (.cells 88 1 0 0 (outC 3 n g fun i => (xs i).length))), (0, some (.cells 27 6 0 0 [descR.cells d]))]) (CS := [(2, some (.cells 3 1 0 0 ((innL n inn).map intR.cells))), (1, some (.cells 88 1 0 0 (outC 3 n g fun i => (xs i).length))), (0, some (.cells 27 6 0 0 [descR.cells d]))]) ?_ ?_ (fun j hj => ?_) (fun id hid hno => ?_)
      · all_goals repeat' first | exact Rn.row rfl | exact ⟨_, _, _, _, _, _, rfl, rfl, RnX.of_eq rfl⟩ | exact trivial | refine And.intro ?_ ?_ | exact rn_int rfl | exact rn_list rfl | exact rn_row rfl ⟨rfl, rfl, rfl⟩ | exact rn_ptr rfl | exact rn_bool rfl | exact rn_agg rfl | exact rn_iptr rfl | exact rn_map rfl | exact rn_nrows rfl | exact rn_new rfl rfl rfl (by omega) | refine rn_int ?_ | refine rn_bool ?_ | refine rn_list ?_ | refine rn_row rfl ⟨?_, ?_, ?_⟩ | refine rn_nrow rfl ⟨rfl, ?_⟩ ?_ | refine rn_agg ?_ | exact Exists.intro _ ⟨rfl, RnB.cells (RnX.of_eq rfl), rfl⟩ | exact Exists.intro _ ⟨rfl, RnB.cells (RnX.of_eq (map_snoc rfl)), rfl⟩ | exact Exists.intro _ ⟨rfl, RnB.cells (RnX.of_eq (map_setc rfl)), rfl⟩ | exact Exists.intro _ ⟨rfl, RnB.cells (RnX.of_eq (map_inc rfl)), rfl⟩ | exact Exists.intro _ ⟨rfl, RnB.cells (RnX.of_eq (map_snocs rfl)), rfl⟩ | refine Exists.intro _ ⟨rfl, RnB.cells (RnX.cons (RnC.cons ?_ ?_ RnC.nil) RnX.nil), rfl⟩ | exact Exists.intro _ ⟨rfl, RnB.hole, rfl⟩ | refine Exists.intro _ ⟨rfl, rnm_of ?_, rfl⟩ | exact nrow_one | refine old_nbs ?_ rfl | refine old_nb ?_ ⟨?_, _, rfl, RnB.cells (RnX.of_eq (map_snoc rfl)), rfl⟩ | refine old_nb ?_ ⟨?_, _, rfl, RnB.cells (RnX.of_eq (map_snocs rfl)), rfl⟩ | refine old_nb ?_ ⟨?_, _, rfl, RnB.cells (RnX.of_eq (map_inc rfl)), rfl⟩ | refine old_nb ?_ ⟨?_, _, rfl, RnB.cells (RnX.of_eq rfl), rfl⟩ | rfl | (simp only []; omega) | (simp; done) | (simp; omega) | assumption
      · refine ⟨⟨by simp, _, rfl, RnB.cells (RnX.of_eq (r := intR) rfl), rfl⟩, ⟨by simp, _, rfl, RnB.cells (rnx_same (by omega)), rfl⟩, ⟨by simp, _, rfl, RnB.cells (RnX.of_eq (r := descR) (ys := [d]) rfl), rfl⟩, trivial⟩
      · exact old_nbs (r := intR) (by omega) (Pass.fam (K := 1024) (x := 0) (f := famX ⟨k, g, L, xs, inn⟩) (T := _) (by repeat' first | refine Pass.cons rfl ?_ | exact Pass.refl _) hj (by omega))
      · exact absurd (fam_all (b := 3) (K := 1024) hid fun i hi => by simp; omega) hno
end Go.Proofs.YtofcjmjokokajaaGreat
namespace Go.Proofs.YtofcjmjokokajaaGreat
open Go.RowKit Go.Um Go.Proofs Go.Vm
def finF (d : Desc) (f : Final) : Bool := stateF d.states f.src && guardsF d.inn f.guards && writesF d.inn d.out f.out f.guards
def whereF (d : Desc) : Int × Int := if headF d = false then (1, 0) else match d.rules.findIdx? (fun r => !ruleF d r) with
  | some i => (2, i)
  | none => match d.finals.findIdx? (fun f => !finF d f) with
    | some i => (3, i)
    | none => if kahnF (edgesF d.rules) d.states.toNat then (4, 0) else (0, 0)
def checkF (d : Desc) : Int := if (whereF d).1 = 0 then 0 else 2
theorem findIdx_at {α : Type} {p : α → Bool} {xs : List α} {k : Nat} {x : α} (h : ∀ j y, j < k → xs[j]? = some y → p y = false) (hx : xs[k]? = some x) (hp : p x = true) : xs.findIdx? p = some k := by
  rw [List.findIdx?_eq_some_iff_getElem]
  obtain ⟨hk, rfl⟩ := List.getElem?_eq_some_iff.1 hx
  exact ⟨hk, hp, fun j hj => by rw [h j _ hj (List.getElem?_eq_getElem (by omega))]; simp⟩
theorem findIdx_no {α : Type} {p : α → Bool} {xs : List α} (h : ∀ j y, j < xs.length → xs[j]? = some y → p y = false) : xs.findIdx? p = none := by
  rw [List.findIdx?_eq_none_iff]
  intro x hx
  obtain ⟨j, hj, rfl⟩ := List.getElem_of_mem hx
  exact h j _ hj (List.getElem?_eq_getElem hj)
attribute [local irreducible] Ev arun frun awp RetQ NextQ
set_option maxHeartbeats 4000000
theorem where_v (d : Desc) (hE : ∀ r ∈ d.rules, ¬ r.guards.length = 0) : VPure Tryz.prog 43 [.agg (descR.cells d)] (.tuple [.int .i64 (whereF d).1, .int .i64 (whereF d).2]) := by
  have hh := head_v d
  unfold whereF
  refine a_pure (n0 := 0) (hN := Tryz.ntmps43) (hf := Tryz.func43) ?_
  refine wk ⟨?_⟩
  refine ar_pure hh ?_
  cases hhd : headF d with
  | false =>
    refine wk ⟨?_⟩
    exact ret_two (.inr rfl) rfl rfl rfl (pk_int rfl) (pk_int rfl)
  | true =>
    rw [if_neg (by simp)]
    have hhd0 := hhd
    simp only [headF, Bool.and_eq_true, decide_eq_true_eq] at hhd0
    obtain ⟨⟨⟨⟨⟨⟨hh1, hh2⟩, hh3⟩, hh4⟩, hh5⟩, hh6⟩, hh7⟩ := hhd0
    refine wk ⟨?_⟩
    refine a_loop (σ := Nat) 0 [1, 12, 13] (fun k => [(14, V.int .i64 (k : Int))]) (fun _ => []) (fun k => k ≤ d.rules.length ∧ ∀ j y, j < k → d.rules[j]? = some y → (!ruleF d y) = false) (fun k => d.rules.length - k) 0 ⟨Nat.zero_le _, fun j y h => by omega⟩ ?_
    rintro k ⟨hk, ho⟩
    obtain hx | ⟨r, hx, hlt⟩ := range_cases hk
    · subst k
      rw [findIdx_no ho]
      simp only
      refine wk ⟨?_⟩
      refine a_loop (σ := Nat) 0 [1, 26, 27] (fun k => [(28, V.int .i64 (k : Int))]) (fun _ => []) (fun k => k ≤ d.finals.length ∧ ∀ j y, j < k → d.finals[j]? = some y → (!finF d y) = false) (fun k => d.finals.length - k) 0 ⟨Nat.zero_le _, fun j y h => by omega⟩ ?_
      rintro k ⟨hk, ho2⟩
      obtain hx | ⟨f, hx, hlt⟩ := range_cases hk
      · subst k
        rw [findIdx_no ho2]
        simp only
        have hrr : ∀ r ∈ d.rules, ruleF d r = true := fun r hr => by
          obtain ⟨j, hj, rfl⟩ := List.getElem_of_mem hr
          simpa using ho j _ hj (List.getElem?_eq_getElem hj)
        have hcy := cycle_v d d.states.toNat (by omega) (by omega) (by omega) hE hh6 (fun r hr => by
          have h1 := hrr r hr
          simp only [ruleF, stateF, Bool.and_eq_true, decide_eq_true_eq] at h1
          exact ⟨h1.1.1.1.1, h1.1.1.1.2⟩)
        generalize kahnF (edgesF d.rules) d.states.toNat = b at hcy ⊢
        refine wk ⟨?_⟩
        refine ar_pure hcy ?_
        cases b with
        | false =>
          refine wk ⟨?_⟩
          exact ret_two (.inr rfl) rfl rfl rfl (pk_int rfl) (pk_int rfl)
        | true =>
          refine wk ⟨?_⟩
          exact ret_two (.inr rfl) rfl rfl rfl (pk_int rfl) (pk_int rfl)
      · have h1 := state_v d f.src
        have h2 := guards_v d.inn f.guards
        have hF : finF d f = (stateF d.states f.src && guardsF d.inn f.guards && writesF d.inn d.out f.out f.guards) := rfl
        have hnext : finF d f = true → ∀ j y, j < k + 1 → d.finals[j]? = some y → (!finF d y) = false := fun hr j y hj hy => by
          by_cases hjk : j = k
          · subst hjk
            rw [hx] at hy
            cases hy
            rw [hr]
            rfl
          · exact ho2 j y (by omega) hy
        have hbad : finF d f = false → d.finals.findIdx? (fun f => !finF d f) = some k := fun hr => findIdx_at ho2 hx (by rw [hr]; rfl)
        cases hb1 : stateF d.states f.src with
        | false =>
          rw [hb1] at h1
          rw [hbad (by rw [hF, hb1]; rfl)]
          refine wk ⟨?_⟩
          refine ar_pure h1 ?_
          refine wk ⟨?_⟩
          exact ret_two (.inr rfl) rfl rfl rfl (pk_int rfl) (pk_int rfl)
        | true =>
          rw [hb1] at h1
          cases hb2 : guardsF d.inn f.guards with
          | false =>
            rw [hb2] at h2
            rw [hbad (by rw [hF, hb1, hb2]; rfl)]
            refine wk ⟨?_⟩
            refine ar_pure h1 ?_
            refine wk ⟨?_⟩
            refine ar_pure h2 ?_
            refine wk ⟨?_⟩
            exact ret_two (.inr rfl) rfl rfl rfl (pk_int rfl) (pk_int rfl)
          | true =>
            rw [hb2] at h2
            obtain ⟨g1, g2⟩ := guardsF_good hb2
            have h4 := writes_v d f.out f.guards g1 g2
            cases hb3 : writesF d.inn d.out f.out f.guards with
            | false =>
              rw [hb3] at h4
              rw [hbad (by rw [hF, hb1, hb2, hb3]; rfl)]
              refine wk ⟨?_⟩
              refine ar_pure h1 ?_
              refine wk ⟨?_⟩
              refine ar_pure h2 ?_
              refine wk ⟨?_⟩
              refine ar_pure h4 ?_
              refine wk ⟨?_⟩
              exact ret_two (.inr rfl) rfl rfl rfl (pk_int rfl) (pk_int rfl)
            | true =>
              rw [hb3] at h4
              refine wk ⟨?_⟩
              refine ar_pure h1 ?_
              refine wk ⟨?_⟩
              refine ar_pure h2 ?_
              refine wk ⟨?_⟩
              refine ar_pure h4 ?_
              refine wk ⟨?_⟩
              refine a_next (k + 1) ⟨hlt, hnext (by rw [hF, hb1, hb2, hb3]; rfl)⟩ (by omega) ?_
              exact wz
    · have hv := rule_v d r
      refine wk ⟨?_⟩
      refine ar_pure hv ?_
      cases hr : ruleF d r with
      | false =>
        rw [findIdx_at ho hx (by rw [hr]; rfl)]
        refine wk ⟨?_⟩
        exact ret_two (.inr rfl) rfl rfl rfl (pk_int rfl) (pk_int rfl)
      | true =>
        refine wk ⟨?_⟩
        refine a_next (k + 1) ⟨hlt, fun j y hj hy => ?_⟩ (by omega) ?_
        · by_cases hjk : j = k
          · subst hjk
            rw [hx] at hy
            cases hy
            rw [hr]
            rfl
          · exact ho j y (by omega) hy
        · exact wz
theorem dcheck_v (d : Desc) (hE : ∀ r ∈ d.rules, ¬ r.guards.length = 0) : VPure Tryz.prog 15 [.agg (descR.cells d)] (.int .i64 (checkF d)) := by
  have hw := where_v d hE
  unfold checkF
  generalize whereF d = p at hw ⊢
  refine a_pure (n0 := 0) (hN := Tryz.ntmps15) (hf := Tryz.func15) ?_
  refine wk ⟨?_⟩
  refine ar_pure hw ?_
  refine wk2 (fun h => ⟨?_⟩) (fun h => ⟨?_⟩)
  · exact ret_tmp (.inr rfl) rfl rfl (pk_int (by rw [if_neg (by assumption)]))
  · exact ret_tmp (.inr rfl) rfl rfl (pk_int (by rw [if_pos (by omega)]))
end Go.Proofs.YtofcjmjokokajaaGreat
namespace Go.Proofs.YtofcjmjokokajaaGreat
open Go.Proofs Go.Um Go.RowKit Go.Vm
theorem drop_cons {α : Type} {xs : List α} {i : Nat} {x : α} (h : xs[i]? = some x) : xs.drop i = x :: xs.drop (i + 1) := drop_at h
def hasI (l : List Span) (x : Int) : Bool := decide (-1073741824 ≤ x ∧ x ≤ 1073741824) && hasB l x
theorem hasI_iff {l : List Span} {x : Int} : hasI l x = true ↔ inSet l x := by
  unfold hasI inSet
  rw [Bool.and_eq_true, decide_eq_true_eq, hasB_iff]
def winF (x : List Int) (a n : Nat) : List Int := (x.drop a).take n
def writesV (out : List Term) (w : List Int) : List Int := out.map fun t => tvalF t w
def fitsX (x : List Int) (gs : List (List Span)) (a : Nat) : Prop := gs.length ≤ x.length - a ∧ ∀ (i : Nat) (g : List Span) (z : Int), gs[i]? = some g → x[a + i]? = some z → inSet g z
inductive Run (d : Desc) (x : List Int) : Nat → Int → List Int → Prop
  | fin {a : Nat} {s : Int} {w : List Int} (f : Final) (hf : f ∈ d.finals) (hs : f.src = s) (hl : f.guards.length = x.length - a) (hx : fitsX x f.guards a) (hw : w = writesV f.out (winF x a f.guards.length)) : Run d x a s w
  | step {a : Nat} {s : Int} {w u : List Int} (r : Rule) (hr : r ∈ d.rules) (hs : r.src = s) (hx : fitsX x r.guards a) (h : Run d x (a + r.eat.toNat) r.dst u) (hw : w = writesV r.out (winF x a r.guards.length) ++ u) : Run d x a s w
theorem win_at {x : List Int} {a n i : Nat} (h : i < n) : (winF x a n)[i]? = x[a + i]? := by
  unfold winF
  rw [List.getElem?_take, if_pos h, List.getElem?_drop]
def fitsL : List (List Span) → List Int → Bool
  | [], _ => true
  | _ :: _, [] => false
  | g :: gs, z :: zs => hasI g z && fitsL gs zs
def fitsB (x : List Int) (gs : List (List Span)) (a : Nat) : Bool := fitsL gs (x.drop a)
theorem fitsL_iff : ∀ {gs : List (List Span)} {x : List Int}, fitsL gs x = true ↔ gs.length ≤ x.length ∧ ∀ (i : Nat) (g : List Span) (z : Int), gs[i]? = some g → x[i]? = some z → inSet g z
  | [], x => by simp [fitsL]
  | g :: gs, [] => by simp [fitsL]
  | g :: gs, z :: zs => by
    unfold fitsL
    rw [Bool.and_eq_true, hasI_iff, fitsL_iff (gs := gs) (x := zs)]
    simp only [List.length_cons, Nat.add_le_add_iff_right]
    constructor
    · rintro ⟨h1, h2, h3⟩
      refine ⟨h2, fun i g' z' hg hz => ?_⟩
      cases i with
      | zero => simp at hg hz; subst hg; subst hz; exact h1
      | succ i => exact h3 i g' z' (by simpa using hg) (by simpa using hz)
    · rintro ⟨h2, h3⟩
      exact ⟨h3 0 g z rfl rfl, h2, fun i g' z' hg hz => h3 (i + 1) g' z' (by simpa using hg) (by simpa using hz)⟩
theorem fitsB_iff {x : List Int} {gs : List (List Span)} {a : Nat} : fitsB x gs a = true ↔ fitsX x gs a := by
  unfold fitsB fitsX
  rw [fitsL_iff, List.length_drop]
  simp only [List.getElem?_drop]
theorem fitsL_cons {gs : List (List Span)} {x : List Int} {i j : Nat} {g : List Span} {z : Int} (hg : gs[i]? = some g) (hz : x[j]? = some z) : fitsL (gs.drop i) (x.drop j) = (hasI g z && fitsL (gs.drop (i + 1)) (x.drop (j + 1))) := by
  rw [drop_cons hg, drop_cons hz]
  rfl
inductive Reach (d : Desc) (x : List Int) : Nat → Int → Prop
  | start : Reach d x 0 d.start
  | step {a : Nat} {s : Int} (r : Rule) (h : Reach d x a s) (hr : r ∈ d.rules) (hs : r.src = s) (hx : fitsX x r.guards a) : Reach d x (a + r.eat.toNat) r.dst
def idxF (srcs : List Int) (k : Nat) (s : Int) : List Int := ((List.range k).filter fun i => srcs[i]? == some s).map Int.ofNat
theorem idxF_succ {srcs : List Int} {k : Nat} {t : Int} (h : srcs[k]? = some t) (s : Int) : idxF srcs (k + 1) s = if s = t then idxF srcs k s ++ [(k : Int)] else idxF srcs k s := by
  unfold idxF
  rw [List.range_succ, List.filter_append, List.map_append]
  by_cases e : s = t
  · subst e
    rw [if_pos rfl]
    simp [h]
  · rw [if_neg e]
    have : ¬ t = s := fun h => e h.symm
    simp [h, this]
theorem idxF_len (srcs : List Int) (k : Nat) (s : Int) : (idxF srcs k s).length ≤ k := by
  unfold idxF
  rw [List.length_map]
  exact Nat.le_trans (List.length_filter_le _ _) (by simp)
theorem idxF_mem {srcs : List Int} {k : Nat} {s i : Int} : i ∈ idxF srcs k s ↔ ∃ j : Nat, i = j ∧ j < k ∧ srcs[j]? = some s := by
  unfold idxF
  rw [List.mem_map]
  constructor
  · rintro ⟨j, hj, rfl⟩
    rw [List.mem_filter, List.mem_range] at hj
    exact ⟨j, rfl, hj.1, by simpa using hj.2⟩
  · rintro ⟨j, rfl, h1, h2⟩
    exact ⟨j, List.mem_filter.2 ⟨List.mem_range.2 h1, by simpa using h2⟩, rfl⟩
def rulesOf (d : Desc) (s : Int) : List Int := idxF (d.rules.map (·.src)) d.rules.length s
def finalsOf (d : Desc) (s : Int) : List Int := idxF (d.finals.map (·.src)) d.finals.length s
theorem rulesOf_mem {d : Desc} {s i : Int} : i ∈ rulesOf d s ↔ ∃ (j : Nat) (r : Rule), i = j ∧ d.rules[j]? = some r ∧ r.src = s := by
  unfold rulesOf
  rw [idxF_mem]
  constructor
  · rintro ⟨j, rfl, h1, h2⟩
    rw [List.getElem?_map] at h2
    obtain ⟨r, h3, h4⟩ := Option.map_eq_some_iff.1 h2
    exact ⟨j, r, rfl, h3, h4⟩
  · rintro ⟨j, r, rfl, h1, h2⟩
    exact ⟨j, rfl, (List.getElem?_eq_some_iff.1 h1).1, by rw [List.getElem?_map, h1]; simp [h2]⟩
theorem finalsOf_mem {d : Desc} {s i : Int} : i ∈ finalsOf d s ↔ ∃ (j : Nat) (r : Final), i = j ∧ d.finals[j]? = some r ∧ r.src = s := by
  unfold finalsOf
  rw [idxF_mem]
  constructor
  · rintro ⟨j, rfl, h1, h2⟩
    rw [List.getElem?_map] at h2
    obtain ⟨r, h3, h4⟩ := Option.map_eq_some_iff.1 h2
    exact ⟨j, r, rfl, h3, h4⟩
  · rintro ⟨j, r, rfl, h1, h2⟩
    exact ⟨j, rfl, (List.getElem?_eq_some_iff.1 h1).1, by rw [List.getElem?_map, h1]; simp [h2]⟩
def Eps (d : Desc) (s t : Int) : Prop := ∃ r ∈ d.rules, r.guards = [] ∧ r.src = s ∧ r.dst = t
structure Ord (d : Desc) (ord : List Int) : Prop where
  nd : ord.Nodup
  eps : ∀ (k : Nat) (s t : Int), ord[k]? = some s → Eps d s t → ∃ j, j < k ∧ ord[j]? = some t
def stepE (E : Nat → Nat → Bool) (L : Nat → Bool) (q : Nat) : Nat → Bool := fun p => L p || (L q && E q p)
theorem fold_mono {E : Nat → Nat → Bool} : ∀ {P : List Nat} {L : Nat → Bool} {p : Nat}, L p = true → P.foldl (stepE E) L p = true
  | [], _, _, h => h
  | q :: P, L, p, h => fold_mono (P := P) (by unfold stepE; rw [h, Bool.true_or])
theorem fold_same {E : Nat → Nat → Bool} {q : Nat} : ∀ {P : List Nat} {L : Nat → Bool}, (∀ r ∈ P, E r q = false) → P.foldl (stepE E) L q = L q
  | [], _, _ => rfl
  | r :: P, L, h => by
    rw [List.foldl_cons, fold_same (P := P) fun r' hr' => h r' (List.mem_cons_of_mem _ hr')]
    unfold stepE
    rw [h r List.mem_cons_self, Bool.and_false, Bool.or_false]
theorem fold_closed {E : Nat → Nat → Bool} : ∀ {P : List Nat} {L : Nat → Bool}, P.Pairwise (fun q r => E r q = false) → ∀ {q p : Nat}, q ∈ P → P.foldl (stepE E) L q = true → E q p = true → P.foldl (stepE E) L p = true
  | r :: P, L, hp, q, p, hq, h, he => by
    rw [List.pairwise_cons] at hp
    rw [List.foldl_cons] at h ⊢
    rcases List.mem_cons.1 hq with rfl | hq'
    · rw [fold_same hp.1] at h
      refine fold_mono ?_
      have h1 : L q = true := by
        unfold stepE at h
        cases hl : L q with
        | true => rfl
        | false => rw [hl] at h; simp at h
      unfold stepE
      rw [h1, he]
      simp
    · exact fold_closed hp.2 hq' h he
theorem fold_sound {E : Nat → Nat → Bool} {T : Nat → Prop} (hE : ∀ q p, T q → E q p = true → T p) : ∀ {P : List Nat} {L : Nat → Bool}, (∀ p, L p = true → T p) → ∀ p, P.foldl (stepE E) L p = true → T p
  | [], _, h, p, hp => h p hp
  | q :: P, L, h, p, hp => by
    refine fold_sound hE (P := P) (L := stepE E L q) (fun p' hp' => ?_) p hp
    unfold stepE at hp'
    rw [Bool.or_eq_true, Bool.and_eq_true] at hp'
    rcases hp' with h1 | ⟨h1, h2⟩
    · exact h p' h1
    · exact hE q p' (h q h1) h2
def edgeB (d : Desc) (x : List Int) (n q p : Nat) : Bool := d.rules.any fun r => decide (r.src = ((q % n : Nat) : Int)) && fitsB x r.guards (q / n) && decide (p = (q / n + r.eat.toNat) * n + r.dst.toNat)
def rowP1 (n a : Nat) (ord : List Int) : List Nat := ord.reverse.map fun s => a * n + s.toNat
def allP (n k : Nat) (ord : List Int) : List Nat := (List.range k).flatMap fun a => rowP1 n a ord
def liveF (d : Desc) (x : List Int) (n : Nat) (ord : List Int) (k : Nat) : Nat → Bool := (allP n k ord).foldl (stepE (edgeB d x n)) fun p => decide (p = d.start.toNat)
theorem liveF_succ (d : Desc) (x : List Int) (n : Nat) (ord : List Int) (k : Nat) : liveF d x n ord (k + 1) = (rowP1 n k ord).foldl (stepE (edgeB d x n)) (liveF d x n ord k) := by
  unfold liveF allP
  rw [List.range_succ, List.flatMap_append, List.foldl_append]
  simp
structure RuleOk (d : Desc) (n : Nat) : Prop where
  st : d.states = n
  start : 0 ≤ d.start ∧ d.start < n
  rule : ∀ r ∈ d.rules, (0 ≤ r.src ∧ r.src < n) ∧ (0 ≤ r.dst ∧ r.dst < n) ∧ 0 ≤ r.eat ∧ r.eat ≤ r.guards.length ∧ (r.eat = 0 → r.guards = []) ∧ r.out.length ≤ 64 ∧ guardsF d.inn r.guards = true ∧ writesF d.inn d.out r.out r.guards = true
  final : ∀ f ∈ d.finals, (0 ≤ f.src ∧ f.src < n) ∧ f.out.length ≤ 64 ∧ guardsF d.inn f.guards = true ∧ writesF d.inn d.out f.out f.guards = true
theorem code_div {n a s : Nat} (hs : s < n) : (a * n + s) / n = a ∧ (a * n + s) % n = s := by
  constructor
  · rw [Nat.mul_comm, Nat.mul_add_div (by omega), Nat.div_eq_of_lt hs, Nat.add_zero]
  · rw [Nat.mul_comm, Nat.mul_add_mod, Nat.mod_eq_of_lt hs]
theorem reach_in {d : Desc} {n : Nat} (h : RuleOk d n) {x : List Int} {a : Nat} {s : Int} (hr : Reach d x a s) : a ≤ x.length ∧ 0 ≤ s ∧ s < n := by
  induction hr with
  | start => exact ⟨Nat.zero_le _, h.start⟩
  | step r _ hr hs hx ih =>
    obtain ⟨_, h2, h3, h4, _⟩ := h.rule r hr
    have := hx.1
    refine ⟨by omega, h2⟩
theorem edgeB_iff {d : Desc} {x : List Int} {n a s p : Nat} (hs : s < n) : edgeB d x n (a * n + s) p = true ↔ ∃ r ∈ d.rules, r.src = (s : Int) ∧ fitsX x r.guards a ∧ p = (a + r.eat.toNat) * n + r.dst.toNat := by
  obtain ⟨h1, h2⟩ := code_div (a := a) hs
  unfold edgeB
  rw [List.any_eq_true, h1, h2]
  simp only [Bool.and_eq_true, decide_eq_true_eq, fitsB_iff, and_assoc]
theorem all_mem {n k : Nat} {ord : List Int} {a s : Nat} (ha : a < k) (hs : (s : Int) ∈ ord) : a * n + s ∈ allP n k ord := by
  unfold allP rowP1
  rw [List.mem_flatMap]
  exact ⟨a, List.mem_range.2 ha, List.mem_map.2 ⟨s, List.mem_reverse.2 hs, by simp⟩⟩
theorem code_inj {n a b s t : Nat} (hs : s < n) (ht : t < n) (h : a * n + s = b * n + t) : a = b ∧ s = t := by
  obtain ⟨h1, h2⟩ := code_div (a := a) hs
  obtain ⟨h3, h4⟩ := code_div (a := b) ht
  rw [h] at h1 h2
  exact ⟨h1.symm.trans h3, h2.symm.trans h4⟩
theorem pairwise_all {d : Desc} {n : Nat} (h : RuleOk d n) {x : List Int} {ord : List Int} (ho : Ord d ord) (hm : ∀ t ∈ ord, ∃ k : Nat, t = k ∧ k < n) (k : Nat) : (allP n k ord).Pairwise fun q r => edgeB d x n r q = false := by
  unfold allP
  rw [List.pairwise_flatMap]
  constructor
  · intro a _
    unfold rowP1
    rw [List.pairwise_map, List.pairwise_reverse]
    rw [List.pairwise_iff_getElem]
    intro i j hi hj hij
    obtain ⟨s, hs, hsn⟩ := hm ord[i] (List.getElem_mem _)
    obtain ⟨t, ht, htn⟩ := hm ord[j] (List.getElem_mem _)
    rw [hs, ht, Int.toNat_natCast, Int.toNat_natCast]
    cases he : edgeB d x n (a * n + s) (a * n + t) with
    | false => rfl
    | true =>
      exfalso
      obtain ⟨r, hr, h1, h2, h3⟩ := (edgeB_iff hsn).1 he
      obtain ⟨_, h5, h6, h7, h8, _⟩ := h.rule r hr
      obtain ⟨e1, e2⟩ := code_inj htn (by omega) h3
      have h9 := h8 (by omega)
      have h10 : ord[i]? = some (s : Int) := by rw [List.getElem?_eq_getElem hi, hs]
      obtain ⟨j', hj', hj2⟩ := ho.eps i s t h10 ⟨r, hr, h9, h1, by omega⟩
      have h11 : ord[j]? = some (t : Int) := by rw [List.getElem?_eq_getElem hj, ht]
      have hj'l := (List.getElem?_eq_some_iff.1 hj2).1
      have := (List.getElem?_inj hj'l ho.nd).1 (hj2.trans h11.symm)
      omega
  · rw [List.pairwise_iff_getElem]
    intro i j hi hj hij q hq r hr
    simp only [List.length_range] at hi hj
    rw [List.getElem_range] at hq hr
    unfold rowP1 at hq hr
    obtain ⟨t, ht, rfl⟩ := List.mem_map.1 hq
    obtain ⟨s, hs, rfl⟩ := List.mem_map.1 hr
    obtain ⟨t, rfl, htn⟩ := hm t (List.mem_reverse.1 ht)
    obtain ⟨s, rfl, hsn⟩ := hm s (List.mem_reverse.1 hs)
    rw [Int.toNat_natCast, Int.toNat_natCast]
    cases he : edgeB d x n (j * n + s) (i * n + t) with
    | false => rfl
    | true =>
      exfalso
      obtain ⟨r, hr, h1, h2, h3⟩ := (edgeB_iff hsn).1 he
      obtain ⟨_, h5, h6, h7, h8, _⟩ := h.rule r hr
      obtain ⟨e1, e2⟩ := code_inj htn (by omega) h3
      omega
theorem live_iff {d : Desc} {n : Nat} (h : RuleOk d n) {x : List Int} {ord : List Int} (ho : Ord d ord) (hm : ∀ t ∈ ord, ∃ k : Nat, t = k ∧ k < n) (hall : ∀ s : Nat, s < n → (s : Int) ∈ ord) {a s : Nat} (hs : s < n) :
    liveF d x n ord (x.length + 1) (a * n + s) = true ↔ Reach d x a s := by
  constructor
  · intro hl
    have : ∀ p, liveF d x n ord (x.length + 1) p = true → ∃ a s : Nat, s < n ∧ p = a * n + s ∧ Reach d x a s := by
      refine fold_sound (fun q p hq he => ?_) (fun p hp => ?_)
      · obtain ⟨a, s, hs, rfl, hR⟩ := hq
        obtain ⟨r, hr, h1, h2, rfl⟩ := (edgeB_iff hs).1 he
        obtain ⟨_, h5, _⟩ := h.rule r hr
        refine ⟨a + r.eat.toNat, r.dst.toNat, by omega, rfl, ?_⟩
        have := Reach.step r hR hr h1 h2
        rwa [show ((r.dst.toNat : Nat) : Int) = r.dst by omega]
      · rw [decide_eq_true_eq] at hp
        have := h.start
        refine ⟨0, d.start.toNat, by omega, by omega, ?_⟩
        rw [show ((d.start.toNat : Nat) : Int) = d.start by omega]
        exact Reach.start
    obtain ⟨a', s', h1, h2, h3⟩ := this _ hl
    obtain ⟨rfl, rfl⟩ := code_inj hs h1 h2
    exact h3
  · intro hR
    have key : ∀ {a : Nat} {s : Int}, Reach d x a s → liveF d x n ord (x.length + 1) (a * n + s.toNat) = true := by
      intro a s hR
      induction hR with
      | start =>
        refine fold_mono ?_
        simp
      | @step a s r h1 hr hs' hx ih =>
        obtain ⟨h4, h5, h6⟩ := reach_in h h1
        have hsn : s.toNat < n := by omega
        have hmem : a * n + s.toNat ∈ allP n (x.length + 1) ord := all_mem (by omega) (hall _ hsn)
        refine fold_closed (pairwise_all h ho hm _) hmem ih ((edgeB_iff hsn).2 ⟨r, hr, by omega, hx, rfl⟩)
    have := key hR
    rwa [Int.toNat_natCast] at this
theorem run_len {d : Desc} {n : Nat} (h : RuleOk d n) (hn : n ≤ 1024) {ρ : Int → Nat} (hb : ∀ t, ρ t ≤ n + 1) (hρ : ∀ r ∈ d.rules, r.guards = [] → ρ r.dst < ρ r.src) {x : List Int} {a : Nat} {s : Int} {w : List Int} (hr : Run d x a s w) (ha : a ≤ x.length) :
    w.length ≤ 64 * ((x.length - a) * 1026 + ρ s + 1) := by
  induction hr with
  | fin f hf hs hl hx hw =>
    subst hw
    have := (h.final f hf).2.1
    unfold writesV
    rw [List.length_map]
    omega
  | @step a s w u r hr hs hx h' hw ih =>
    obtain ⟨_, _, h3, h4, h5, h6, _⟩ := h.rule r hr
    have hfit := hx.1
    have ih := ih (by omega)
    subst hw
    unfold writesV
    rw [List.length_append, List.length_map]
    have hbd := hb r.dst
    by_cases he : r.eat = 0
    · have h7 := hρ r hr (h5 he)
      rw [hs] at h7
      rw [he] at ih
      simp only [Int.toNat_zero, Nat.add_zero] at ih
      omega
    · have h8 : 1 ≤ r.eat.toNat := by omega
      have h9 : (x.length - (a + r.eat.toNat)) * 1026 + 1026 ≤ (x.length - a) * 1026 := by
        have : x.length - a = (x.length - (a + r.eat.toNat)) + r.eat.toNat := by omega
        rw [this, Nat.add_mul]
        omega
      omega
end Go.Proofs.YtofcjmjokokajaaGreat
