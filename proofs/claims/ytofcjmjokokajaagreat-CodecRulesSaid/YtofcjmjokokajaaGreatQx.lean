/-
  run.check, fits, ends, writes. Conditions: as each says. run.runner.sort. Condition: no rule without guards. Regions whose order isn't told, where some loads look at blocks that nothing of the region writes. No program is named here. slices.
-/
import Derived.Test.YtofcjmjokokajaaGreatQw
import Derived.Test.YtofcjmjokokajaaGreatQn
import Derived.Test.YtofcjmjokokajaaGreatQm
import Derived.Test.YtofcjmjokokajaaGreatQs
namespace Go.Um
open Go.Vm
structure Rnr where
  d : Desc
  x : List Int
  rules : List (List Int)
  finals : List (List Int)
  order : List Int
  live : List Bool
def rnrR : Rp Rnr := ⟨11, fun r => descR.cells r.d ++ [runeR.L r.x, intR.listR.L r.rules, intR.listR.L r.finals, intR.L r.order, boolR.L r.live], fun r => ⟨rfl, fun v hv => by
  rcases List.mem_append.1 hv with h | h
  · exact (descR.ok r.d).2 v h
  · simp only [List.mem_cons, List.not_mem_nil, or_false] at h
    rcases h with rfl | rfl | rfl | rfl | rfl <;> exact ⟨Rp.lt _ _ _ _, rfl⟩⟩⟩
end Go.Um
namespace Go.Proofs.YtofcjmjokokajaaGreat
open Go.RowKit Go.Um Go.Proofs Go.Vm
attribute [local irreducible] Ev arun frun awp RetQ NextQ
set_option maxHeartbeats 4000000
def askF (d : Desc) (x : List Int) : Int := if checkF d ≠ 0 then 2 else if 1024 < x.length then 4 else if x.all (hasB (domF d.inn)) then 0 else 1
theorem rcheck_v (d : Desc) (x : List Int) (hE : ∀ r ∈ d.rules, ¬ r.guards.length = 0) : VPure Tryz.prog 46 [.agg (descR.cells d), runeR.L x] (.int .i64 (askF d x)) := by
  have h1 := dcheck_v d hE
  have h2 := wfits_v d.inn x
  unfold askF
  generalize checkF d = c at h1 ⊢
  generalize x.all (hasB (domF d.inn)) = b at h2 ⊢
  refine a_pure (n0 := 0) (hN := Tryz.ntmps46) (hf := Tryz.func46) ?_
  refine wk ⟨?_⟩
  refine ar_pure h1 ?_
  repeat' first | (show arun _ _ _ _ _ (⟨some _, _, _, _, _, none⟩ :: _) _ _ _; first | refine ar_s ?_ | refine ar_app_n (fun h => ?_) (fun h => ?_) | refine ar_app_nz (fun h => ?_) (fun h => ?_)) | (show arun _ _ _ _ _ (⟨_, _, _, _, _, some _⟩ :: _) _ _ _; first | refine ar_on ?_ | refine ar_off ?_ | refine ar_off2 ?_ | refine ar_split_t ?_ | refine ar_split_f ?_ | refine ar_split (fun h => ?_) (fun h => ?_)) | (show arun _ _ _ _ _ (⟨none, _, _, _, _, none⟩ :: _) _ _ _; refine ar_n ?_) | (show frun _ _ _ _ _ _ (⟨some _, _, _, _, _, none⟩ :: _) _ _ _; refine fr_s ?_) | (show frun _ _ _ _ _ _ (⟨none, _, _, _, _, none⟩ :: _) _ _ _; refine fr_n ?_) | (show grun _ _ _ _ _ _ _ (⟨some _, _, _, _, _, none⟩ :: _) _ _ _; refine gr_s ?_) | (show grun _ _ _ _ _ _ _ (⟨none, _, _, _, _, none⟩ :: _) _ _ _; refine gr_n ?_) | refine gr_nil ?_ | refine fr_nil ?_ | refine ar_nil ?_ | refine a_seq ?_ | refine a_block ?_ | refine a_region ?_ | refine a_drawn ?_ | refine a_skip ?_ | refine a_exit ?_ | refine a_ret ?_ | (show awp _ _ (.cond _ _ _) _ _ _ _; first | refine a_yes rfl ?_ | refine a_no rfl ?_ | refine a_dec_t ?_ | refine a_dec_f ?_ | refine a_dec rfl (fun h => ?_) (fun h => ?_))
  · exact ret_tmp (.inr rfl) rfl rfl (pk_int (by rw [if_pos (by assumption)]))
  · exact ret_tmp (.inr rfl) rfl rfl (pk_int (by rw [if_neg (by assumption), if_pos (by omega)]))
  · refine ar_pure h2 ?_
    cases b with
    | false =>
      refine wk ⟨?_⟩
      exact ret_tmp (.inr rfl) rfl rfl (pk_int (by rw [if_neg (by assumption), if_neg (by omega)]; rfl))
    | true =>
      refine wk ⟨?_⟩
      exact ret_tmp (.inr rfl) rfl rfl (pk_int (by rw [if_neg (by assumption), if_neg (by omega)]; rfl))
theorem fits_rv (r : Rnr) (gs : List (List Span)) (at_ : Nat) (ha : at_ ≤ r.x.length) (hxl : r.x.length ≤ 1024) (hxr : ∀ z ∈ r.x, -2147483648 ≤ z ∧ z ≤ 2147483647) : VPure Tryz.prog 52 [.iptr (rnrR.cells r), spansR.L gs, .int .i64 (at_ : Int)] (.bool (fitsB r.x gs at_)) := by
  refine a_pure (n0 := 0) (hN := Tryz.ntmps52) (hf := Tryz.func52) ?_
  refine wk2 (fun h => ⟨?_⟩) (fun h => ⟨?_⟩)
  · refine ret_tmp (.inr rfl) rfl rfl (pk_bool ?_)
    cases hf : fitsB r.x gs at_ with
    | false => rfl
    | true =>
      have := (fitsB_iff.1 hf).1
      omega
  · have hlen : gs.length ≤ r.x.length - at_ := by omega
    refine a_loop (σ := Nat) 0 [0, 2, 19, 20] (fun k => [(21, V.int .i64 (k : Int))]) (fun _ => []) (fun k => k ≤ gs.length ∧ fitsL (gs.drop k) (r.x.drop (at_ + k)) = fitsB r.x gs at_) (fun k => gs.length - k) 0 ⟨Nat.zero_le _, rfl⟩ ?_
    rintro k ⟨hk, ho⟩
    obtain hx | ⟨g, hg, hlt⟩ := range_cases hk
    · subst k
      rw [List.drop_length] at ho
      refine wk ⟨?_⟩
      exact ret_tmp (.inr rfl) rfl rfl (pk_bool ho)
    · obtain ⟨z, hz⟩ : ∃ z, r.x[at_ + k]? = some z := ⟨_, List.getElem?_eq_getElem (by omega)⟩
      rw [fitsL_cons hg hz] at ho
      have hh := has_v g z
      rw [show (decide (-1073741824 ≤ z ∧ z ≤ 1073741824) && hasB g z) = hasI g z from rfl] at hh
      have hz' : r.x[((at_ : Int) + (k : Int)).toNat]? = some z := by rw [show ((at_ : Int) + (k : Int)).toNat = at_ + k by omega]; exact hz
      generalize hasI g z = b at hh ho
      have hzr := hxr z (List.mem_of_getElem? hz)
      have hw : IntKind.i64.wrap z = z := wrap_in (by omega) (by omega)
      refine wk ⟨?_⟩
      rw [hw]
      refine ar_pure hh ?_
      cases b with
      | false =>
        refine wk ⟨?_⟩
        exact ret_tmp (.inr rfl) rfl rfl (pk_bool (by simpa using ho))
      | true =>
        refine wk ⟨?_⟩
        refine a_next (k + 1) ⟨hlt, by rw [← ho, Bool.true_and]; rfl⟩ (by omega) ?_
        exact wz
theorem ends_rv (r : Rnr) (f : Final) (at_ : Nat) (ha : at_ ≤ r.x.length) (hxl : r.x.length ≤ 1024) (hxr : ∀ z ∈ r.x, -2147483648 ≤ z ∧ z ≤ 2147483647) : VPure Tryz.prog 50 [.iptr (rnrR.cells r), .agg (finalR.cells f), .int .i64 (at_ : Int)] (.bool (decide (f.guards.length = r.x.length - at_) && fitsB r.x f.guards at_)) := by
  have hf := fits_rv r f.guards at_ ha hxl hxr
  generalize fitsB r.x f.guards at_ = b at hf ⊢
  by_cases hg : f.guards.length = r.x.length - at_
  · rw [decide_eq_true hg, Bool.true_and]
    refine a_pure (n0 := 0) (hN := Tryz.ntmps50) (hf := Tryz.func50) ?_
    refine wk ⟨?_⟩
    refine ar_pi hf ?_
    refine wk ⟨?_⟩
    exact ret_tmp (.inr rfl) rfl rfl (pk_bool rfl)
  · rw [decide_eq_false hg, Bool.false_and]
    refine a_pure (n0 := 0) (hN := Tryz.ntmps50) (hf := Tryz.func50) ?_
    refine wk ⟨?_⟩
    exact ret_tmp (.inr rfl) rfl rfl (pk_bool rfl)
structure WrSt where
  k : Nat
  g : Nat
  L : Nat
  w : List Int
theorem tvalF_bd {t : Term} {w : List Int} (h : numbersF t = true) : -1114111 ≤ tvalF t w ∧ tvalF t w ≤ 1114111 + 67108864 := by
  obtain ⟨n1, _, n3, _⟩ := numbersF_iff.1 h
  have n1 := smallN_iff.1 n1
  unfold tvalF
  have h2 := valF_nonneg (outerT t) (t.sum + sumV t.parts fun a => w.getD a.toNat 0)
  have h3 := valF_le n3 (t.sum + sumV t.parts fun a => w.getD a.toNat 0)
  omega
def TOk (t : Term) (w : List Int) : Prop := numbersF t = true ∧ (∀ p ∈ t.parts, rightP p w.length = true) ∧ 0 ≤ t.sum + sumV t.parts (fun q => w.getD q.toNat 0) ∧ t.sum + sumV t.parts (fun q => w.getD q.toNat 0) ≤ 1114111
theorem writes_rv (r : Rnr) (ts : List Term) (at_ n : Nat) (ha : at_ + n ≤ r.x.length) (hxl : r.x.length ≤ 1024) (hxr : ∀ z ∈ r.x, 0 ≤ z ∧ z ≤ 1114111) (ht : ∀ t ∈ ts, TOk t (winF r.x at_ n)) (hl : ts.length ≤ 64) : VPure Tryz.prog 51 [.iptr (rnrR.cells r), termR.L ts, .int .i64 (at_ : Int), .int .i64 (n : Int)] (runeR.L (writesV ts (winF r.x at_ n))) := by
  refine a_pure (n0 := 0) (hN := Tryz.ntmps51) (hf := Tryz.func51) ?_
  refine wk ⟨?_⟩
  have hwl : (winF r.x at_ n).length = n := by unfold winF; rw [List.length_take, List.length_drop]; omega
  have hwr : ∀ z ∈ winF r.x at_ n, 0 ≤ z ∧ z ≤ 1114111 := fun z hz => hxr z (List.mem_of_mem_drop (List.mem_of_mem_take hz))
  have hwe : winF r.x at_ n = (r.x.drop at_).take n := rfl
  refine a_loop (σ := WrSt) 1 [0, 2, 3, 14, 15] (fun x => [(9, nrow 0 x.g x.w.length), (16, V.int .i64 (x.k : Int))]) (fun x => [(0, nb 21 1 x.g x.L (x.w.map runeR.cells))]) (fun x => x.L ≤ x.g ∧ x.k ≤ ts.length ∧ x.w = writesV (ts.take x.k) (winF r.x at_ n)) (fun x => ts.length - x.k) ⟨0, 0, 0, []⟩ ⟨Nat.le_refl _, Nat.zero_le _, rfl⟩ ?_
  rintro ⟨k, g, L, w⟩ ⟨hLg, hk, hw⟩
  simp only at hLg hk hw
  obtain hx | ⟨t, htk, hlt⟩ := range_cases hk
  · subst k
    rw [List.take_length] at hw
    dsimp only
    refine wk ⟨?_⟩
    exact ret_tmp (.inr rfl) rfl rfl (by rw [← hw]; exact pk_nrow rfl (ble2 hLg) rfl rfl)
  · obtain ⟨t1, t2, t3, t4⟩ := ht t (List.mem_of_getElem? htk)
    have htv := tvalue_v t (winF r.x at_ n) hwr t2 t1 ⟨t3, t4⟩
    have hbd := tvalF_bd (w := winF r.x at_ n) t1
    have hnext : writesV (ts.take (k + 1)) (winF r.x at_ n) = w ++ [tvalF t (winF r.x at_ n)] := by rw [take_at htk, writesV, List.map_append, ← writesV, ← hw]; rfl
    have hwk : w.length = k := by rw [hw, writesV, List.length_map, List.length_take]; omega
    generalize tvalF t (winF r.x at_ n) = z at htv hbd hnext
    rw [hwe] at htv
    have hzw : IntKind.i32.wrap z = z := wrap32_in (by omega) (by omega)
    clear hw ht
    dsimp only
    refine wk ⟨?_⟩
    refine ar_s ?_ ev_mid
    refine wk ⟨?_⟩
    rw [show ((at_ : Int) + (n : Int)).toNat - (at_ : Int).toNat = n by omega, show ((at_ : Int)).toNat = at_ by omega]
    refine ar_pure htv ?_
    refine wk2 (fun h => ⟨?_⟩) (fun h => ⟨?_⟩)
    · rw [hzw]
      have hnil : w = [] := by assumption
      subst hnil
      refine a_next (⟨k + 1, 0, 0, [z]⟩ : WrSt) ⟨Nat.le_refl _, hlt, hnext.symm⟩ (by simp only; omega) ?_
      refine end1 (CS := []) 3 0 ?_ ?_ rfl (RnX.of_eq rfl) ?_ (hfree := rfl); all_goals repeat' first | exact trivial | refine And.intro ?_ ?_ | exact rn_int rfl | exact rn_list rfl | exact rn_row rfl ⟨rfl, rfl, rfl⟩ | exact rn_ptr rfl | exact rn_bool rfl | exact rn_agg rfl | exact rn_iptr rfl | exact rn_map rfl | exact rn_nrows rfl | exact rn_new rfl rfl rfl (by omega) | refine rn_int ?_ | refine rn_bool ?_ | refine rn_list ?_ | refine rn_row rfl ⟨?_, ?_, ?_⟩ | refine rn_nrow rfl ⟨rfl, ?_⟩ ?_ | refine rn_agg ?_ | exact Exists.intro _ ⟨rfl, RnB.cells (RnX.of_eq rfl), rfl⟩ | exact Exists.intro _ ⟨rfl, RnB.cells (RnX.of_eq (map_snoc rfl)), rfl⟩ | exact Exists.intro _ ⟨rfl, RnB.cells (RnX.of_eq (map_setc rfl)), rfl⟩ | exact Exists.intro _ ⟨rfl, RnB.cells (RnX.of_eq (map_inc rfl)), rfl⟩ | exact Exists.intro _ ⟨rfl, RnB.cells (RnX.of_eq (map_snocs rfl)), rfl⟩ | refine Exists.intro _ ⟨rfl, RnB.cells (RnX.cons (RnC.cons ?_ ?_ RnC.nil) RnX.nil), rfl⟩ | exact Exists.intro _ ⟨rfl, RnB.hole, rfl⟩ | refine Exists.intro _ ⟨rfl, rnm_of ?_, rfl⟩ | exact nrow_one | refine old_nbs ?_ rfl | refine old_nb ?_ ⟨?_, _, rfl, RnB.cells (RnX.of_eq (map_snoc rfl)), rfl⟩ | refine old_nb ?_ ⟨?_, _, rfl, RnB.cells (RnX.of_eq (map_snocs rfl)), rfl⟩ | refine old_nb ?_ ⟨?_, _, rfl, RnB.cells (RnX.of_eq (map_inc rfl)), rfl⟩ | refine old_nb ?_ ⟨?_, _, rfl, RnB.cells (RnX.of_eq rfl), rfl⟩ | rfl | (simp only []; omega) | (simp; done) | (simp; omega) | assumption
    · rw [hzw]
      refine a_next (⟨k + 1, g + 1, L, w ++ [z]⟩ : WrSt) ⟨by simp only; omega, hlt, hnext.symm⟩ (by simp only; omega) ?_
      exact wz
end Go.Proofs.YtofcjmjokokajaaGreat
namespace Go.Um
open Go.Vm
def rcC (d : Desc) (x : List Int) (rl fl ov lv : V) : List V := descR.cells d ++ [runeR.L x, rl, fl, ov, lv]
theorem rcC_lt {k : Nat} {d : Desc} {x : List Int} {rl fl ov lv : V} (h1 : Vlt k rl ∧ rl.one = true) (h2 : Vlt k fl ∧ fl.one = true) (h3 : Vlt k ov ∧ ov.one = true) (h4 : Vlt k lv ∧ lv.one = true) : ∀ v ∈ rcC d x rl fl ov lv, Vlt k v ∧ v.one = true := fun v hv => by
  rcases List.mem_append.1 hv with h | h
  · exact ⟨((descR.ok d).2 v h).1.mono (Nat.zero_le k), ((descR.ok d).2 v h).2⟩
  · simp only [List.mem_cons, List.not_mem_nil, or_false] at h
    rcases h with rfl | rfl | rfl | rfl | rfl
    · exact ⟨Rp.lt _ _ _ _, rfl⟩
    · exact h1
    · exact h2
    · exact h3
    · exact h4
theorem rnx_rc {N : Nat} {f : Nat → Nat → Option (Nat × Nat)} {s : Store} {D : Nat → Prop} {d : Desc} {x : List Int} {rl fl ov ov' lv rl' fl' lv' : V} (h1 : Rn N f s D rl rl' ∧ rl'.one = true) (h2 : Rn N f s D fl fl' ∧ fl'.one = true) (h3 : Rn N f s D ov ov' ∧ ov'.one = true) (h4 : Rn N f s D lv lv' ∧ lv'.one = true) : RnX N f s D [rcC d x rl fl ov lv] [rcC d x rl' fl' ov' lv'] := by
  refine RnX.cons ⟨rfl, fun v hv => ?_, fun j v u a b => ?_⟩ RnX.nil
  · rcases List.mem_append.1 hv with h | h
    · exact ((descR.ok d).2 v h).2
    · simp only [List.mem_cons, List.not_mem_nil, or_false] at h
      rcases h with rfl | rfl | rfl | rfl | rfl
      · rfl
      · exact h1.2
      · exact h2.2
      · exact h3.2
      · exact h4.2
  · match j, a, b with
    | 0, a, b => cases a; cases b; exact .keep (.int _ _)
    | 1, a, b => cases a; cases b; exact .keep (.int _ _)
    | 2, a, b => cases a; cases b; exact .keep (.int _ _)
    | 3, a, b => cases a; cases b; exact .keep (.int _ _)
    | 4, a, b => cases a; cases b; exact .keep (Rp.lt _ _ _ _)
    | 5, a, b => cases a; cases b; exact .keep (Rp.lt _ _ _ _)
    | 6, a, b => cases a; cases b; exact .keep (Rp.lt _ _ _ _)
    | 7, a, b => cases a; cases b; exact h1.1
    | 8, a, b => cases a; cases b; exact h2.1
    | 9, a, b => cases a; cases b; exact h3.1
    | 10, a, b => cases a; cases b; exact h4.1
    | j + 11, a, b => simp [rcC, descR] at a
theorem kp_list {α : Type} {r : Rp α} {N m : Nat} {f : Nat → Nat → Option (Nat × Nat)} {s : Store} {D : Nat → Prop} {xs : List α} : Rn N f s D (.list m (xs.map r.cells)) (.list m (xs.map r.cells)) ∧ (V.list m (xs.map r.cells)).one = true := ⟨.keep (r.lt N xs m), rfl⟩
theorem kp_nil {N : Nat} {f : Nat → Nat → Option (Nat × Nat)} {s : Store} {D : Nat → Prop} : Rn N f s D .nil .nil ∧ V.nil.one = true := ⟨.keep .nil, rfl⟩
end Go.Um
namespace Go.Proofs.YtofcjmjokokajaaGreat
open Go.RowKit Go.Um Go.Proofs Go.Vm
attribute [local irreducible] Ev arun frun awp RetQ NextQ RetM
set_option maxHeartbeats 4000000
set_option maxRecDepth 20000
theorem sort0_vm (d : Desc) (x : List Int) (rules finals : List (List Int)) (s : Nat) (is : List Int) (dn : List Bool) (hs : rules[s]? = some is) (hdn : dn[s]? = some false) (hi : ∀ i ∈ is, 0 ≤ i ∧ ∃ r, d.rules[i.toNat]? = some r ∧ ¬ r.guards.length = 0) (hl : is.length ≤ 4096) :
    VM Tryz.prog 102 [.ptr 3 0 0 0, .int .i64 (s : Int), .row 2053 0 0 dn.length] (slk [(3, some (.cells 104 11 0 0 [rcC d x (intR.listR.L rules) (intR.listR.L finals) .nil .nil])), (2053, some (.cells 4 1 0 0 (dn.map boolR.cells)))]) 2055
      (slk ((2055, some (.cells 3 1 0 0 ([(s : Int)].map intR.cells))) :: ([(3, some (.cells 104 11 0 0 [rcC d x (intR.listR.L rules) (intR.listR.L finals) (.row 2055 0 0 1) .nil])), (2053, some (.cells 4 1 0 0 ((dn.set s true).map boolR.cells)))] ++ [(3, some (.cells 104 11 0 0 [rcC d x (intR.listR.L rules) (intR.listR.L finals) .nil .nil])), (2053, some (.cells 4 1 0 0 (dn.map boolR.cells)))]))) (.tuple []) := by
  have hsl := (List.getElem?_eq_some_iff.1 hdn).1
  refine a_vm (hN := Tryz.ntmps102) (hf := Tryz.func102) ?_
  refine wk ⟨?_⟩
  refine a_loopG (σ := Nat) 0 [0, 1, 2, 22, 23] (fun k => [(24, V.int .i64 (k : Int))]) (fun _ => []) (fun k => k ≤ is.length) (fun k => is.length - k) 0 (Nat.zero_le _) ?_
  intro k hk
  obtain hx | ⟨i, hik, hlt⟩ := range_cases hk
  · subst k
    refine wk ⟨?_⟩
    refine retMk (CS := [(3, some (.cells 104 11 0 0 [rcC d x (intR.listR.L rules) (intR.listR.L finals) (.row 2055 0 0 1) .nil])), (2053, some (.cells 4 1 0 0 ((dn.set s true).map boolR.cells)))]) (id := 2057) (.inl rfl) .nil (.tuple rfl fun i v u h => by simp at h) rfl rfl (RnB.cells (RnX.of_eq (r := intR) rfl)) (.inr rfl) ?_ (hS := SameG.same (by repeat' first | exact SameG.refl _ | refine SameG.cons rfl ?_))
    refine ⟨⟨by simp, _, rfl, RnB.cells (rnx_rc kp_list kp_list ⟨.row rfl, rfl⟩ kp_nil), rfl⟩, ⟨by simp, _, rfl, RnB.cells (RnX.of_eq (r := boolR) rfl), rfl⟩, trivial⟩
  · obtain ⟨hi0, r, hr, hg⟩ := hi i (List.mem_of_getElem? hik)
    refine wk ⟨?_⟩
    refine a_next (k + 1) hlt (by omega) ?_
    refine end0 ?_ ?_ (hS := SameG.same (by repeat' first | exact SameG.refl _ | refine SameG.cons rfl ?_)); all_goals repeat' first | exact trivial | refine And.intro ?_ ?_ | exact rn_int rfl | exact rn_list rfl | exact rn_row rfl ⟨rfl, rfl, rfl⟩ | exact rn_ptr rfl | exact rn_bool rfl | exact rn_agg rfl | exact rn_iptr rfl | exact rn_map rfl | exact rn_nrows rfl | exact rn_new rfl rfl rfl (by omega) | refine rn_int ?_ | refine rn_bool ?_ | refine rn_list ?_ | refine rn_row rfl ⟨?_, ?_, ?_⟩ | refine rn_nrow rfl ⟨rfl, ?_⟩ ?_ | refine rn_agg ?_ | exact Exists.intro _ ⟨rfl, RnB.cells (RnX.of_eq rfl), rfl⟩ | exact Exists.intro _ ⟨rfl, RnB.cells (RnX.of_eq (map_snoc rfl)), rfl⟩ | exact Exists.intro _ ⟨rfl, RnB.cells (RnX.of_eq (map_setc rfl)), rfl⟩ | exact Exists.intro _ ⟨rfl, RnB.cells (RnX.of_eq (map_inc rfl)), rfl⟩ | exact Exists.intro _ ⟨rfl, RnB.cells (RnX.of_eq (map_snocs rfl)), rfl⟩ | refine Exists.intro _ ⟨rfl, RnB.cells (RnX.cons (RnC.cons ?_ ?_ RnC.nil) RnX.nil), rfl⟩ | exact Exists.intro _ ⟨rfl, RnB.hole, rfl⟩ | refine Exists.intro _ ⟨rfl, rnm_of ?_, rfl⟩ | exact nrow_one | refine old_nbs ?_ rfl | refine old_nb ?_ ⟨?_, _, rfl, RnB.cells (RnX.of_eq (map_snoc rfl)), rfl⟩ | refine old_nb ?_ ⟨?_, _, rfl, RnB.cells (RnX.of_eq (map_snocs rfl)), rfl⟩ | refine old_nb ?_ ⟨?_, _, rfl, RnB.cells (RnX.of_eq (map_inc rfl)), rfl⟩ | refine old_nb ?_ ⟨?_, _, rfl, RnB.cells (RnX.of_eq rfl), rfl⟩ | rfl | (simp only []; omega) | (simp; done) | (simp; omega) | assumption
theorem sort1_vm (d : Desc) (x : List Int) (rules finals : List (List Int)) (s : Nat) (is : List Int) (dn : List Bool) (g L : Nat) (_hLg : L ≤ g) (od : List Int) (hod : 0 < od.length) (hol : od.length ≤ 4096) (hs : rules[s]? = some is) (hdn : dn[s]? = some false) (hi : ∀ i ∈ is, 0 ≤ i ∧ ∃ r, d.rules[i.toNat]? = some r ∧ ¬ r.guards.length = 0) (hl : is.length ≤ 4096) :
    VM Tryz.prog 102 [.ptr 3 0 0 0, .int .i64 (s : Int), .row 2053 0 0 dn.length] (slk [(3, some (.cells 104 11 0 0 [rcC d x (intR.listR.L rules) (intR.listR.L finals) (.row 2054 g 0 od.length) .nil])), (2053, some (.cells 4 1 0 0 (dn.map boolR.cells))), (2054, some (.cells 3 1 g L (od.map intR.cells)))]) 2055
      (slk ([(3, some (.cells 104 11 0 0 [rcC d x (intR.listR.L rules) (intR.listR.L finals) (.row 2054 (g + 1) 0 (od.length + 1)) .nil])), (2053, some (.cells 4 1 0 0 ((dn.set s true).map boolR.cells))), (2054, some (.cells 3 1 (g + 1) L ((od ++ [(s : Int)]).map intR.cells)))] ++ [(3, some (.cells 104 11 0 0 [rcC d x (intR.listR.L rules) (intR.listR.L finals) (.row 2054 g 0 od.length) .nil])), (2053, some (.cells 4 1 0 0 (dn.map boolR.cells))), (2054, some (.cells 3 1 g L (od.map intR.cells)))])) (.tuple []) := by
  have hsl := (List.getElem?_eq_some_iff.1 hdn).1
  refine a_vm (hN := Tryz.ntmps102) (hf := Tryz.func102) ?_
  refine wk ⟨?_⟩
  refine a_loopG (σ := Nat) 0 [0, 1, 2, 22, 23] (fun k => [(24, V.int .i64 (k : Int))]) (fun _ => []) (fun k => k ≤ is.length) (fun k => is.length - k) 0 (Nat.zero_le _) ?_
  intro k hk
  obtain hx | ⟨i, hik, hlt⟩ := range_cases hk
  · subst k
    refine wk ⟨?_⟩
    refine retMu (CS := [(3, some (.cells 104 11 0 0 [rcC d x (intR.listR.L rules) (intR.listR.L finals) (.row 2054 (g + 1) 0 (od.length + 1)) .nil])), (2053, some (.cells 4 1 0 0 ((dn.set s true).map boolR.cells))), (2054, some (.cells 3 1 (g + 1) L ((od ++ [(s : Int)]).map intR.cells)))]) (.inl rfl) .nil (.tuple rfl fun i v u h => by simp at h) ?_ (hS := SameG.same (by repeat' first | exact SameG.refl _ | refine SameG.cons rfl ?_))
    refine ⟨⟨by simp, _, rfl, RnB.cells (rnx_rc kp_list kp_list ⟨.keep (.row (by decide)), rfl⟩ kp_nil), rfl⟩, ⟨by simp, _, rfl, RnB.cells (RnX.of_eq (r := boolR) rfl), rfl⟩, ⟨by simp, _, rfl, RnB.cells (RnX.of_eq (r := intR) (map_snoc rfl)), rfl⟩, trivial⟩
  · obtain ⟨hi0, r, hr, hg⟩ := hi i (List.mem_of_getElem? hik)
    refine wk ⟨?_⟩
    refine a_next (k + 1) hlt (by omega) ?_
    refine end0 ?_ ?_ (hS := SameG.same (by repeat' first | exact SameG.refl _ | refine SameG.cons rfl ?_)); all_goals repeat' first | exact trivial | refine And.intro ?_ ?_ | exact rn_int rfl | exact rn_list rfl | exact rn_row rfl ⟨rfl, rfl, rfl⟩ | exact rn_ptr rfl | exact rn_bool rfl | exact rn_agg rfl | exact rn_iptr rfl | exact rn_map rfl | exact rn_nrows rfl | exact rn_new rfl rfl rfl (by omega) | refine rn_int ?_ | refine rn_bool ?_ | refine rn_list ?_ | refine rn_row rfl ⟨?_, ?_, ?_⟩ | refine rn_nrow rfl ⟨rfl, ?_⟩ ?_ | refine rn_agg ?_ | exact Exists.intro _ ⟨rfl, RnB.cells (RnX.of_eq rfl), rfl⟩ | exact Exists.intro _ ⟨rfl, RnB.cells (RnX.of_eq (map_snoc rfl)), rfl⟩ | exact Exists.intro _ ⟨rfl, RnB.cells (RnX.of_eq (map_setc rfl)), rfl⟩ | exact Exists.intro _ ⟨rfl, RnB.cells (RnX.of_eq (map_inc rfl)), rfl⟩ | exact Exists.intro _ ⟨rfl, RnB.cells (RnX.of_eq (map_snocs rfl)), rfl⟩ | refine Exists.intro _ ⟨rfl, RnB.cells (RnX.cons (RnC.cons ?_ ?_ RnC.nil) RnX.nil), rfl⟩ | exact Exists.intro _ ⟨rfl, RnB.hole, rfl⟩ | refine Exists.intro _ ⟨rfl, rnm_of ?_, rfl⟩ | exact nrow_one | refine old_nbs ?_ rfl | refine old_nb ?_ ⟨?_, _, rfl, RnB.cells (RnX.of_eq (map_snoc rfl)), rfl⟩ | refine old_nb ?_ ⟨?_, _, rfl, RnB.cells (RnX.of_eq (map_snocs rfl)), rfl⟩ | refine old_nb ?_ ⟨?_, _, rfl, RnB.cells (RnX.of_eq (map_inc rfl)), rfl⟩ | refine old_nb ?_ ⟨?_, _, rfl, RnB.cells (RnX.of_eq rfl), rfl⟩ | rfl | (simp only []; omega) | (simp; done) | (simp; omega) | assumption
end Go.Proofs.YtofcjmjokokajaaGreat
namespace Go.Vm
open Go.RowKit
def OkA (A : List Nat) (E : AEnv) (op : Op) : Prop := lfOp op = true → ∀ z ∈ op.operands, ∀ id, (aev E z).tid = some id → A.contains id = true
def okB (A : List Nat) (E : AEnv) (op : Op) : Bool := op.operands.toList.all fun z => match (aev E z).tid with | none => true | some id => A.contains id
def NiV (A : List Nat) (v : V) : Prop := ∀ id, v.tid = some id → niA A id = true
def niB (A : List Nat) (v : V) : Bool := match v.tid with | none => true | some id => niA A id
inductive OpN (A : List Nat) (E : AEnv) : List Operand → Prop where
  | nil : OpN A E []
  | cons {z : Operand} {r : List Operand} (h : NiV A (aev E z)) (hr : OpN A E r) : OpN A E (z :: r)
theorem OpN.at {A : List Nat} {E : AEnv} {l : List Operand} (h : OpN A E l) : ∀ z ∈ l, NiV A (aev E z) := by
  induction h with
  | nil => exact fun _ h => nomatch h
  | cons h _ ih => intro z hz; rcases List.mem_cons.1 hz with rfl | hz; exact h; exact ih z hz
theorem niV {A : List Nat} {v : V} (h : niB A v = true) : NiV A v := fun id hid => by
  unfold niB at h
  rw [hid] at h
  exact h
theorem niV_nrow {A : List Nat} {t g k : Nat} (h : niA A t = true) : NiV A (nrow t g k) := fun id hid => by
  unfold nrow at hid
  split at hid
  · cases hid
  · cases hid; exact h
def grun (P : Program) (N : Nat) (ops : Array Oper) (F A : List Nat) (K : APost) (i : Nat) (l : List Oper) (E : AEnv) (S : ASt) (n : Nat) : Prop :=
  l.all (operN N) = true → vrunA P ops F A (fun e s n => ∃ E' S', e = toL N E' ∧ s = slk S' ∧ K E' S' n) i l (toL N E) (slk S) n
section
variable {P : Program} {N : Nat} {ops : Array Oper} {F A : List Nat} {K : APost} {i : Nat} {l : List Oper} {E : AEnv} {S S' : ASt} {n n' : Nat}
theorem a_regionA {Q : XPost} {id : Nat} [hm : Mix P] (F A : List Nat) (h : grun P N ops F A (Q .normal) 0 ops.toList E S n) (hr : regB ops (wsA ops F A) = true := by decide +kernel) : awp P N (.region id ops true) Q E S n := fun hc => vwp_draw_runA hm.eq F A hr (h hc)
theorem gr_nil (h : K E S n) : grun P N ops F A K i [] E S n := fun _ => ⟨E, S, rfl, rfl, h⟩
def NiO (A : List Nat) (E : AEnv) (op : Op) : Prop := isW op = true → ∀ z ∈ op.operands, NiV A (aev E z)
theorem ni_no {op : Op} (h : isW op = false) : NiO A E op := fun q => by rw [h] at q; cases q
theorem ni_all {op : Op} (h : (op.operands.toList.all fun z => niB A (aev E z)) = true) : NiO A E op := fun _ z hz => niV (List.all_eq_true.1 h z (Array.mem_toList_iff.2 hz))
theorem ni_l {op : Op} (h : OpN A E op.operands.toList) : NiO A E op := fun _ z hz => h.at z (Array.mem_toList_iff.2 hz)
theorem ok_no {op : Op} (h : (F.contains i && lfOp op) = false) : F.contains i = true → OkA A E op := fun q q2 => by rw [q, q2] at h; cases h
theorem ok_all {op : Op} (h : okB A E op = true) : F.contains i = true → OkA A E op := fun _ _ z hz id hid => by
  have := List.all_eq_true.1 h z (Array.mem_toList_iff.2 hz)
  rw [hid] at this
  exact this
theorem ops_ev {op : Op} (ho : ∀ x ∈ op.operands, veval (toL N E) x = aev E x) (hf : F.contains i = true → OkA A E op) (hw : NiO A E op) : (F.contains i = true → lfOp op = true → ∀ z ∈ op.operands, ∀ id, (veval (toL N E) z).tid = some id → A.contains id = true) ∧ (isW op = true → ∀ z ∈ op.operands, ∀ id, (veval (toL N E) z).tid = some id → niA A id = true) :=
  ⟨fun q1 q2 z hz id hid => hf q1 q2 z hz id (by rw [← ho z hz]; exact hid), fun q z hz id hid => hw q z hz id (by rw [← ho z hz]; exact hid)⟩
theorem call_not {op : Op} {ρ : Operand → V} {s : Store} {out : Out} (h : vop P ρ s n op = some out) : isCall op = false := by
  cases op <;> try rfl
  rename_i c
  obtain ⟨callee, args, ts⟩ := c
  cases callee <;> first | rfl | cases h
theorem gr_some {d : Nat} {op : Op} {ty : TypeId} {pos : String} {aft : Array Edge} {v : V} (K' : grun P N ops F A K (i + 1) l ((d, v) :: E) S' n') (h : Ev P E S n op v S' n') (hf : F.contains i = true → OkA A E op) (hw : NiO A E op) : grun P N ops F A K i (⟨some d, op, ty, pos, aft, none⟩ :: l) E S n := fun hl => by
  simp only [List.all_cons, Bool.and_eq_true] at hl
  obtain ⟨us, h1, h2⟩ := h
  have ho := operN_ops (E := E) hl.1
  rw [vop_congr (ρ2 := aev E) ho |>.symm] at h1
  obtain ⟨a, b⟩ := ops_ev ho hf hw
  have hc := call_not h1
  simp only [vrunA, vwanted, hc, h1, vput, h2, toL_set]
  exact ⟨a, b, K' hl.2⟩
theorem gr_none {op : Op} {ty : TypeId} {pos : String} {aft : Array Edge} {v : V} (K' : grun P N ops F A K (i + 1) l E S' n') (h : Ev P E S n op v S' n') (hf : F.contains i = true → OkA A E op) (hw : NiO A E op) : grun P N ops F A K i (⟨none, op, ty, pos, aft, none⟩ :: l) E S n := fun hl => by
  simp only [List.all_cons, Bool.and_eq_true] at hl
  obtain ⟨us, h1, h2⟩ := h
  have ho := operN_ops (E := E) hl.1
  rw [vop_congr (ρ2 := aev E) ho |>.symm] at h1
  obtain ⟨a, b⟩ := ops_ev ho hf hw
  have hc := call_not h1
  simp only [vrunA, vwanted, hc, h1, vput, h2]
  exact ⟨a, b, K' hl.2⟩
theorem gr_s {d : Nat} {op : Op} {ty : TypeId} {pos : String} {aft : Array Edge} {v : V} (K' : grun P N ops F A K (i + 1) l ((d, v) :: E) S' n') (h : Ev P E S n op v S' n' := by first | exact ev_move | (apply g_load; first | exact ev_load_box | exact ev_iload | exact ev_load_row | exact ev_load_raw | exact ev_load_all | exact ev_iload_all | exact ev_load_row_all | exact ev_load_raw_all | exact ev_load_part | exact ev_iload_part | exact ev_load_nb | exact ev_load_nb_all) | (apply g_fieldAddr; first | exact ev_field_ptr | exact ev_field_iptr) | (apply g_binOp; first | exact ev_add | exact ev_sub | exact ev_eql | exact ev_neq | exact ev_bin | exact ev_shr | exact ev_shl | exact ev_aggeq | exact ev_aggneq | exact ev_shift | exact ev_strop | exact ev_booleq | exact ev_boolneq) | (apply g_indexAddr; first | exact ev_idx | exact ev_idx_nat | exact ev_idx_row0 | exact ev_idx_row | exact ev_idx_get | exact ev_idx_raw | exact ev_idx_nrow) | exact ev_assign | (apply g_call_len; first | exact ev_len | exact ev_len_row | exact ev_len_nil | exact ev_len_str | exact ev_len_raw | exact ev_len_nrow) | (apply g_call_append; first | exact ev_app_nil1 | exact ev_app_row1 | exact ev_app_row1m | exact ev_app_in1 | exact ev_app_nilL | exact ev_app_nil0 | exact ev_app_rowL | exact ev_app_rowLm) | exact ev_extract | (apply g_alloc; first | exact ev_alloc | exact ev_alloc1) | (apply g_box; first | exact ev_box | exact ev_box1) | (apply g_buildSlice; first | exact ev_lit1 | exact ev_lit) | exact ev_build | (apply g_pick; first | exact ev_pick_t | exact ev_pick_f) | exact ev_un | (apply g_slice; first | exact ev_from | exact ev_upto | exact ev_from_row | exact ev_upto_row) | (apply g_field; first | exact ev_field | exact ev_field_agg) | exact ev_make | (apply g_convert; first | exact ev_conv | exact ev_convint) | exact ev_max | exact ev_min | (apply g_makeFunc; first | exact ev_func | exact ev_func1 | exact ev_func2 | exact ev_func3) | (apply g_nilCheck; first | exact ev_nilptr | exact ev_niliptr)) (hf : F.contains i = true → OkA A E op := by first | exact ok_no rfl | exact ok_all rfl) (hw : NiO A E op := by first | exact ni_no rfl | exact ni_all rfl | (refine ni_l ?_; repeat' first | exact OpN.nil | refine OpN.cons ?_ ?_ | exact niV rfl | exact niV_nrow rfl)) : grun P N ops F A K i (⟨some d, op, ty, pos, aft, none⟩ :: l) E S n := gr_some K' h hf hw
theorem gr_n {op : Op} {ty : TypeId} {pos : String} {aft : Array Edge} {v : V} (K' : grun P N ops F A K (i + 1) l E S' n') (h : Ev P E S n op v S' n' := by first | (apply g_store; first | exact ev_store_box | exact ev_store_typed | exact ev_store_row | exact ev_store_raw)) (hf : F.contains i = true → OkA A E op := by first | exact ok_no rfl | exact ok_all rfl) (hw : NiO A E op := by first | exact ni_no rfl | exact ni_all rfl | (refine ni_l ?_; repeat' first | exact OpN.nil | refine OpN.cons ?_ ?_ | exact niV rfl | exact niV_nrow rfl)) : grun P N ops F A K i (⟨none, op, ty, pos, aft, none⟩ :: l) E S n := gr_none K' h hf hw
end
inductive Hd (ks : List Nat) (N x : Nat) : ASt → ASt → Prop where
  | refl (S : ASt) : Hd ks N x S S
  | cons {p : Nat × Option Blk} {S' S : ASt} (h : (ks.contains p.1 || Nat.ble N p.1) = true) (hr : Hd ks N x S' S) : Hd ks N x (p :: S') S
  | here {y : Option Blk} {S' S : ASt} (hr : Hd ks N x S' S) : Hd ks N x ((x, y) :: S') S
theorem Hd.at {ks : List Nat} {N x id : Nat} {S' S : ASt} (h : Hd ks N x S' S) (hN : id < N) (hk : id ∉ ks) (hx : id ≠ x) : slk S' id = slk S id := by
  induction h with
  | refl S => rfl
  | @cons p A S h _ ih =>
    have hp : p.1 ≠ id := by
      rintro rfl
      rw [Bool.or_eq_true] at h
      rcases h with q | q
      · exact hk (by simpa using q)
      · have : N ≤ p.1 := by simpa [Nat.ble_eq] using q
        omega
    simp only [slk, beq_no hp, cond_false]
    exact ih
  | here _ ih =>
    simp only [slk, beq_no (Ne.symm hx), cond_false]
    exact ih
theorem endG {b K N x : Nat} {cx S S' : ASt} {f : Nat → Option Blk} (h : Hd (cx.map (·.1)) N x S' (cx ++ fam b K f ++ S)) (hx : b ≤ x ∧ x < b + K) (id : Nat) (hN : id < N) (hno : id ∉ (cx ++ fam b K f).map (·.1)) : slk S' id = slk S id := by
  have hf : ¬ (b ≤ id ∧ id < b + K) := fun q => hno (by rw [List.map_append, List.mem_append]; exact .inr (fam_mem.2 q))
  rw [h.at hN (fun q => hno (by rw [List.map_append, List.mem_append]; exact .inl q)) (by omega), slk_app.2 hno]
theorem vwp_aft {P : Program} {c : Code} {Q1 Q : VPost} {e0 : List V} {s0 : Store} {n0 : Nat} (h : vwp P c Q1 e0 s0 n0) (hq : ∀ x e s n, Q1 x e s n → ∃ e' s' ids, Q x e' s' n ∧ (∀ w Sb G, WSim w Sb G s → Nxt w Sb G s w (fun b => Sb b ∨ Own (restr ids s) G b) G s') ∧ (∀ id, s id = none → s' id = none) ∧ e'.length = e.length ∧ (∀ (i : Nat) (v v' : V), e[i]? = some v → e'[i]? = some v' → v' = v ∨ v' = .any ∨ Pk (restr ids s) v v')) : vwp P c Q e0 s0 n0 := fun rd md B a w0 Sb0 G0 h0 h1 h2 h3 h4 => by
  refine wpIn_mono (h rd md B a w0 Sb0 G0 h0 h1 h2 h3 h4) ?_
  rintro x a' w ⟨hx, e, s, n, Sb, G, q, r1, r2, r3⟩
  obtain ⟨e', s', ids, q', hN, hno, hl, he⟩ := hq x e s n q
  have hs := r2.nxt.sim
  have hz := hN w Sb G hs
  have hf : Free s' G n := fun id hid => ⟨hno id (r2.free id hid).1, (r2.free id hid).2⟩
  have hon : On w Sb G s n w (fun b => Sb b ∨ Own (restr ids s) G b) G s' n := ⟨hz, hf, Nat.le_refl _, fun id _ hs => ⟨hno id hs, fun _ => rfl⟩⟩
  refine ⟨hx, e', s', n, _, G, q', ⟨by rw [r1.1, hl], fun i v' u q2 r => ?_⟩, r2.trans hon, r3.nxt hz⟩
  have hi : i < e.length := by rw [← hl]; exact (List.getElem?_eq_some_iff.1 q2).1
  have hv := r1.2 i _ u (List.getElem?_eq_getElem hi) r
  rcases he i _ v' (List.getElem?_eq_getElem hi) q2 with rfl | rfl | hp
  · exact hz.rv hs hv
  · exact .any _
  · exact (hp.rv (hs.restr ids) hv).mono (fun _ _ => rfl) (fun _ h => h) (fun _ _ _ h => nomatch h)
def AftQ (K : APost) : APost := fun E S n => ∃ B ids, FzE (restr ids (slk S)) E B ∧ ids.all (fun i => (slk S i).isSome) = true ∧ K B (ids.map (fun i => (i, some .void)) ++ S) n
theorem aft {K : APost} {E : AEnv} {S : ASt} {n : Nat} {B : AEnv} (ids : List Nat) (hB : FzE (restr ids (slk S)) E B) (h : K B (ids.map (fun i => (i, some .void)) ++ S) n) (hi : ids.all (fun i => (slk S i).isSome) = true := by rfl) : AftQ K E S n := ⟨B, ids, hB, hi, h⟩
theorem a_aft {P : Program} {N : Nat} {Q : XPost} {E : AEnv} {S : ASt} {n : Nat} {c : Code} (h : awp P N c (thenA (AftQ (Q .normal)) Q) E S n) : awp P N c Q E S n := fun hc => by
  refine vwp_aft (h hc) ?_
  rintro x _ _ n1 ⟨E1, S1, rfl, rfl, q⟩
  have same : ∀ y, Q y E1 S1 n1 → ∃ e' s' ids, (∃ E' S', e' = toL N E' ∧ s' = slk S' ∧ Q y E' S' n1) ∧ (∀ w Sb G, WSim w Sb G (slk S1) → Nxt w Sb G (slk S1) w (fun b => Sb b ∨ Own (restr ids (slk S1)) G b) G s') ∧ (∀ id, slk S1 id = none → s' id = none) ∧ e'.length = (toL N E1).length ∧ (∀ (i : Nat) (v v' : V), (toL N E1)[i]? = some v → e'[i]? = some v' → v' = v ∨ v' = .any ∨ Pk (restr ids (slk S1)) v v') := fun y hy =>
    ⟨toL N E1, upd (slk S1) (voids []), [], ⟨E1, S1, rfl, rfl, hy⟩, fun w Sb G hs => Nxt.freeze hs [], fun id hs => hs, rfl, fun i v v' a b => .inl (by rw [a] at b; cases b; rfl)⟩
  cases x with
  | normal =>
    obtain ⟨B, ids, hB, hi, hk⟩ := q
    have hid : ∀ i ∈ ids, slk S1 i ≠ none := fun i hm q => by
      have := List.all_eq_true.1 hi i hm
      rw [q] at this
      cases this
    have hS : upd (slk S1) (voids ids) = slk (ids.map (fun i => (i, some .void)) ++ S1) := by
      funext id
      rw [upd_voids]
      by_cases hm : id ∈ ids
      · rw [if_pos hm, slk_app.1 (by simpa using hm)]
        clear hi hid hB h hk same
        induction ids with
        | nil => simp at hm
        | cons i r ih =>
          by_cases q : i = id
          · subst q; simp [slk]
          · have := ih (by simpa [Ne.symm q] using hm)
            simpa [slk, beq_no q] using this
      · rw [if_neg hm, slk_app.2 (by simpa using hm)]
    refine ⟨toL N B, upd (slk S1) (voids ids), ids, ⟨B, _, rfl, hS, hk⟩, fun w Sb G hs => Nxt.freeze hs ids, fun id hs => ?_, by rw [toL_length, toL_length], fun i v v' a b => ?_⟩
    · rw [upd_voids, if_neg (fun hm => hid id hm hs), hs]
    · have hi' : i < N := by have := (List.getElem?_eq_some_iff.1 a).1; rwa [toL_length] at this
      rw [toL_at hi'] at a b
      cases a
      cases b
      exact hB.at i
  | goto l => exact same _ q
  | ret => exact same _ q
  | exit id => exact same _ q
  | panic c => exact same _ q
  | outgrown => exact same _ q
end Go.Vm
namespace Go.Proofs.YtofcjmjokokajaaGreat
open Go.Proofs Go.Um Go.RowKit Go.Vm
attribute [local go_sem] Oper.semAt_some
def IntAt (W : World) (b o : Nat) (s : List Int) : Prop := ∀ (i : Nat) (x : Int), s[i]? = some x → W.cell? ⟨b, o + i, none⟩ = some (.int .i64 x)
set_option maxRecDepth 100000 in
set_option maxHeartbeats 2000000 in
theorem back1_v (n : Nat) (hn : 1 ≤ n) (l Bs Bo b0 o0 c : Nat) (A : Option Addr) (s : List Int) (hA : ∀ (i : Nat) (x : Int), s[i]? = some x → A = some ⟨b0, o0, none⟩) (O : Nat → Prop) (J : Nat → World → (Nat → Prop) → Prop) (Jx : World → Prop)
    (hY : ∀ (k i : Nat) (z : Int) (W : World) (O : Nat → Prop), k + i + 1 = s.length → s[i]? = some z → J k W O → YieldAt Fence.wide (n - 1) Tryz.prog l #[.int .i64 i, .int .i64 z] W fun e W' =>
      (e = .returned (.bool true) ∧ ∃ O', J (k + 1) W' O' ∧ Kv O O' W W') ∨ (e = .returned (.bool false) ∧ Jx W'))
    (W : World) (hBs : W.cell? ⟨Bs, Bo, none⟩ = some (.slice A s.length c)) (hBO : ¬ O Bs) (hr : IntAt W b0 o0 s) (hO2 : ¬ O b0) (hc : s.length ≤ c) (hm : c ≤ maxLen) (h0 : J 0 W O) :
    CallsIn Fence.wide n Tryz.prog 155 #[.func (.yield l) #[] #[], .pointer (some ⟨Bs, Bo, none⟩)] W fun e W' => (∃ v, e = .returned v) ∧
      ((∃ O', J s.length W' O') ∨ Jx W') := by
  unfold maxLen at hm
  refine callsIn_of_wp Tryz.func155 rfl trivial ?_ rfl
  simp only [Tryz.ntmps155, List.size_toArray, List.length_cons, List.length_nil, Nat.reduceAdd, Nat.reduceSub, Array.replicate_succ, Array.replicate_zero, List.push_toArray, List.append_toArray, List.nil_append, List.cons_append]
  gi_wp2
  gi_loopw [3] (fun i wr => ∃ (k : Nat) (O1 : Nat → Prop), k ≤ s.length ∧ i = .int .i64 ((s.length : Int) - 1 - k) ∧ J k wr O1 ∧ Kv O O1 W wr)
    (fun i _ => (intOf i + 1).toNat)
  case atStart => exact ⟨0, O, Nat.zero_le _, by simp, h0, Kv.refl _ _⟩
  case round =>
    obtain ⟨k, O1, hk, rfl, hJk, hfr⟩ := hrel
    obtain ⟨wo, hwo⟩ : ∃ wo, wo = wr := ⟨_, rfl⟩
    subst hwo
    have q0 := hfr.cell hBs hBO
    by_cases hlt : k < s.length
    · obtain ⟨x, hx⟩ : ∃ x, s[s.length - 1 - k]? = some x := ⟨_, List.getElem?_eq_getElem (by omega)⟩
      have q1 := hfr.cell (hr _ _ hx) hO2
      have hA' := hA _ x hx
      subst hA'
      clear hA
      obtain ⟨i, hi⟩ : ∃ i : Nat, i = s.length - 1 - k := ⟨_, rfl⟩
      have hie : (s.length : Int) - 1 - k = (i : Int) := by omega
      rw [← hi] at hx q1
      rw [hie]
      have hil : (i : Int) < s.length := by omega
      have hi0 : (0 : Int) ≤ i := by omega
      have hki : k + i + 1 = s.length := by omega
      have HK := hid hki
      clear hi hie
      obtain ⟨fn, tmps, assign, body, hy, hR⟩ := hY k i x _ O1 hki hx hJk
      clear hki
      gi_wp2
      refine hR.mono ?_
      rintro e W3 (⟨rfl, O3, hJ3, hk3⟩ | ⟨rfl, hJx3⟩)
      · gi_wp2
        go_roundw
        case rel => exact ⟨k + 1, O3, by omega, by have := HK.out; congr 1; push_cast; omega, hJ3, hfr.trans hk3⟩
        case measure => have := HK.out; simp [intOf]
      · gi_wp2
        refine bodyPost_ret (results_none rfl _ _ _) rfl ?_
        exact ⟨⟨_, rfl⟩, .inr hJx3⟩
    · obtain rfl : k = s.length := by omega
      have hneg : ¬ (0 : Int) ≤ (s.length : Int) - 1 - (s.length : Int) := by omega
      gi_wp2
      go_end0
      exact ⟨⟨_, rfl⟩, .inl ⟨O1, hJk⟩⟩
def backZ (s : List Int) : List (List Int) := (List.range s.length).map fun k => [((s.length - 1 - k : Nat) : Int), s.getD (s.length - 1 - k) 0]
theorem backZ_at {s : List Int} {k : Nat} {z : List Int} (h : (backZ s)[k]? = some z) : ∃ (i : Nat) (x : Int), k + i + 1 = s.length ∧ s[i]? = some x ∧ z = [(i : Int), x] := by
  unfold backZ at h
  rw [List.getElem?_map] at h
  obtain ⟨j, hj, rfl⟩ := Option.map_eq_some_iff.1 h
  obtain ⟨hk, hj⟩ := List.getElem?_eq_some_iff.1 hj
  simp only [List.length_range, List.getElem_range] at hk hj
  subst hj
  refine ⟨s.length - 1 - k, s.getD (s.length - 1 - k) 0, by omega, ?_, rfl⟩
  rw [List.getD_eq_getElem?_getD, List.getElem?_eq_getElem (by omega)]
  rfl
theorem backZ_of {s : List Int} {k i : Nat} {x : Int} (h : k + i + 1 = s.length) (hx : s[i]? = some x) : (backZ s)[k]? = some [(i : Int), x] := by
  unfold backZ
  rw [List.getElem?_map, List.getElem?_range (by omega)]
  have : s.length - 1 - k = i := by omega
  simp [this, hx]
theorem backZ_len {s : List Int} : (backZ s).length = s.length := by simp [backZ]
set_option maxRecDepth 100000 in
theorem back_iter (s : List Int) : IterV Tryz.prog 155 [.iptr [intR.L s]] (backZ s) := by
  intro l J Jx W Sb G us O hus hO hY hJ hJs h0
  obtain ⟨u, us', rfl, hu, hus⟩ := hus.head
  have := hus.none
  subst this
  have hY' : ∀ (k i : Nat) (z : Int) (W : World) (O : Nat → Prop), k + i + 1 = s.length → s[i]? = some z → J k W O → YieldAt Fence.wide (1 - 1) Tryz.prog l #[.int .i64 i, .int .i64 z] W fun e W' => (e = .returned (.bool true) ∧ ∃ O', J (k + 1) W' O' ∧ Kv O O' W W') ∨ (e = .returned (.bool false) ∧ Jx W') := fun k i z W O hk hz hj => by
    have := hY k _ W O (backZ_of hk hz) hj
    simpa using this
  rw [backZ_len]
  cases hu with
  | @iptr _ bs os f hbs hn ho hcell hv =>
    have hc0 := hcell 0 _ rfl
    have hv0 := hv 0 _ rfl
    simp only [Rp.L] at hv0
    generalize f 0 = v at hc0 hv0
    obtain ⟨xs, hxs⟩ : ∃ xs, xs = s.map intR.cells := ⟨_, rfl⟩
    rw [← hxs] at hv0
    have hlen : xs.length = s.length := by rw [hxs, List.length_map]
    cases hv0 with
    | @list _ b o m c f' hb' hm hc hcm hl ho' hcell' hv' =>
      rw [hlen] at hc0 hc
      refine back1_v 1 (Nat.le_refl 1) l bs os b o c _ s (fun _ _ _ => rfl) O J Jx hY' W (by simpa using hc0) (hO _ hbs) (fun i x hx => ?_) (hO _ hb') hc hcm h0
      have hi : xs[i]? = some [.int .i64 x] := by rw [hxs, List.getElem?_map, hx]; rfl
      have a1 := hcell' i _ 0 _ hi rfl
      have b1 := hv' i _ 0 _ hi rfl
      have hm1 : intR.m = 1 := rfl
      rw [hm1, Nat.mul_one, Nat.add_zero] at a1
      generalize f' i 0 = u1 at a1 b1
      cases b1
      exact a1
    | @list0 _ a c hcm =>
      have hs : s = [] := List.eq_nil_of_length_eq_zero hlen.symm
      subst hs
      exact back1_v 1 (Nat.le_refl 1) l bs os bs 0 c a [] (fun i x hx => by simp at hx) O J Jx hY' W (by simpa using hc0) (hO _ hbs) (fun i x hx => by simp at hx) (hO _ hbs) (Nat.zero_le _) hcm h0
attribute [local irreducible] Ev arun awp RetQ NextQ
set_option maxHeartbeats 1000000
theorem backward_v (l : List Int) : VPure Tryz.prog 103 [intR.L l] (.func (.func 155) [] [.iptr [intR.L l]]) := by
  refine a_pure (n0 := 0) (hN := Tryz.ntmps103) (hf := Tryz.func103) ?_
  refine wk ⟨?_⟩
  refine ret_tmp (.inr rfl) rfl rfl ?_
  refine pk_func1 ?_
  refine pk_box rfl rfl rfl rfl rfl ?_
  exact pk_list rfl
end Go.Proofs.YtofcjmjokokajaaGreat
