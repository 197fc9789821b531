/-
  term.values. Conditions: right numbers, sets of symbols, few spans. term.inner, Image, Fits. Conditions: good guards, few spans. term.Const, Copy, Value. Conditions: of Const a rune, of Value right numbers, right parts, a window of symbols, an inner value that is a symbol.
-/
import Derived.Test.YtofcjmjokokajaaGreatQt
import Derived.Test.YtofcjmjokokajaaGreatQm
import Derived.Test.YtofcjmjokokajaaGreatQn
namespace Go.Vm
open Go.RowKit
def RnM (n : Nat) (f : Nat → Nat → Option (Nat × Nat)) (s : Store) (D : Nat → Prop) : List (V × V) → List (V × V) → Prop
  | [], [] => True
  | p :: r, q :: r' => (Rn n f s D p.1 q.1 ∧ Rn n f s D p.2 q.2) ∧ RnM n f s D r r'
  | _, _ => False
theorem rnm_len {n : Nat} {f : Nat → Nat → Option (Nat × Nat)} {s : Store} {D : Nat → Prop} : ∀ {es es' : List (V × V)}, RnM n f s D es es' → es.length = es'.length ∧ ∀ (i : Nat) (p q : V × V), es[i]? = some p → es'[i]? = some q → Rn n f s D p.1 q.1 ∧ Rn n f s D p.2 q.2
  | [], [], _ => ⟨rfl, fun i p q h => by simp at h⟩
  | [], _ :: _, h => h.elim
  | _ :: _, [], h => h.elim
  | p :: r, q :: r', h => by
    obtain ⟨h1, h2⟩ := rnm_len h.2
    refine ⟨by simp [h1], fun i a b ha hb => ?_⟩
    cases i with
    | zero => cases ha; cases hb; exact h.1
    | succ i => exact h2 i a b (by simpa using ha) (by simpa using hb)
theorem rnm_of {n : Nat} {f : Nat → Nat → Option (Nat × Nat)} {s : Store} {D : Nat → Prop} {kt : TypeId} {es es' : List (V × V)} (h : RnM n f s D es es') : RnB n f s D (.map kt es) (.map kt es') := .map (rnm_len h).1 (rnm_len h).2
theorem pk_boxc {s : Store} {α : Type} {r : Rp α} {x : α} {id g m G L : Nat} {e : TypeId} (hs : s id = some (.cells e m G L [r.cells x])) (hg : (Nat.ble L g && Nat.ble g G) = true) (hm : r.m = m) : Pk s (.ptr id g 0 0) (.iptr (r.cells x)) := by
  simp only [Bool.and_eq_true, Nat.ble_eq] at hg
  refine .ptr hs hg rfl (by rw [(r.ok x).1, Nat.add_zero]; exact hm) (fun v hv => ((r.ok x).2 v hv).2) fun j a b h1 h2 => ?_
  rw [Nat.zero_add] at h1
  rw [h1] at h2
  cases h2
  exact .keep ((r.ok x).2 a (List.mem_of_getElem? h1)).1
end Go.Vm
namespace Go.Proofs.YtofcjmjokokajaaGreat
open Go.RowKit Go.Um Go.Proofs Go.Vm
attribute [local irreducible] Ev arun frun awp RetQ NextQ
set_option maxHeartbeats 4000000
theorem places_le (ps : List Part) : (placesF ps).length ≤ ps.length := by
  have key : ∀ (ps : List Part) (l : List Int), (ps.foldl placeStep l).length ≤ l.length + ps.length := by
    intro ps
    induction ps with
    | nil => intro l; simp
    | cons p r ih =>
      intro l
      have h1 : (placeStep l p).length ≤ l.length + 1 := by unfold placeStep; split <;> simp
      have := ih (placeStep l p)
      rw [List.foldl_cons, List.length_cons]
      omega
  simpa [placesF] using key ps []
theorem cntF_take (ps : List Part) (qs : List Int) (j : Nat) : cntF ps (qs.take j) ≤ cntF ps qs := by
  have h : cntF ps (qs.take j ++ qs.drop j) = cntF ps (qs.take j) + cntF ps (qs.drop j) := by unfold cntF; rw [List.map_append, List.sum_append]
  rw [List.take_append_drop] at h
  have := cntF_nonneg ps (qs.drop j)
  omega
theorem imgN_in {p : Part} (hb : bitsF p = true) (s : List Span) : ∀ q ∈ imgN p s, 0 ≤ q.lo ∧ q.lo ≤ q.hi ∧ q.hi ≤ pw p.take - 1 := fun q hq => by
  have hNp : plain (imgN p s) = true := by unfold imgN; exact normF_plain _
  have h1 := (plainFrom_ok hNp q hq).1
  obtain ⟨x, _, e1⟩ := (mem_imgN hb).1 ⟨q, hq, Int.le_refl _, h1⟩
  obtain ⟨y, _, e2⟩ := (mem_imgN hb).1 ⟨q, hq, h1, Int.le_refl _⟩
  have ht := take_bd hb
  have a1 := Int.emod_nonneg (x / pw p.drop) (show pw p.take ≠ 0 by omega)
  have a2 := Int.emod_lt_of_pos (y / pw p.drop) (show 0 < pw p.take by omega)
  omega
theorem togF_len {l : List Part} {s : List Span} (hb : ∀ p ∈ l, bitsF p = true) (hs : symS s) : (togF l s).length ≤ 3000000 := by
  unfold togF
  split
  · rename_i p
    have hpb := hb p (by simp)
    have hin := imgN_in hpb s
    have htk := take_bd hpb
    have hNp : plain (imgN p s) = true := by unfold imgN; exact normF_plain _
    have hNr : Rise 0 (imgN p s) := plain_rise hNp fun q hq => (hin q hq).1
    unfold imgF
    split
    · have := hNr.len (M := 2097151) (fun q hq => by have := (hin q hq).2.2; omega) (by omega)
      omega
    · rename_i hu
      have ht6 := pw_6 ((bitsF_iff.1 hpb).2.2.2.2.2.2.resolve_left hu)
      have h1 := eachL_len hNr (M := pw p.take - 1) (fun q hq => (hin q hq).2.2) (by omega)
      have h2 := normF_length (upL (pw p.up) (eachL (imgN p s)))
      have h3 : (upL (pw p.up) (eachL (imgN p s))).length = (eachL (imgN p s)).length := by simp [upL]
      omega
  · have hR : ∀ y ∈ normF s, 0 ≤ y.lo ∧ y.lo ≤ y.hi ∧ y.hi ≤ 1114111 := fun y hy => by
      have h1 := plain_ne (normF_plain s) y hy
      have h2 := hs y.lo (mem_normF.1 ⟨y, hy, Int.le_refl _, h1⟩).2
      have h3 := hs y.hi (mem_normF.1 ⟨y, hy, h1, Int.le_refl _⟩).2
      omega
    have hel := eachL_len (M := 1114111) (plain_rise (normF_plain s) fun y hy => (hR y hy).1) (fun y hy => (hR y hy).2.2) (by decide)
    have h2 := normF_length (runsF ((eachL (normF s)).map (sumP l)))
    have h3 := runs_len ((eachL (normF s)).map (sumP l))
    rw [List.length_map] at h3
    omega
theorem ents_get : ∀ {qs : List Int} {rs : List PR} {j i : Nat} {p : V × V}, (ents j qs rs)[i]? = some p → ∃ q r, qs[i]? = some q ∧ rs[i]? = some r ∧ p = (.int .i64 q, .row (j + i) r.g 0 r.cs.length)
  | [], _, _, _, _, h => by simp [ents] at h
  | _ :: _, [], _, _, _, h => by simp [ents] at h
  | q :: qs, r :: rs, j, i, p, h => by
    cases i with
    | zero => cases h; exact ⟨q, r, rfl, rfl, rfl⟩
    | succ i =>
      obtain ⟨q', r', h1, h2, h3⟩ := ents_get (i := i) (j := j + 1) (by simpa [ents] using h)
      exact ⟨q', r', by simpa using h1, by simpa using h2, by rw [h3]; congr 2; omega⟩
theorem ents_len : ∀ {qs : List Int} {rs : List PR} {j : Nat}, qs.length = rs.length → (ents j qs rs).length = qs.length
  | [], _, _, _ => by simp [ents]
  | _ :: _, [], _, h => by simp at h
  | q :: qs, r :: rs, j, h => by simp [ents, ents_len (qs := qs) (rs := rs) (j := j + 1) (by simpa using h)]
theorem rowB_some {o : Option PR} : (rowB o).isSome = true := by cases o <;> rfl
structure V2St where
  k : Nat
  out : List Span
theorem last_v (l : List Span) (hl : l.length ≤ 1073741824) : VPure Tryz.prog 281 [spanR.L l] (.tuple [.int .i64 (lastHi (normF l)), .bool (!(normF l).isEmpty)]) := by
  refine a_pure (n0 := 0) (hN := Tryz.ntmps281) (hf := Tryz.func281) ?_
  have hn := norm_v l hl
  have hml := normF_length l
  generalize normF l = m at hn hml ⊢
  refine wk ⟨?_⟩
  refine ar_pure hn ?_
  cases m with
  | nil =>
    refine wk ⟨?_⟩
    exact ret_two (.inr rfl) rfl rfl rfl (pk_int rfl) (pk_bool rfl)
  | cons s r =>
    have hlen : (s :: r).length = r.length + 1 := rfl
    refine wk ⟨?_⟩
    exact ret_two (.inr rfl) rfl rfl rfl (pk_int (by
      unfold lastHi
      rw [List.getLast?_eq_getElem?]
      have e : ((((s :: r).length : Nat) : Int) - 1).toNat = (s :: r).length - 1 := by omega
      simp only [e]
      rw [List.getElem?_eq_getElem (by simp)])) (pk_bool rfl)
theorem len1 {α β : Type} {qs : List α} {r0 : β} (h : qs.length = [r0].length) : ∃ q0, qs = [q0] := by
  match qs, h with
  | [q0], _ => exact ⟨q0, rfl⟩
theorem len2 {α β : Type} {qs : List α} {r0 r1 : β} (h : qs.length = [r0, r1].length) : ∃ q0 q1, qs = [q0, q1] := by
  match qs, h with
  | [q0, q1], _ => exact ⟨q0, q1, rfl⟩
theorem len3 {α β : Type} {qs : List α} {r0 r1 r2 : β} (h : qs.length = [r0, r1, r2].length) : ∃ q0 q1 q2, qs = [q0, q1, q2] := by
  match qs, h with
  | [q0, q1, q2], _ => exact ⟨q0, q1, q2, rfl⟩
theorem values_v (t : Term) (sets : List (List Span)) (hn : numbersF t = true) (hr : ∀ p ∈ t.parts, rightP p sets.length = true) (hs : ∀ g ∈ sets, symS g ∧ g.length ≤ 268435456) : VPure Tryz.prog 261 [.agg (termR.cells t), spansR.L sets] (.tuple [spanR.L (valuesF t sets), .bool (okV (valuesF t sets))]) := by
  obtain ⟨_, hsum, _, _, hl4⟩ := numbersF_iff.1 hn
  have hsum := smallN_iff.1 hsum
  refine a_pure (n0 := 0) (hN := Tryz.ntmps261) (hf := Tryz.func261) ?_
  refine wk ⟨?_⟩
  refine ar_s ?_ ev_makemap
  refine wk ⟨?_⟩
  refine a_loop (σ := VsSt) 5 [1, 2, 6, 19, 20] (fun x => [(7, nrow 2 x.pg x.qs.length), (21, V.int .i64 (x.k : Int))]) (fun x => [(1, some (.map 3 (ents 3 x.qs x.rs))), (2, nb 3 1 x.pg x.pL (x.qs.map intR.cells)), (3, rowB x.rs[0]?), (4, rowB x.rs[1]?), (5, rowB x.rs[2]?), (6, rowB x.rs[3]?)]) (Vok t.parts) (fun x => t.parts.length - x.k) ⟨0, [], 0, 0, []⟩ ⟨Nat.le_refl _, Nat.zero_le _, rfl, rfl, Nat.le_refl _, fun i q r h => by simp at h⟩ ?_
  rintro ⟨k, qs, pg, pL, rs⟩ hok
  have hok0 := hok
  obtain ⟨hpl, hk, hqs, hqr, hqk, hall⟩ := hok0
  simp only at hpl hk hqs hqr hqk hall
  obtain hx | ⟨p, hp, hlt⟩ := range_cases hk
  · subst k
    rw [List.take_length] at hqs hall
    have hqnd : qs.Nodup := hqs ▸ places_nodup _
    have hql : qs.length ≤ 4 := by have := places_le t.parts; rw [← hqs] at this; omega
    have hrb := hr
    have hb : ∀ p ∈ t.parts, bitsF p = true := fun p hp => (rightP_iff.1 (hrb p hp)).2.2
    have hex : ∀ a ∈ qs, ∃ g, sets[a.toNat]? = some g ∧ 0 ≤ a := fun a ha => by
      rw [hqs] at ha
      obtain ⟨p, hp, rfl⟩ := mem_placesF.1 ha
      have := rightP_iff.1 (hrb p hp)
      exact ⟨sets[p.at_.toNat]'(by omega), List.getElem?_eq_getElem (by omega), this.1⟩
    have hcnt : cntF t.parts qs = t.parts.length := by rw [hqs]; exact cntF_all (places_nodup _) fun p hp => mem_placesF.2 ⟨p, hp, rfl⟩
    have hvf : valuesF t sets = qs.foldl (valsGo t.parts sets) [⟨t.sum, t.sum⟩] := by rw [hqs]; rfl
    dsimp only
    refine wk ⟨?_⟩
    refine a_freeze [2, 3, 4, 5, 6, 7] 1 (qs.map fun a => (V.int .i64 a, partR.L (ofAt t.parts a))) rfl rfl (by rw [ents_len hqr, List.length_map]) (fun i x y hx hy => ?_) (by exact .pack (k := 10) (v := spanR.L [⟨t.sum, t.sum⟩]) (pk_row rfl rfl rfl rfl rfl) (.pack (k := 53) (v := intR.L qs) (pk_nrow rfl (ble2 hpl) rfl rfl) (.keep (k := 1) FV.list (.keep (k := 6) FV.map (.keep (k := 54) FV.int (.keep (k := 55) FV.int .nil)))))) (by
      simp only [List.all_cons, List.all_nil, Bool.and_true]
      show ((nb _ _ _ _ _).isSome && ((rowB rs[0]?).isSome && ((rowB rs[1]?).isSome && ((rowB rs[2]?).isSome && ((rowB rs[3]?).isSome && true))))) = true
      simp only [nb_some, rowB_some, Bool.and_self]) ?_
    · obtain ⟨q, r, h1, h2, rfl⟩ := ents_get hx
      rw [List.getElem?_map, h1] at hy
      cases hy
      obtain ⟨c1, c2, c3⟩ := hall i q r h1 h2
      refine ⟨rfl, .inr ?_⟩
      have hi : i < 4 := by have := (List.getElem?_eq_some_iff.1 h1).1; omega
      refine pk_row (e := 87) (m := 4) (G := r.g) (L := r.L) (xs := r.cs.map partR.cells) ?_ (by exact ble2 c3) rfl (by rw [c1]) (by rw [c1])
      have hi4 : i = 0 ∨ i = 1 ∨ i = 2 ∨ i = 3 := by omega
      rcases hi4 with rfl | rfl | rfl | rfl
      · show rowB rs[0]? = _
        rw [h2]
        rfl
      · show rowB rs[1]? = _
        rw [h2]
        rfl
      · show rowB rs[2]? = _
        rw [h2]
        rfl
      · show rowB rs[3]? = _
        rw [h2]
        rfl
    · clear hall hok hk hqk hqr hrb hpl
      have hv := fun j => vals_fold (ps := t.parts) (sets := sets) hb hl4 (fun g hg => (hs g hg).1) (qs := qs.take j) (out := [⟨t.sum, t.sum⟩]) (n := 1114111) (fun a ha => by
        obtain ⟨g, hg, _⟩ := hex a (List.mem_of_mem_take ha)
        exact ⟨g, hg⟩) (hqnd.sublist (List.take_sublist _ _)) (fun s hs => by simp at hs; subst hs; exact Int.le_refl _) (fun s hs => by simp at hs; subst hs; exact hsum) (by have := cntF_take t.parts qs j; omega) (by decide)
      have hvn : ∀ j, neL ((qs.take j).foldl (valsGo t.parts sets) [⟨t.sum, t.sum⟩]) := fun j => (hv j).1
      have hvb : ∀ j, inB 300000000 ((qs.take j).foldl (valsGo t.parts sets) [⟨t.sum, t.sum⟩]) := fun j s hs => by
        have := (hv j).2.1 s hs
        have := cntF_take t.parts qs j
        omega
      have hvp : ∀ j, plain ((qs.take j).foldl (valsGo t.parts sets) [⟨t.sum, t.sum⟩]) = true := fun j => by
        rcases List.eq_nil_or_concat (qs.take j) with h | ⟨l, a, h⟩
        · rw [h]
          exact plainFrom_cons.2 ⟨by simp only; omega, rfl⟩
        · rw [h, List.concat_eq_append, List.foldl_append]
          exact plusF_plain _ _
      have hvl : ∀ j, ((qs.take j).foldl (valsGo t.parts sets) [⟨t.sum, t.sum⟩]).length ≤ 300000001 := fun j => plain_len (n := 300000000) (hvp j) (hvb j)
      clear hv
      refine a_loop (σ := V2St) 0 [1, 6, 53, 54] (fun x => [(10, spanR.L x.out), (55, V.int .i64 (x.k : Int))]) (fun _ => []) (fun x => x.k ≤ qs.length ∧ x.out = (qs.take x.k).foldl (valsGo t.parts sets) [⟨t.sum, t.sum⟩]) (fun x => qs.length - x.k) ⟨0, [⟨t.sum, t.sum⟩]⟩ ⟨Nat.zero_le _, rfl⟩ ?_
      rintro ⟨k, out⟩ ⟨hk, ho⟩
      simp only at hk ho
      have h1 := hvn k
      have h2 := hvb k
      have h3 := hvp k
      have h4 := hvl k
      rw [← ho] at h1 h2 h3 h4
      obtain hx | ⟨a, ha, hal⟩ := range_cases hk
      · subst k
        rw [List.take_length, ← hvf] at ho
        rw [← ho]
        have hno : normF out = out := normF_id h3
        have hf := first_v out (by omega)
        have hla := last_v out (by omega)
        rw [hno] at hf hla
        clear ho hvn hvb hvp hvl hvf h1 h2 h3
        dsimp only
        cases out with
        | nil =>
          refine wk ⟨?_⟩
          refine ar_pure hf ?_
          refine wk ⟨?_⟩
          refine ar_pure hla ?_
          refine wk ⟨?_⟩
          exact ret_two (.inr rfl) rfl rfl rfl (pk_list rfl) (pk_bool rfl)
        | cons s r =>
          refine wk ⟨?_⟩
          refine ar_pure hf ?_
          refine wk ⟨?_⟩
          refine ar_pure hla ?_
          repeat' first | (show arun _ _ _ _ _ (⟨some _, _, _, _, _, none⟩ :: _) _ _ _; first | refine ar_s ?_ | refine ar_app_n (fun h => ?_) (fun h => ?_) | refine ar_app_nz (fun h => ?_) (fun h => ?_)) | (show arun _ _ _ _ _ (⟨_, _, _, _, _, some _⟩ :: _) _ _ _; first | refine ar_on ?_ | refine ar_off ?_ | refine ar_off2 ?_ | refine ar_split_t ?_ | refine ar_split_f ?_ | refine ar_split (fun h => ?_) (fun h => ?_)) | (show arun _ _ _ _ _ (⟨none, _, _, _, _, none⟩ :: _) _ _ _; refine ar_n ?_) | (show frun _ _ _ _ _ _ (⟨some _, _, _, _, _, none⟩ :: _) _ _ _; refine fr_s ?_) | (show frun _ _ _ _ _ _ (⟨none, _, _, _, _, none⟩ :: _) _ _ _; refine fr_n ?_) | (show grun _ _ _ _ _ _ _ (⟨some _, _, _, _, _, none⟩ :: _) _ _ _; refine gr_s ?_) | (show grun _ _ _ _ _ _ _ (⟨none, _, _, _, _, none⟩ :: _) _ _ _; refine gr_n ?_) | refine gr_nil ?_ | refine fr_nil ?_ | refine ar_nil ?_ | refine a_seq ?_ | refine a_block ?_ | refine a_region ?_ | refine a_drawn ?_ | refine a_skip ?_ | refine a_exit ?_ | refine a_ret ?_ | (show awp _ _ (.cond _ _ _) _ _ _ _; first | refine a_yes rfl ?_ | refine a_no rfl ?_ | refine a_dec_t ?_ | refine a_dec_f ?_ | refine a_dec rfl (fun h => ?_) (fun h => ?_))
          · exact ret_two (.inr rfl) rfl rfl rfl (pk_list rfl) (pk_bool (by
              have h0 : 0 ≤ s.lo := by assumption
              simp [okV, headLo, h0]))
          · exact ret_two (.inr rfl) rfl rfl rfl (pk_list rfl) (pk_bool (by
              have h0 : ¬ 0 ≤ s.lo := by assumption
              simp [okV, headLo, h0]))
          · exfalso
            have h0 : ¬ (0 : Int) < ((s :: r).length : Nat) := by assumption
            simp only [List.length_cons] at h0
            omega
      · obtain ⟨g, hg, ha0⟩ := hex a (List.mem_of_getElem? ha)
        obtain ⟨g1, g2⟩ := hs g (List.mem_of_getElem? hg)
        have hof : ∀ p ∈ ofAt t.parts a, bitsF p = true := fun p hp => hb p (ofAt_sub hp)
        have hofl : (ofAt t.parts a).length ≤ 4 := Nat.le_trans (ofAt_len _ _) hl4
        have htv := together_v (ofAt t.parts a) g hofl hof g2 g1
        have htl := togF_len hof g1
        have htp := togF_plain (ofAt t.parts a) g
        have htb : inB 300000000 (togF (ofAt t.parts a) g) := mem_inB (plain_ne htp) fun z hz => by
          obtain ⟨x, _, rfl⟩ := (mem_togF hof hofl g1).1 hz
          have := sumP_bd hof x
          omega
        have hpv := plus_v out (togF (ofAt t.parts a) g) htl (by omega) h1 (plain_ne htp) h2 htb
        have hgo : (qs.take (k + 1)).foldl (valsGo t.parts sets) [⟨t.sum, t.sum⟩] = plusF out (togF (ofAt t.parts a) g) := by
          rw [take_at ha, List.foldl_append, ← ho]
          show valsGo t.parts sets out a = _
          unfold valsGo
          rw [hg]
          rfl
        clear hvn hvb hvp hvl hvf ho htl htp htb h1 h2 h3
        dsimp only
        refine wk ⟨?_⟩
        refine ar_s ?_ (ev_lookup (qs := qs) (e := (V.int .i64 a, partR.L (ofAt t.parts a))) k (hk := by simp) (hn := hqnd) (hi := ha) (he := by rw [List.getElem?_map, ha]; rfl))
        refine wk ⟨?_⟩
        refine ar_pure htv ?_
        refine wk ⟨?_⟩
        refine ar_pure hpv ?_
        refine wk ⟨?_⟩
        refine a_next (⟨k + 1, plusF out (togF (ofAt t.parts a) g)⟩ : V2St) ⟨hal, hgo.symm⟩ (by simp only; omega) ?_
        exact wz
  · have hm3 : rs.length ≤ 3 := by omega
    have hqnd : qs.Nodup := hqs ▸ places_nodup _
    clear hqs hqk hs hr hsum
    rcases rs with _ | ⟨r0, _ | ⟨r1, _ | ⟨r2, _ | ⟨r3, rs⟩⟩⟩⟩
    · obtain rfl : qs = [] := List.length_eq_zero_iff.1 hqr
      have hnew : p.at_ ∉ ([] : List Int) := by simp
      dsimp only
      refine wk ⟨?_⟩
      refine ar_s ?_ (ev_lookup_no (qs := []) (hk := rfl) (hi := hnew))
      refine wk ⟨?_⟩
      refine a_freeze0 [7] (by exact .pack (k := 9) (pk_boxc (r := partR) (x := p) rfl rfl rfl) (.keep (k := 6) FV.map (.keep (k := 7) (by first | exact FV.row | exact FV.nrow) (.keep (k := 21) FV.int (.keep (k := 1) FV.list (.keep (k := 2) FV.ptr (.keep (k := 19) FV.list (.keep (k := 20) FV.int .nil)))))))) ?_
      refine a_regionF [1, 2] ?_
      refine wk ⟨?_⟩
      show frun _ _ _ _ _ _ (⟨some _, _, _, _, _, none⟩ :: _) _ _ _
      refine fr_s ?_ (ev_lookup_no (qs := []) (hk := rfl) (hi := hnew))
      refine wk ⟨?_⟩
      show frun _ _ _ _ _ _ (⟨none, _, _, _, _, none⟩ :: _) _ _ _
      refine fr_n ?_ (ev_mapnew (qs := []) (hk := rfl) (hi := hnew))
      refine wk ⟨?_⟩
      refine a_next (⟨k + 1, [p.at_], 0, 0, [⟨[p], 0, 0⟩]⟩ : VsSt) (hok.new hp hnew (by omega)) (by simp only; omega) ?_
      refine endP (CS := [(1, some (.map 3 (ents 3 [p.at_] [⟨[p], 0, 0⟩]))), (4, some .hole), (5, some .hole), (6, some .hole)]) [(2, some (.cells 3 1 0 0 ([p.at_].map intR.cells))), (3, some (.cells 87 4 0 0 ([p].map partR.cells)))] 2 [9, 11] ?_ ?_ ?_ ?_ (hky := by show List.Perm [1, 4, 5, 6, 2, 3] [1, 2, 3, 4, 5, 6]; decide) (hfree := fun id a b => by
        obtain rfl | rfl : id = 2 ∨ id = 3 := by simp at b; omega
        all_goals exact ⟨rfl, rfl⟩)
      all_goals repeat' first | exact Rn.row rfl | exact ⟨_, _, _, _, _, _, rfl, rfl, RnX.of_eq rfl⟩ | exact trivial | refine And.intro ?_ ?_ | exact rn_int rfl | exact rn_list rfl | exact rn_row rfl ⟨rfl, rfl, rfl⟩ | exact rn_ptr rfl | exact rn_bool rfl | exact rn_agg rfl | exact rn_iptr rfl | exact rn_map rfl | exact rn_nrows rfl | exact rn_new rfl rfl rfl (by omega) | refine rn_int ?_ | refine rn_bool ?_ | refine rn_list ?_ | refine rn_row rfl ⟨?_, ?_, ?_⟩ | refine rn_nrow rfl ⟨rfl, ?_⟩ ?_ | refine rn_agg ?_ | exact Exists.intro _ ⟨rfl, RnB.cells (RnX.of_eq rfl), rfl⟩ | exact Exists.intro _ ⟨rfl, RnB.cells (RnX.of_eq (map_snoc rfl)), rfl⟩ | exact Exists.intro _ ⟨rfl, RnB.cells (RnX.of_eq (map_setc rfl)), rfl⟩ | exact Exists.intro _ ⟨rfl, RnB.cells (RnX.of_eq (map_inc rfl)), rfl⟩ | exact Exists.intro _ ⟨rfl, RnB.cells (RnX.of_eq (map_snocs rfl)), rfl⟩ | refine Exists.intro _ ⟨rfl, RnB.cells (RnX.cons (RnC.cons ?_ ?_ RnC.nil) RnX.nil), rfl⟩ | exact Exists.intro _ ⟨rfl, RnB.hole, rfl⟩ | refine Exists.intro _ ⟨rfl, rnm_of ?_, rfl⟩ | exact nrow_one | refine old_nbs ?_ rfl | refine old_nb ?_ ⟨?_, _, rfl, RnB.cells (RnX.of_eq (map_snoc rfl)), rfl⟩ | refine old_nb ?_ ⟨?_, _, rfl, RnB.cells (RnX.of_eq (map_snocs rfl)), rfl⟩ | refine old_nb ?_ ⟨?_, _, rfl, RnB.cells (RnX.of_eq (map_inc rfl)), rfl⟩ | refine old_nb ?_ ⟨?_, _, rfl, RnB.cells (RnX.of_eq rfl), rfl⟩ | rfl | (simp only []; omega) | (simp; done) | (simp; omega) | assumption
    · obtain ⟨q0, rfl⟩ : ∃ q0, qs = [q0] := len1 hqr
      by_cases hq0 : p.at_ = q0
      · subst q0
        obtain ⟨c1, c2, c3⟩ := hall 0 p.at_ r0 rfl rfl
        have cl := ofAt_len (t.parts.take k) p.at_
        rw [← c1, List.length_take] at cl
        clear c1 hall
        dsimp only
        refine wk ⟨?_⟩
        refine ar_s ?_ (ev_lookup (qs := [p.at_]) 0 (hk := rfl) (hn := hqnd) (hi := rfl))
        refine wk ⟨?_⟩
        refine a_freeze0 [7] (by exact .pack (k := 9) (pk_boxc (r := partR) (x := p) rfl rfl rfl) (.keep (k := 6) FV.map (.keep (k := 7) (by first | exact FV.row | exact FV.nrow) (.keep (k := 21) FV.int (.keep (k := 1) FV.list (.keep (k := 2) FV.ptr (.keep (k := 19) FV.list (.keep (k := 20) FV.int .nil)))))))) ?_
        refine a_regionF [1, 2] ?_
        refine wk ⟨?_⟩
        show frun _ _ _ _ _ _ (⟨some _, _, _, _, _, none⟩ :: _) _ _ _
        refine fr_s ?_ (ev_lookup (qs := [p.at_]) 0 (hk := rfl) (hn := hqnd) (hi := rfl))
        refine wk ⟨?_⟩
        show frun _ _ _ _ _ _ (⟨none, _, _, _, _, none⟩ :: _) _ _ _
        refine fr_n ?_ (ev_mapset (qs := [p.at_]) 0 (hk := rfl) (hn := hqnd) (hi := rfl))
        refine wk ⟨?_⟩
        refine a_next (⟨k + 1, [p.at_], pg, pL, [⟨r0.cs ++ [p], r0.g + 1, r0.L⟩]⟩ : VsSt) (hok.found hp (j := 0) (r := r0) rfl rfl) (by simp only; omega) ?_
        exact wz
      have hnew : p.at_ ∉ ([q0] : List Int) := by simp [hq0]
      dsimp only
      refine wk ⟨?_⟩
      refine ar_s ?_ (ev_lookup_no (qs := [q0]) (hk := rfl) (hi := hnew))
      refine wk ⟨?_⟩
      refine a_freeze0 [7] (by exact .pack (k := 9) (pk_boxc (r := partR) (x := p) rfl rfl rfl) (.keep (k := 6) FV.map (.keep (k := 7) (by first | exact FV.row | exact FV.nrow) (.keep (k := 21) FV.int (.keep (k := 1) FV.list (.keep (k := 2) FV.ptr (.keep (k := 19) FV.list (.keep (k := 20) FV.int .nil)))))))) ?_
      refine a_regionF [1, 2] ?_
      refine wk ⟨?_⟩
      show frun _ _ _ _ _ _ (⟨some _, _, _, _, _, none⟩ :: _) _ _ _
      refine fr_s ?_ (ev_lookup_no (qs := [q0]) (hk := rfl) (hi := hnew))
      refine wk ⟨?_⟩
      show frun _ _ _ _ _ _ (⟨none, _, _, _, _, none⟩ :: _) _ _ _
      refine fr_n ?_ (ev_mapnew (qs := [q0]) (hk := rfl) (hi := hnew))
      refine wk ⟨?_⟩
      refine a_next (⟨k + 1, [q0, p.at_], pg + 1, pL, [r0, ⟨[p], 0, 0⟩]⟩ : VsSt) (hok.new hp hnew (by omega)) (by simp only; omega) ?_
      refine endP (CS := [(1, some (.map 3 (ents 3 [q0, p.at_] [r0, ⟨[p], 0, 0⟩]))), (2, nb 3 1 (pg + 1) pL ([q0, p.at_].map intR.cells)), (3, rowB (some r0)), (5, some .hole), (6, some .hole)]) [(4, some (.cells 87 4 0 0 ([p].map partR.cells)))] 4 [10] ?_ ?_ ?_ ?_ (hky := by show List.Perm [1, 2, 3, 5, 6, 4] [1, 2, 3, 4, 5, 6]; decide) (hfree := fun id a b => by
        obtain rfl : id = 4 := by simp at b; omega
        all_goals exact ⟨rfl, rfl⟩)
      all_goals repeat' first | exact Rn.row rfl | exact ⟨_, _, _, _, _, _, rfl, rfl, RnX.of_eq rfl⟩ | exact trivial | refine And.intro ?_ ?_ | exact rn_int rfl | exact rn_list rfl | exact rn_row rfl ⟨rfl, rfl, rfl⟩ | exact rn_ptr rfl | exact rn_bool rfl | exact rn_agg rfl | exact rn_iptr rfl | exact rn_map rfl | exact rn_nrows rfl | exact rn_new rfl rfl rfl (by omega) | refine rn_int ?_ | refine rn_bool ?_ | refine rn_list ?_ | refine rn_row rfl ⟨?_, ?_, ?_⟩ | refine rn_nrow rfl ⟨rfl, ?_⟩ ?_ | refine rn_agg ?_ | exact Exists.intro _ ⟨rfl, RnB.cells (RnX.of_eq rfl), rfl⟩ | exact Exists.intro _ ⟨rfl, RnB.cells (RnX.of_eq (map_snoc rfl)), rfl⟩ | exact Exists.intro _ ⟨rfl, RnB.cells (RnX.of_eq (map_setc rfl)), rfl⟩ | exact Exists.intro _ ⟨rfl, RnB.cells (RnX.of_eq (map_inc rfl)), rfl⟩ | exact Exists.intro _ ⟨rfl, RnB.cells (RnX.of_eq (map_snocs rfl)), rfl⟩ | refine Exists.intro _ ⟨rfl, RnB.cells (RnX.cons (RnC.cons ?_ ?_ RnC.nil) RnX.nil), rfl⟩ | exact Exists.intro _ ⟨rfl, RnB.hole, rfl⟩ | refine Exists.intro _ ⟨rfl, rnm_of ?_, rfl⟩ | exact nrow_one | refine old_nbs ?_ rfl | refine old_nb ?_ ⟨?_, _, rfl, RnB.cells (RnX.of_eq (map_snoc rfl)), rfl⟩ | refine old_nb ?_ ⟨?_, _, rfl, RnB.cells (RnX.of_eq (map_snocs rfl)), rfl⟩ | refine old_nb ?_ ⟨?_, _, rfl, RnB.cells (RnX.of_eq (map_inc rfl)), rfl⟩ | refine old_nb ?_ ⟨?_, _, rfl, RnB.cells (RnX.of_eq rfl), rfl⟩ | rfl | (simp only []; omega) | (simp; done) | (simp; omega) | assumption
    · obtain ⟨q0, q1, rfl⟩ : ∃ q0 q1, qs = [q0, q1] := len2 hqr
      by_cases hq0 : p.at_ = q0
      · subst q0
        obtain ⟨c1, c2, c3⟩ := hall 0 p.at_ r0 rfl rfl
        have cl := ofAt_len (t.parts.take k) p.at_
        rw [← c1, List.length_take] at cl
        clear c1 hall
        dsimp only
        refine wk ⟨?_⟩
        refine ar_s ?_ (ev_lookup (qs := [p.at_, q1]) 0 (hk := rfl) (hn := hqnd) (hi := rfl))
        refine wk ⟨?_⟩
        refine a_freeze0 [7] (by exact .pack (k := 9) (pk_boxc (r := partR) (x := p) rfl rfl rfl) (.keep (k := 6) FV.map (.keep (k := 7) (by first | exact FV.row | exact FV.nrow) (.keep (k := 21) FV.int (.keep (k := 1) FV.list (.keep (k := 2) FV.ptr (.keep (k := 19) FV.list (.keep (k := 20) FV.int .nil)))))))) ?_
        refine a_regionF [1, 2] ?_
        refine wk ⟨?_⟩
        show frun _ _ _ _ _ _ (⟨some _, _, _, _, _, none⟩ :: _) _ _ _
        refine fr_s ?_ (ev_lookup (qs := [p.at_, q1]) 0 (hk := rfl) (hn := hqnd) (hi := rfl))
        refine wk ⟨?_⟩
        show frun _ _ _ _ _ _ (⟨none, _, _, _, _, none⟩ :: _) _ _ _
        refine fr_n ?_ (ev_mapset (qs := [p.at_, q1]) 0 (hk := rfl) (hn := hqnd) (hi := rfl))
        refine wk ⟨?_⟩
        refine a_next (⟨k + 1, [p.at_, q1], pg, pL, [⟨r0.cs ++ [p], r0.g + 1, r0.L⟩, r1]⟩ : VsSt) (hok.found hp (j := 0) (r := r0) rfl rfl) (by simp only; omega) ?_
        exact wz
      by_cases hq1 : p.at_ = q1
      · subst q1
        obtain ⟨c1, c2, c3⟩ := hall 1 p.at_ r1 rfl rfl
        have cl := ofAt_len (t.parts.take k) p.at_
        rw [← c1, List.length_take] at cl
        clear c1 hall
        dsimp only
        refine wk ⟨?_⟩
        refine ar_s ?_ (ev_lookup (qs := [q0, p.at_]) 1 (hk := rfl) (hn := hqnd) (hi := rfl))
        refine wk ⟨?_⟩
        refine a_freeze0 [7] (by exact .pack (k := 9) (pk_boxc (r := partR) (x := p) rfl rfl rfl) (.keep (k := 6) FV.map (.keep (k := 7) (by first | exact FV.row | exact FV.nrow) (.keep (k := 21) FV.int (.keep (k := 1) FV.list (.keep (k := 2) FV.ptr (.keep (k := 19) FV.list (.keep (k := 20) FV.int .nil)))))))) ?_
        refine a_regionF [1, 2] ?_
        refine wk ⟨?_⟩
        show frun _ _ _ _ _ _ (⟨some _, _, _, _, _, none⟩ :: _) _ _ _
        refine fr_s ?_ (ev_lookup (qs := [q0, p.at_]) 1 (hk := rfl) (hn := hqnd) (hi := rfl))
        refine wk ⟨?_⟩
        show frun _ _ _ _ _ _ (⟨none, _, _, _, _, none⟩ :: _) _ _ _
        refine fr_n ?_ (ev_mapset (qs := [q0, p.at_]) 1 (hk := rfl) (hn := hqnd) (hi := rfl))
        refine wk ⟨?_⟩
        refine a_next (⟨k + 1, [q0, p.at_], pg, pL, [r0, ⟨r1.cs ++ [p], r1.g + 1, r1.L⟩]⟩ : VsSt) (hok.found hp (j := 1) (r := r1) rfl rfl) (by simp only; omega) ?_
        exact wz
      have hnew : p.at_ ∉ ([q0, q1] : List Int) := by simp [hq0, hq1]
      dsimp only
      refine wk ⟨?_⟩
      refine ar_s ?_ (ev_lookup_no (qs := [q0, q1]) (hk := rfl) (hi := hnew))
      refine wk ⟨?_⟩
      refine a_freeze0 [7] (by exact .pack (k := 9) (pk_boxc (r := partR) (x := p) rfl rfl rfl) (.keep (k := 6) FV.map (.keep (k := 7) (by first | exact FV.row | exact FV.nrow) (.keep (k := 21) FV.int (.keep (k := 1) FV.list (.keep (k := 2) FV.ptr (.keep (k := 19) FV.list (.keep (k := 20) FV.int .nil)))))))) ?_
      refine a_regionF [1, 2] ?_
      refine wk ⟨?_⟩
      show frun _ _ _ _ _ _ (⟨some _, _, _, _, _, none⟩ :: _) _ _ _
      refine fr_s ?_ (ev_lookup_no (qs := [q0, q1]) (hk := rfl) (hi := hnew))
      refine wk ⟨?_⟩
      show frun _ _ _ _ _ _ (⟨none, _, _, _, _, none⟩ :: _) _ _ _
      refine fr_n ?_ (ev_mapnew (qs := [q0, q1]) (hk := rfl) (hi := hnew))
      refine wk ⟨?_⟩
      refine a_next (⟨k + 1, [q0, q1, p.at_], pg + 1, pL, [r0, r1, ⟨[p], 0, 0⟩]⟩ : VsSt) (hok.new hp hnew (by omega)) (by simp only; omega) ?_
      refine endP (CS := [(1, some (.map 3 (ents 3 [q0, q1, p.at_] [r0, r1, ⟨[p], 0, 0⟩]))), (2, nb 3 1 (pg + 1) pL ([q0, q1, p.at_].map intR.cells)), (3, rowB (some r0)), (4, rowB (some r1)), (6, some .hole)]) [(5, some (.cells 87 4 0 0 ([p].map partR.cells)))] 5 [10] ?_ ?_ ?_ ?_ (hky := by show List.Perm [1, 2, 3, 4, 6, 5] [1, 2, 3, 4, 5, 6]; decide) (hfree := fun id a b => by
        obtain rfl : id = 5 := by simp at b; omega
        all_goals exact ⟨rfl, rfl⟩)
      all_goals repeat' first | exact Rn.row rfl | exact ⟨_, _, _, _, _, _, rfl, rfl, RnX.of_eq rfl⟩ | exact trivial | refine And.intro ?_ ?_ | exact rn_int rfl | exact rn_list rfl | exact rn_row rfl ⟨rfl, rfl, rfl⟩ | exact rn_ptr rfl | exact rn_bool rfl | exact rn_agg rfl | exact rn_iptr rfl | exact rn_map rfl | exact rn_nrows rfl | exact rn_new rfl rfl rfl (by omega) | refine rn_int ?_ | refine rn_bool ?_ | refine rn_list ?_ | refine rn_row rfl ⟨?_, ?_, ?_⟩ | refine rn_nrow rfl ⟨rfl, ?_⟩ ?_ | refine rn_agg ?_ | exact Exists.intro _ ⟨rfl, RnB.cells (RnX.of_eq rfl), rfl⟩ | exact Exists.intro _ ⟨rfl, RnB.cells (RnX.of_eq (map_snoc rfl)), rfl⟩ | exact Exists.intro _ ⟨rfl, RnB.cells (RnX.of_eq (map_setc rfl)), rfl⟩ | exact Exists.intro _ ⟨rfl, RnB.cells (RnX.of_eq (map_inc rfl)), rfl⟩ | exact Exists.intro _ ⟨rfl, RnB.cells (RnX.of_eq (map_snocs rfl)), rfl⟩ | refine Exists.intro _ ⟨rfl, RnB.cells (RnX.cons (RnC.cons ?_ ?_ RnC.nil) RnX.nil), rfl⟩ | exact Exists.intro _ ⟨rfl, RnB.hole, rfl⟩ | refine Exists.intro _ ⟨rfl, rnm_of ?_, rfl⟩ | exact nrow_one | refine old_nbs ?_ rfl | refine old_nb ?_ ⟨?_, _, rfl, RnB.cells (RnX.of_eq (map_snoc rfl)), rfl⟩ | refine old_nb ?_ ⟨?_, _, rfl, RnB.cells (RnX.of_eq (map_snocs rfl)), rfl⟩ | refine old_nb ?_ ⟨?_, _, rfl, RnB.cells (RnX.of_eq (map_inc rfl)), rfl⟩ | refine old_nb ?_ ⟨?_, _, rfl, RnB.cells (RnX.of_eq rfl), rfl⟩ | rfl | (simp only []; omega) | (simp; done) | (simp; omega) | assumption
    · obtain ⟨q0, q1, q2, rfl⟩ : ∃ q0 q1 q2, qs = [q0, q1, q2] := len3 hqr
      by_cases hq0 : p.at_ = q0
      · subst q0
        obtain ⟨c1, c2, c3⟩ := hall 0 p.at_ r0 rfl rfl
        have cl := ofAt_len (t.parts.take k) p.at_
        rw [← c1, List.length_take] at cl
        clear c1 hall
        dsimp only
        refine wk ⟨?_⟩
        refine ar_s ?_ (ev_lookup (qs := [p.at_, q1, q2]) 0 (hk := rfl) (hn := hqnd) (hi := rfl))
        refine wk ⟨?_⟩
        refine a_freeze0 [7] (by exact .pack (k := 9) (pk_boxc (r := partR) (x := p) rfl rfl rfl) (.keep (k := 6) FV.map (.keep (k := 7) (by first | exact FV.row | exact FV.nrow) (.keep (k := 21) FV.int (.keep (k := 1) FV.list (.keep (k := 2) FV.ptr (.keep (k := 19) FV.list (.keep (k := 20) FV.int .nil)))))))) ?_
        refine a_regionF [1, 2] ?_
        refine wk ⟨?_⟩
        show frun _ _ _ _ _ _ (⟨some _, _, _, _, _, none⟩ :: _) _ _ _
        refine fr_s ?_ (ev_lookup (qs := [p.at_, q1, q2]) 0 (hk := rfl) (hn := hqnd) (hi := rfl))
        refine wk ⟨?_⟩
        show frun _ _ _ _ _ _ (⟨none, _, _, _, _, none⟩ :: _) _ _ _
        refine fr_n ?_ (ev_mapset (qs := [p.at_, q1, q2]) 0 (hk := rfl) (hn := hqnd) (hi := rfl))
        refine wk ⟨?_⟩
        refine a_next (⟨k + 1, [p.at_, q1, q2], pg, pL, [⟨r0.cs ++ [p], r0.g + 1, r0.L⟩, r1, r2]⟩ : VsSt) (hok.found hp (j := 0) (r := r0) rfl rfl) (by simp only; omega) ?_
        exact wz
      by_cases hq1 : p.at_ = q1
      · subst q1
        obtain ⟨c1, c2, c3⟩ := hall 1 p.at_ r1 rfl rfl
        have cl := ofAt_len (t.parts.take k) p.at_
        rw [← c1, List.length_take] at cl
        clear c1 hall
        dsimp only
        refine wk ⟨?_⟩
        refine ar_s ?_ (ev_lookup (qs := [q0, p.at_, q2]) 1 (hk := rfl) (hn := hqnd) (hi := rfl))
        refine wk ⟨?_⟩
        refine a_freeze0 [7] (by exact .pack (k := 9) (pk_boxc (r := partR) (x := p) rfl rfl rfl) (.keep (k := 6) FV.map (.keep (k := 7) (by first | exact FV.row | exact FV.nrow) (.keep (k := 21) FV.int (.keep (k := 1) FV.list (.keep (k := 2) FV.ptr (.keep (k := 19) FV.list (.keep (k := 20) FV.int .nil)))))))) ?_
        refine a_regionF [1, 2] ?_
        refine wk ⟨?_⟩
        show frun _ _ _ _ _ _ (⟨some _, _, _, _, _, none⟩ :: _) _ _ _
        refine fr_s ?_ (ev_lookup (qs := [q0, p.at_, q2]) 1 (hk := rfl) (hn := hqnd) (hi := rfl))
        refine wk ⟨?_⟩
        show frun _ _ _ _ _ _ (⟨none, _, _, _, _, none⟩ :: _) _ _ _
        refine fr_n ?_ (ev_mapset (qs := [q0, p.at_, q2]) 1 (hk := rfl) (hn := hqnd) (hi := rfl))
        refine wk ⟨?_⟩
        refine a_next (⟨k + 1, [q0, p.at_, q2], pg, pL, [r0, ⟨r1.cs ++ [p], r1.g + 1, r1.L⟩, r2]⟩ : VsSt) (hok.found hp (j := 1) (r := r1) rfl rfl) (by simp only; omega) ?_
        exact wz
      by_cases hq2 : p.at_ = q2
      · subst q2
        obtain ⟨c1, c2, c3⟩ := hall 2 p.at_ r2 rfl rfl
        have cl := ofAt_len (t.parts.take k) p.at_
        rw [← c1, List.length_take] at cl
        clear c1 hall
        dsimp only
        refine wk ⟨?_⟩
        refine ar_s ?_ (ev_lookup (qs := [q0, q1, p.at_]) 2 (hk := rfl) (hn := hqnd) (hi := rfl))
        refine wk ⟨?_⟩
        refine a_freeze0 [7] (by exact .pack (k := 9) (pk_boxc (r := partR) (x := p) rfl rfl rfl) (.keep (k := 6) FV.map (.keep (k := 7) (by first | exact FV.row | exact FV.nrow) (.keep (k := 21) FV.int (.keep (k := 1) FV.list (.keep (k := 2) FV.ptr (.keep (k := 19) FV.list (.keep (k := 20) FV.int .nil)))))))) ?_
        refine a_regionF [1, 2] ?_
        refine wk ⟨?_⟩
        show frun _ _ _ _ _ _ (⟨some _, _, _, _, _, none⟩ :: _) _ _ _
        refine fr_s ?_ (ev_lookup (qs := [q0, q1, p.at_]) 2 (hk := rfl) (hn := hqnd) (hi := rfl))
        refine wk ⟨?_⟩
        show frun _ _ _ _ _ _ (⟨none, _, _, _, _, none⟩ :: _) _ _ _
        refine fr_n ?_ (ev_mapset (qs := [q0, q1, p.at_]) 2 (hk := rfl) (hn := hqnd) (hi := rfl))
        refine wk ⟨?_⟩
        refine a_next (⟨k + 1, [q0, q1, p.at_], pg, pL, [r0, r1, ⟨r2.cs ++ [p], r2.g + 1, r2.L⟩]⟩ : VsSt) (hok.found hp (j := 2) (r := r2) rfl rfl) (by simp only; omega) ?_
        exact wz
      have hnew : p.at_ ∉ ([q0, q1, q2] : List Int) := by simp [hq0, hq1, hq2]
      dsimp only
      refine wk ⟨?_⟩
      refine ar_s ?_ (ev_lookup_no (qs := [q0, q1, q2]) (hk := rfl) (hi := hnew))
      refine wk ⟨?_⟩
      refine a_freeze0 [7] (by exact .pack (k := 9) (pk_boxc (r := partR) (x := p) rfl rfl rfl) (.keep (k := 6) FV.map (.keep (k := 7) (by first | exact FV.row | exact FV.nrow) (.keep (k := 21) FV.int (.keep (k := 1) FV.list (.keep (k := 2) FV.ptr (.keep (k := 19) FV.list (.keep (k := 20) FV.int .nil)))))))) ?_
      refine a_regionF [1, 2] ?_
      refine wk ⟨?_⟩
      show frun _ _ _ _ _ _ (⟨some _, _, _, _, _, none⟩ :: _) _ _ _
      refine fr_s ?_ (ev_lookup_no (qs := [q0, q1, q2]) (hk := rfl) (hi := hnew))
      refine wk ⟨?_⟩
      show frun _ _ _ _ _ _ (⟨none, _, _, _, _, none⟩ :: _) _ _ _
      refine fr_n ?_ (ev_mapnew (qs := [q0, q1, q2]) (hk := rfl) (hi := hnew))
      refine wk ⟨?_⟩
      refine a_next (⟨k + 1, [q0, q1, q2, p.at_], pg + 1, pL, [r0, r1, r2, ⟨[p], 0, 0⟩]⟩ : VsSt) (hok.new hp hnew (by omega)) (by simp only; omega) ?_
      refine endP (CS := [(1, some (.map 3 (ents 3 [q0, q1, q2, p.at_] [r0, r1, r2, ⟨[p], 0, 0⟩]))), (2, nb 3 1 (pg + 1) pL ([q0, q1, q2, p.at_].map intR.cells)), (3, rowB (some r0)), (4, rowB (some r1)), (5, rowB (some r2))]) [(6, some (.cells 87 4 0 0 ([p].map partR.cells)))] 6 [10] ?_ ?_ ?_ ?_ (hky := by show List.Perm [1, 2, 3, 4, 5, 6] [1, 2, 3, 4, 5, 6]; decide) (hfree := fun id a b => by
        obtain rfl : id = 6 := by simp at b; omega
        all_goals exact ⟨rfl, rfl⟩)
      all_goals repeat' first | exact Rn.row rfl | exact ⟨_, _, _, _, _, _, rfl, rfl, RnX.of_eq rfl⟩ | exact trivial | refine And.intro ?_ ?_ | exact rn_int rfl | exact rn_list rfl | exact rn_row rfl ⟨rfl, rfl, rfl⟩ | exact rn_ptr rfl | exact rn_bool rfl | exact rn_agg rfl | exact rn_iptr rfl | exact rn_map rfl | exact rn_nrows rfl | exact rn_new rfl rfl rfl (by omega) | refine rn_int ?_ | refine rn_bool ?_ | refine rn_list ?_ | refine rn_row rfl ⟨?_, ?_, ?_⟩ | refine rn_nrow rfl ⟨rfl, ?_⟩ ?_ | refine rn_agg ?_ | exact Exists.intro _ ⟨rfl, RnB.cells (RnX.of_eq rfl), rfl⟩ | exact Exists.intro _ ⟨rfl, RnB.cells (RnX.of_eq (map_snoc rfl)), rfl⟩ | exact Exists.intro _ ⟨rfl, RnB.cells (RnX.of_eq (map_setc rfl)), rfl⟩ | exact Exists.intro _ ⟨rfl, RnB.cells (RnX.of_eq (map_inc rfl)), rfl⟩ | exact Exists.intro _ ⟨rfl, RnB.cells (RnX.of_eq (map_snocs rfl)), rfl⟩ | refine Exists.intro _ ⟨rfl, RnB.cells (RnX.cons (RnC.cons ?_ ?_ RnC.nil) RnX.nil), rfl⟩ | exact Exists.intro _ ⟨rfl, RnB.hole, rfl⟩ | refine Exists.intro _ ⟨rfl, rnm_of ?_, rfl⟩ | exact nrow_one | refine old_nbs ?_ rfl | refine old_nb ?_ ⟨?_, _, rfl, RnB.cells (RnX.of_eq (map_snoc rfl)), rfl⟩ | refine old_nb ?_ ⟨?_, _, rfl, RnB.cells (RnX.of_eq (map_snocs rfl)), rfl⟩ | refine old_nb ?_ ⟨?_, _, rfl, RnB.cells (RnX.of_eq (map_inc rfl)), rfl⟩ | refine old_nb ?_ ⟨?_, _, rfl, RnB.cells (RnX.of_eq rfl), rfl⟩ | rfl | (simp only []; omega) | (simp; done) | (simp; omega) | assumption
    · simp only [List.length_cons] at hm3; omega
end Go.Proofs.YtofcjmjokokajaaGreat
namespace Go.Proofs.YtofcjmjokokajaaGreat
open Go.RowKit Go.Um Go.Proofs Go.Vm
attribute [local irreducible] Ev arun frun awp RetQ NextQ
set_option maxHeartbeats 4000000
def optR : Rp (Option (List Span)) := ⟨1, fun x => match x with | some l => [spanR.L l] | none => [.nil], fun x => by
  cases x with
  | none => exact ⟨rfl, fun v hv => by simp at hv; subst hv; exact ⟨.nil, rfl⟩⟩
  | some l => exact ⟨rfl, fun v hv => by simp at hv; subst hv; exact ⟨Rp.lt _ _ _ _, rfl⟩⟩⟩
instance {l : List Span} : MkR optR.cells [spanR.L l] (some l) := ⟨rfl⟩
structure InSt where
  k : Nat
  xs : List (Option (List Span))
theorem inner_v (t : Term) (gs : List (List Span)) (hn : numbersF t = true) (hg : goodG gs) (hr : ∀ p ∈ t.parts, rightP p gs.length = true) (hgl : ∀ g ∈ gs, g.length ≤ 268435456) : VPure Tryz.prog 233 [.agg (termR.cells t), spansR.L gs] (.tuple [spanR.L (valuesF t gs), .bool (okV (valuesF t gs))]) := by
  have hnv := numbers_v t
  rw [hn] at hnv
  have hvv := values_v t gs hn hr (fun g h => ⟨(hg.2 g h).2.1, hgl g h⟩)
  obtain ⟨hg4, hgg⟩ := hg
  generalize valuesF t gs = vs at hvv ⊢
  refine a_pure (n0 := 0) (hN := Tryz.ntmps233) (hf := Tryz.func233) ?_
  refine wk ⟨?_⟩
  refine ar_pure hnv ?_
  refine wk ⟨?_⟩
  have e : List.replicate ((gs.length : Nat) : Int).toNat (vcells V.nil) = (List.replicate gs.length none).map optR.cells := by simp [optR, vcells]
  rw [e, Int.toNat_natCast]
  refine a_loop (σ := InSt) 0 [1, 2, 7, 23, 24] (fun x => [(6, V.bool true), (25, V.int .i64 (x.k : Int))]) (fun x => [(1, some (.cells 91 1 0 0 (x.xs.map optR.cells)))]) (fun x => x.k ≤ gs.length ∧ x.xs = (gs.take x.k).map some ++ List.replicate (gs.length - x.k) none) (fun x => gs.length - x.k) ⟨0, List.replicate gs.length none⟩ ⟨Nat.zero_le _, by simp⟩ ?_
  rintro ⟨k, xs⟩ ⟨hk, ho⟩
  simp only at hk ho
  obtain hx | ⟨g, hgk, hlt⟩ := range_cases hk
  · subst k
    rw [List.take_length, Nat.sub_self, List.replicate_zero, List.append_nil] at ho
    subst xs
    dsimp only
    refine wk ⟨?_⟩
    refine a_len 47 (f := partR.cells) (xs := t.parts) rfl rfl fun hpl => ?_
    refine a_loop (σ := Nat) 0 [1, 2, 6, 7, 47, 48] (fun k => [(49, V.int .i64 (k : Int))]) (fun _ => []) (fun k => k ≤ t.parts.length) (fun k => t.parts.length - k) 0 (Nat.zero_le _) ?_
    intro k hk
    obtain hx | ⟨p, hp, hlt⟩ := range_cases hk
    · subst k
      refine wk ⟨?_⟩
      refine ar_take [1] hvv ?_ (hx := .cons (pk_cells rfl) (.cons (pk_row rfl rfl rfl (by rw [List.map_map]; rfl) rfl) .nil))
      refine wk ⟨?_⟩
      exact ret_two (.inr rfl) rfl rfl rfl (pk_list rfl) (pk_bool rfl)
    · have hpv := pright_v p gs.length
      rw [hr p (List.mem_of_getElem? hp)] at hpv
      refine wk ⟨?_⟩
      refine ar_pure hpv ?_
      refine wk ⟨?_⟩
      refine a_next (k + 1) hlt (by omega) ?_
      exact wz
  · have hgm := List.mem_of_getElem? hgk
    obtain ⟨g1, g2, g3⟩ := hgg g hgm
    have hM := meet_v g symL (by have := hgl g hgm; omega) (by simp [symL])
    rw [meetF_sym g1 g2] at hM
    have hxl : xs.length = gs.length := by rw [ho]; simp; omega
    have hxk : xs[k]? = some none := by
      have h0 : k - ((gs.take k).map (some : List Span → Option (List Span))).length = 0 := by rw [List.length_map, List.length_take]; omega
      rw [ho, List.getElem?_append_right (by rw [List.length_map, List.length_take]; omega), h0, List.getElem?_replicate, if_pos (by omega)]
    have hset : xs.set k (some g) = (gs.take (k + 1)).map some ++ List.replicate (gs.length - (k + 1)) none := by
      rw [ho, take_at hgk, List.map_append, List.set_append_right _ _ (by simp; omega)]
      simp only [List.length_map, List.length_take, Nat.min_eq_left (Nat.le_of_lt hlt), Nat.sub_self]
      rw [show gs.length - k = (gs.length - (k + 1)) + 1 by omega, List.replicate_succ]
      simp
    have hgp : 0 < g.length := List.length_pos_iff.2 g3
    have hx2 : (xs.set k (some g))[k]? = some (some g) := by rw [List.getElem?_set_self (by omega)]
    clear ho
    dsimp only
    refine wk ⟨?_⟩
    refine ar_pure symbols_v ?_
    refine wk ⟨?_⟩
    refine ar_pure hM ?_
    refine wk ⟨?_⟩
    refine a_next (⟨k + 1, xs.set k (some g)⟩ : InSt) ⟨hlt, hset⟩ (by simp only; omega) ?_
    exact wz
theorem imgF_len {p : Part} {s : List Span} (hpb : bitsF p = true) : (imgF p s).length ≤ 3000000 := by
  have hin := imgN_in hpb s
  have htk := take_bd hpb
  have hNp : plain (imgN p s) = true := by unfold imgN; exact normF_plain _
  have hNr : Rise 0 (imgN p s) := plain_rise hNp fun q hq => (hin q hq).1
  unfold imgF
  split
  · have := hNr.len (M := 2097151) (fun q hq => by have := (hin q hq).2.2; omega) (by omega)
    omega
  · rename_i hu
    have ht6 := pw_6 ((bitsF_iff.1 hpb).2.2.2.2.2.2.resolve_left hu)
    have h1 := eachL_len hNr (M := pw p.take - 1) (fun q hq => (hin q hq).2.2) (by omega)
    have h2 := normF_length (upL (pw p.up) (eachL (imgN p s)))
    have h3 : (upL (pw p.up) (eachL (imgN p s))).length = (eachL (imgN p s)).length := by simp [upL]
    omega
theorem timage_v (t : Term) (gs : List (List Span)) (hn : numbersF t = true) (hg : goodG gs) (hr : ∀ p ∈ t.parts, rightP p gs.length = true) (hgl : ∀ g ∈ gs, g.length ≤ 268435456) : VPure Tryz.prog 188 [.agg (termR.cells t), spansR.L gs] (.tuple (if okV (valuesF t gs) = true then [spanR.L (imageT t gs), .bool true] else [spanR.L [], .bool false])) := by
  have hi := inner_v t gs hn hg hr hgl
  have ho := outer_v t
  refine a_pure (n0 := 0) (hN := Tryz.ntmps188) (hf := Tryz.func188) ?_
  refine wk ⟨?_⟩
  refine ar_pure hi ?_
  cases hok : okV (valuesF t gs) with
  | false =>
    refine wk ⟨?_⟩
    exact ret_two (.inr rfl) rfl rfl rfl .nil (pk_bool rfl)
  | true =>
    obtain ⟨_, hsum, hbo, _⟩ := numbersF_iff.1 hn
    have hvp := valuesF_plain' hsum gs
    obtain ⟨hne, hin⟩ := (okV_iff hvp).1 hok
    have hvs : ∀ q ∈ valuesF t gs, 0 ≤ q.lo ∧ q.lo ≤ q.hi ∧ q.hi ≤ 1114111 := fun q hq => by
      have h1 := (plainFrom_ok hvp q hq).1
      exact ⟨(hin q.lo ⟨q, hq, Int.le_refl _, h1⟩).1, h1, (hin q.hi ⟨q, hq, h1, Int.le_refl _⟩).2⟩
    have hvl := (plain_rise hvp fun q hq => (hvs q hq).1).len (M := 1114111) (fun q hq => (hvs q hq).2.2) (by omega)
    have hI := image_v (outerT t) (valuesF t gs) (by omega)
    rw [if_pos hbo] at hI
    have hil := imgF_len (s := valuesF t gs) hbo
    have hM := move_v (imgF (outerT t) (valuesF t gs)) t.base (by omega)
    have hpos : 0 < (valuesF t gs).length := List.length_pos_iff.2 hne
    have hT : moveF (imgF (outerT t) (valuesF t gs)) t.base = imageT t gs := rfl
    rw [hT] at hM
    clear hin hvs hvl hil hvp hT hne hok hn hg hr hgl
    generalize imgF (outerT t) (valuesF t gs) = im at hI hM
    generalize imageT t gs = it at hM ⊢
    generalize valuesF t gs = vs at hI hpos hi
    refine wk ⟨?_⟩
    refine ar_pure ho ?_
    refine wk ⟨?_⟩
    refine ar_pure hI ?_
    refine wk ⟨?_⟩
    refine ar_pure hM ?_
    refine wk ⟨?_⟩
    exact ret_two (.inr rfl) rfl rfl rfl (pk_list rfl) (pk_bool rfl)
theorem fits_v (t : Term) (inn out : Int) (gs : List (List Span)) (hg : goodG gs) (hgl : ∀ g ∈ gs, g.length ≤ 268435456) : VPure Tryz.prog 153 [.agg (termR.cells t), .int .i64 inn, .int .i64 out, spansR.L gs] (.bool (rightF t inn out gs.length && fitsG t (domF out) gs)) := by
  have hrv := tright_v t inn out gs.length
  have hd := domain_v out
  refine a_pure (n0 := 0) (hN := Tryz.ntmps153) (hf := Tryz.func153) ?_
  refine wk ⟨?_⟩
  refine ar_pure hrv ?_
  cases hright : rightF t inn out gs.length with
  | false =>
    refine wk ⟨?_⟩
    exact ret_tmp (.inr rfl) rfl rfl (pk_bool rfl)
  | true =>
    obtain ⟨_, _, hn, hp, _, _⟩ := rightF_iff.1 hright
    have hbo := (numbersF_iff.1 hn).2.2.1
    have hil := imgF_len (s := valuesF t gs) hbo
    have hml : (imageT t gs).length ≤ 3000000 := by
      unfold imageT moveF
      split
      · simp
      · have h1 := normF_length ((normF (imgF (outerT t) (valuesF t gs))).map (addN t.base))
        have h2 := normF_length (imgF (outerT t) (valuesF t gs))
        rw [List.length_map] at h1
        omega
    have hdl : (domF out).length ≤ 2 := by unfold domF; split <;> (try split) <;> simp
    have hwv := within_v (imageT t gs) (domF out) (by omega) (by omega)
    have hi := timage_v t gs hn hg (fun p h => (hp p h).1) hgl
    have hf : fitsG t (domF out) gs = (okV (valuesF t gs) && (minusF (imageT t gs) (domF out)).isEmpty) := rfl
    rw [hf, Bool.true_and]
    clear hf hil hml hdl hp hn hright hg hgl
    generalize (minusF (imageT t gs) (domF out)).isEmpty = b at hwv ⊢
    generalize imageT t gs = it at hwv hi
    generalize okV (valuesF t gs) = ok at hi ⊢
    refine wk ⟨?_⟩
    refine ar_pure hi ?_
    cases ok with
    | false =>
      refine wk ⟨?_⟩
      exact ret_tmp (.inr rfl) rfl rfl (pk_bool rfl)
    | true =>
      refine wk ⟨?_⟩
      refine ar_pure hd ?_
      refine wk ⟨?_⟩
      refine ar_pure hwv ?_
      refine wk ⟨?_⟩
      exact ret_tmp (.inr rfl) rfl rfl (pk_bool rfl)
end Go.Proofs.YtofcjmjokokajaaGreat
namespace Go.Um
def tvalF (t : Term) (w : List Int) : Int := t.base + valF (outerT t) (t.sum + sumV t.parts fun a => w.getD a.toNat 0)
theorem sumV_snoc (l : List Part) (p : Part) (f : Int → Int) : sumV (l ++ [p]) f = sumV l f + valF p (f p.at_) := by simp [sumV]
theorem sumV_bd {l : List Part} (h : ∀ p ∈ l, bitsF p = true) (f : Int → Int) : 0 ≤ sumV l f ∧ sumV l f ≤ 67108864 * l.length := by
  induction l with
  | nil => simp [sumV]
  | cons p l ih =>
    have h1 := ih fun q hq => h q (List.mem_cons_of_mem _ hq)
    have h2 := valF_nonneg p (f p.at_)
    have h3 := valF_le (h p List.mem_cons_self) (f p.at_)
    have e : sumV (p :: l) f = valF p (f p.at_) + sumV l f := rfl
    rw [e, List.length_cons]
    push_cast
    omega
end Go.Um
namespace Go.Proofs.YtofcjmjokokajaaGreat
open Go.RowKit Go.Um Go.Proofs Go.Vm
attribute [local irreducible] Ev arun frun awp RetQ NextQ
set_option maxHeartbeats 4000000
theorem tvalue_v (t : Term) (win : List Int) (hw : ∀ x ∈ win, 0 ≤ x ∧ x ≤ 1114111) (hp : ∀ p ∈ t.parts, rightP p win.length = true) (hn : numbersF t = true)
    (hi : 0 ≤ t.sum + sumV t.parts (fun q => win.getD q.toNat 0) ∧ t.sum + sumV t.parts (fun q => win.getD q.toNat 0) ≤ 1114111) : VPure Tryz.prog 104 [.agg (termR.cells t), runeR.L win] (.tuple [.int .i64 (tvalF t win), .bool true]) := by
  obtain ⟨n1, n2, n3, n4, n5⟩ := numbersF_iff.1 hn
  have n1 := smallN_iff.1 n1
  have n2 := smallN_iff.1 n2
  have hb : ∀ p ∈ t.parts, bitsF p = true := fun p h => (rightP_iff.1 (hp p h)).2.2
  refine a_pure (n0 := 0) (hN := Tryz.ntmps104) (hf := Tryz.func104) ?_
  refine wk ⟨?_⟩
  refine a_len 15 (f := runeR.cells) (xs := win) rfl rfl fun hwl => ?_
  refine a_loop (σ := Nat) 0 [1, 2, 15, 16] (fun k => [(17, V.int .i64 (k : Int))]) (fun _ => []) (fun k => k ≤ win.length) (fun k => win.length - k) 0 (Nat.zero_le _) ?_
  intro k hk
  obtain hx | ⟨x, hx, hlt⟩ := range_cases hk
  · subst k
    refine wk ⟨?_⟩
    refine a_len 31 (f := partR.cells) (xs := t.parts) rfl rfl fun hpl => ?_
    refine a_loop (σ := TgSt) 0 [1, 2, 31, 32] (fun x => [(8, V.int .i64 x.n), (33, V.int .i64 (x.k : Int))]) (fun _ => []) (fun x => x.k ≤ t.parts.length ∧ x.n = t.sum + sumV (t.parts.take x.k) (fun q => win.getD q.toNat 0)) (fun x => t.parts.length - x.k) ⟨0, t.sum⟩ ⟨Nat.zero_le _, by simp [sumV]⟩ ?_
    rintro ⟨k, n⟩ ⟨hk, hs⟩
    simp only at hk hs
    obtain hx | ⟨p, hpk, hlt⟩ := range_cases hk
    · subst k
      rw [List.take_length] at hs
      rw [← hs] at hi
      have ho := outer_v t
      have hv := pvalue_v (outerT t) n n3 (by omega)
      have hvb := valF_le n3 n
      have hvn := valF_nonneg (outerT t) n
      have ht : tvalF t win = t.base + valF (outerT t) n := by rw [hs]; rfl
      rw [ht]
      clear hs ht
      generalize valF (outerT t) n = z at hv hvb hvn ⊢
      dsimp only
      refine wk ⟨?_⟩
      refine ar_pure ho ?_
      refine wk ⟨?_⟩
      refine ar_pure hv ?_
      refine wk ⟨?_⟩
      exact ret_two (.inr rfl) rfl rfl rfl (pk_int rfl) (pk_bool rfl)
    · have hpm := List.mem_of_getElem? hpk
      have hpr := pright_v p win.length
      rw [hp p hpm] at hpr
      obtain ⟨r1, r2, r3⟩ := rightP_iff.1 (hp p hpm)
      have hwat : win[p.at_.toNat]? = some (win.getD p.at_.toNat 0) := by
        rw [List.getElem?_eq_getElem (by omega), List.getD_eq_getElem?_getD, List.getElem?_eq_getElem (by omega)]
        rfl
      obtain ⟨y1, y2⟩ := hw _ (List.mem_of_getElem? hwat)
      have hs2 : t.sum + sumV (t.parts.take (k + 1)) (fun q => win.getD q.toNat 0) = n + valF p (win.getD p.at_.toNat 0) := by rw [take_at hpk, sumV_snoc, hs]; omega
      have hb1 := sumV_bd (l := t.parts.take k) (fun q hq => hb q (List.mem_of_mem_take hq)) (fun q => win.getD q.toNat 0)
      rw [List.length_take] at hb1
      generalize win.getD p.at_.toNat 0 = y at hwat y1 y2 hs2
      have hv := pvalue_v p y r3 (by omega)
      have hvb := valF_le r3 y
      have hvn := valF_nonneg p y
      have hyw : IntKind.i64.wrap y = y := wrap_in (by omega) (by omega)
      clear hi
      dsimp only
      refine wk ⟨?_⟩
      refine ar_pure hpr ?_
      refine wk ⟨?_⟩
      rw [hyw]
      refine ar_pure hv ?_
      refine wk ⟨?_⟩
      refine a_next (⟨k + 1, n + valF p y⟩ : TgSt) ⟨hlt, hs2.symm⟩ (by simp only; omega) ?_
      exact wz
  · obtain ⟨x1, x2⟩ := hw x (List.mem_of_getElem? hx)
    refine wk ⟨?_⟩
    refine a_next (k + 1) hlt (by omega) ?_
    exact wz
end Go.Proofs.YtofcjmjokokajaaGreat
namespace Go.Um
def cmpW : List Int → List Int → Int
  | [], [] => 0
  | [], _ :: _ => -1
  | _ :: _, [] => 1
  | x :: a, y :: b => if x < y then -1 else if y < x then 1 else cmpW a b
def frontF : List Int → List Int → Nat
  | x :: a, y :: b => if x = y then frontF a b + 1 else 0
  | _, _ => 0
theorem front_le : ∀ a b : List Int, frontF a b ≤ a.length ∧ frontF a b ≤ b.length
  | [], _ => ⟨Nat.zero_le _, Nat.zero_le _⟩
  | _ :: _, [] => ⟨Nat.zero_le _, Nat.zero_le _⟩
  | x :: a, y :: b => by
    unfold frontF
    have := front_le a b
    split <;> simp <;> omega
theorem front_drop {a b : List Int} {k : Nat} {x y : Int} (hx : a[k]? = some x) (hy : b[k]? = some y) : frontF (a.drop k) (b.drop k) = if x = y then frontF (a.drop (k + 1)) (b.drop (k + 1)) + 1 else 0 := by
  rw [drop_at hx, drop_at hy]
  rfl
theorem front_end {a b : List Int} {k : Nat} (h : a.length ≤ k ∨ b.length ≤ k) : frontF (a.drop k) (b.drop k) = 0 := by
  rcases h with h | h
  · rw [List.drop_eq_nil_iff.2 h]; rfl
  · rw [List.drop_eq_nil_iff.2 h]; cases a.drop k <;> rfl
theorem cmpW_front : ∀ a b : List Int, (frontF a b = a.length → frontF a b = b.length → cmpW a b = 0) ∧ (frontF a b = a.length → frontF a b ≠ b.length → cmpW a b = -1) ∧ (frontF a b ≠ a.length → frontF a b = b.length → cmpW a b = 1) ∧
    ∀ x y, a[frontF a b]? = some x → b[frontF a b]? = some y → cmpW a b = if x < y then -1 else if y < x then 1 else 0
  | [], [] => ⟨fun _ _ => rfl, fun _ h => absurd rfl h, fun h => absurd rfl h, fun x y h => by simp at h⟩
  | [], _ :: _ => ⟨fun _ h => by simp [frontF] at h, fun _ _ => rfl, fun h => absurd rfl h, fun x y h => by simp at h⟩
  | _ :: _, [] => ⟨fun h => by simp [frontF] at h, fun h => by simp [frontF] at h, fun _ _ => rfl, fun x y _ h => by simp at h⟩
  | x :: a, y :: b => by
    obtain ⟨h1, h2, h3, h4⟩ := cmpW_front a b
    unfold frontF cmpW
    by_cases he : x = y
    · subst he
      rw [if_pos rfl, if_neg (by omega), if_neg (by omega)]
      simp only [List.length_cons, Nat.add_right_cancel_iff, List.getElem?_cons_succ, ne_eq]
      exact ⟨h1, h2, h3, h4⟩
    · rw [if_neg he]
      simp only [List.length_cons, List.getElem?_cons_zero, Option.some.injEq]
      refine ⟨fun h => by omega, fun h => by omega, fun _ h => by omega, ?_⟩
      rintro p q rfl rfl
      by_cases hlt : x < y
      · rw [if_pos hlt, if_pos hlt]
      · rw [if_neg hlt, if_neg hlt, if_pos (by omega), if_pos (by omega)]
end Go.Um
namespace Go.Proofs.YtofcjmjokokajaaGreat
open Go.RowKit Go.Um Go.Proofs Go.Vm
attribute [local irreducible] Ev arun frun awp RetQ NextQ
set_option maxHeartbeats 2000000
theorem win_v (s x : Int) : VPure Tryz.prog 145 [.int .i64 s, .int .i32 x] (.bool (hasB (domF s) x)) := by
  refine a_pure (n0 := 0) (hN := Tryz.ntmps145) (hf := Tryz.func145) ?_
  repeat' first | (show arun _ _ _ _ _ (⟨some _, _, _, _, _, none⟩ :: _) _ _ _; first | refine ar_s ?_ | refine ar_app_n (fun h => ?_) (fun h => ?_) | refine ar_app_nz (fun h => ?_) (fun h => ?_)) | (show arun _ _ _ _ _ (⟨_, _, _, _, _, some _⟩ :: _) _ _ _; first | refine ar_on ?_ | refine ar_off ?_ | refine ar_off2 ?_ | refine ar_split_t ?_ | refine ar_split_f ?_ | refine ar_split (fun h => ?_) (fun h => ?_)) | (show arun _ _ _ _ _ (⟨none, _, _, _, _, none⟩ :: _) _ _ _; refine ar_n ?_) | (show frun _ _ _ _ _ _ (⟨some _, _, _, _, _, none⟩ :: _) _ _ _; refine fr_s ?_) | (show frun _ _ _ _ _ _ (⟨none, _, _, _, _, none⟩ :: _) _ _ _; refine fr_n ?_) | (show grun _ _ _ _ _ _ _ (⟨some _, _, _, _, _, none⟩ :: _) _ _ _; refine gr_s ?_) | (show grun _ _ _ _ _ _ _ (⟨none, _, _, _, _, none⟩ :: _) _ _ _; refine gr_n ?_) | refine gr_nil ?_ | refine fr_nil ?_ | refine ar_nil ?_ | refine a_seq ?_ | refine a_block ?_ | refine a_region ?_ | refine a_drawn ?_ | refine a_skip ?_ | refine a_exit ?_ | refine a_ret ?_ | (show awp _ _ (.cond _ _ _) _ _ _ _; first | refine a_yes rfl ?_ | refine a_no rfl ?_ | refine a_dec_t ?_ | refine a_dec_f ?_ | refine a_dec rfl (fun h => ?_) (fun h => ?_))
  all_goals exact ret_tmp (.inr rfl) rfl rfl (pk_bool (by rw [Bool.eq_iff_iff]; simp [domF, hasB, *] <;> omega))
theorem wfits_v (s : Int) (l : List Int) : VPure Tryz.prog 101 [.int .i64 s, runeR.L l] (.bool (l.all (hasB (domF s)))) := by
  refine a_pure (n0 := 0) (hN := Tryz.ntmps101) (hf := Tryz.func101) ?_
  refine wk ⟨?_⟩
  refine a_len 7 (f := runeR.cells) (xs := l) rfl rfl fun hl => ?_
  refine a_loop (σ := Nat) 0 [0, 7, 8] (fun k => [(9, V.int .i64 (k : Int))]) (fun _ => []) (fun k => k ≤ l.length ∧ (l.drop k).all (hasB (domF s)) = l.all (hasB (domF s))) (fun k => l.length - k) 0 ⟨Nat.zero_le _, rfl⟩ ?_
  rintro k ⟨hk, ho⟩
  obtain hx | ⟨x, hx, hlt⟩ := range_cases hk
  · subst k
    rw [List.drop_length] at ho
    refine wk ⟨?_⟩
    exact ret_tmp (.inr rfl) rfl rfl (pk_bool ho)
  · rw [drop_at hx, List.all_cons] at ho
    have hv := win_v s x
    generalize hasB (domF s) x = b at hv ho
    refine wk ⟨?_⟩
    refine ar_pure hv ?_
    cases b with
    | false =>
      refine wk ⟨?_⟩
      exact ret_tmp (.inr rfl) rfl rfl (pk_bool ho)
    | true =>
      refine wk ⟨?_⟩
      refine a_next (k + 1) ⟨hlt, ho⟩ (by omega) ?_
      exact wz
end Go.Proofs.YtofcjmjokokajaaGreat
