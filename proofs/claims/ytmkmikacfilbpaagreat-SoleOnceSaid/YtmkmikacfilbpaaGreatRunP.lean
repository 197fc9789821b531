/-
  What a transducer relates an input to, plain Lean: a sole description relates an input to one output at most. No program is named here.
-/
import Derived.Test.YtmkmikacfilbpaaGreatKWhere
namespace Go.Proofs.YtmkmikacfilbpaaGreat
open Go.Proofs Go.Um Go.RowKit
/-- the window at a place. -/
def winF (x : List Int) (a n : Nat) : List Int := (x.drop a).take n
/-- a term's value of a window. -/
def tvalF (t : Term) (w : List Int) : Int := t.base + valF (outerT t) (t.sum + sumV t.parts fun a => w.getD a.toNat 0)
def writesV (out : List Term) (w : List Int) : List Int := out.map fun t => tvalF t w
/-- the input goes on in the window of guards. -/
def fitsX (x : List Int) (gs : List (List Span)) (a : Nat) : Prop := gs.length ≤ x.length - a ∧ ∀ (i : Nat) (g : List Span) (z : Int), gs[i]? = some g → x[a + i]? = some z → inSet g z
inductive Run (d : Desc) (x : List Int) : Nat → Int → List Int → Prop
  | fin {a : Nat} {s : Int} {w : List Int} (f : Final) (hf : f ∈ d.finals) (hs : f.src = s) (hl : f.guards.length = x.length - a) (hx : fitsX x f.guards a) (hw : w = writesV f.out (winF x a f.guards.length)) : Run d x a s w
  | step {a : Nat} {s : Int} {w u : List Int} (r : Rule) (hr : r ∈ d.rules) (hs : r.src = s) (hx : fitsX x r.guards a) (h : Run d x (a + r.eat.toNat) r.dst u) (hw : w = writesV r.out (winF x a r.guards.length) ++ u) : Run d x a s w
theorem win_at {x : List Int} {a n i : Nat} (h : i < n) : (winF x a n)[i]? = x[a + i]? := by
  unfold winF
  rw [List.getElem?_take, if_pos h, List.getElem?_drop]
theorem meetG_of : ∀ {gs hs : List (List Span)}, (∀ (i : Nat) (g h : List Span), gs[i]? = some g → hs[i]? = some h → meetF g h ≠ []) → meetG gs hs = true
  | [], _, _ => meetG_end _ _ (.inl rfl)
  | _ :: _, [], _ => meetG_end _ _ (.inr rfl)
  | g :: gs, h :: hs, H => by
    unfold meetG
    rw [meetG_of (gs := gs) (hs := hs) fun i g' h' h1 h2 => H (i + 1) g' h' (by simpa using h1) (by simpa using h2), Bool.and_true]
    have := H 0 g h (by simp) (by simp)
    simpa [List.isEmpty_iff] using this
theorem fits_meet {x : List Int} {gs hs : List (List Span)} {a : Nat} (h1 : fitsX x gs a) (h2 : fitsX x hs a) : meetG gs hs = true := meetG_of fun i g h hg hh he => by
  have hi : a + i < x.length := by
    have := (List.getElem?_eq_some_iff.1 hg).1
    have := h1.1
    omega
  obtain ⟨z, hz⟩ : ∃ z, x[a + i]? = some z := ⟨_, List.getElem?_eq_getElem hi⟩
  exact meetF_nil.1 he z ⟨h1.2 i g z hg hz, h2.2 i h z hh hz⟩
/-- an option that may be taken. -/
def mayF (x : List Int) (a : Nat) (s : Int) (o : Opt) : Prop := o.src = s ∧ fitsX x o.guards a ∧ (o.fin = true → o.guards.length = x.length - a)
theorem may_clash {x : List Int} {a : Nat} {s : Int} {o p : Opt} (h1 : mayF x a s o) (h2 : mayF x a s p) (hop : o.fin = true → p.fin = true) : clashF o p = true := by
  unfold clashF
  rw [if_neg (by rw [h1.1, h2.1]; simp), if_neg (fun h => h.2 (by rw [h1.2.2 h.1, h2.2.2 (hop h.1)])), if_neg (fun h => by
    have e2 := h2.2.2 h.2.1
    have e1 := h1.2.1.1
    have := h.2.2
    omega)]
  exact fits_meet h1.2.1 h2.2.1
theorem inner_none {os : List Opt} {i : Nat} {o : Opt} : ∀ {ks : List Int}, innerS os i o ks = none → ∀ k ∈ ks, pairF os i o k = false
  | [], _, k, hk => by cases hk
  | q :: ks, h, k, hk => by
    unfold innerS at h
    split at h
    · cases h
    · rename_i hq
      rcases List.mem_cons.1 hk with rfl | hk
      · simpa using hq
      · exact inner_none h k hk
theorem outer_none {os : List Opt} : ∀ {l : List Opt} {i : Nat}, os.drop i = l → outerS os i l = none → ∀ (p : Nat) (o : Opt), i ≤ p → os[p]? = some o → innerS os p o (idxO os os.length o.src) = none
  | [], i, hl, _, p, o, hp, ho => by
    have h1 : os.length ≤ i := List.drop_eq_nil_iff.1 hl
    have h2 := (List.getElem?_eq_some_iff.1 ho).1
    omega
  | q :: l, i, hl, h, p, o, hp, ho => by
    unfold outerS at h
    split at h
    · cases h
    · rename_i hq
      have hi : os[i]? = some q := by
        have := congrArg (fun y => y[0]?) hl
        simpa [List.getElem?_drop] using this
      rcases Nat.eq_or_lt_of_le hp with rfl | hlt
      · rw [hi] at ho
        injection ho with ho
        subst ho
        exact hq
      · have hl' : os.drop (i + 1) = l := by
          have := congrArg (fun y => y.drop 1) hl
          simpa [List.drop_drop] using this
        exact outer_none hl' h p o hlt ho
theorem sole_pair {os : List Opt} (h : outerS os 0 os = none) {p q : Nat} {o r : Opt} (hp : os[p]? = some o) (hq : os[q]? = some r) (hlt : p < q) (hs : r.src = o.src) : clashF o r = false := by
  have h1 := outer_none (os := os) (l := os) (i := 0) rfl h p o (Nat.zero_le _) hp
  have hmem : (q : Int) ∈ idxO os os.length o.src := by
    unfold idxO
    rw [List.mem_map]
    refine ⟨q, List.mem_filter.2 ⟨List.mem_range.2 (List.getElem?_eq_some_iff.1 hq).1, ?_⟩, rfl⟩
    rw [hq]
    simp [hs]
  have h2 := inner_none h1 _ hmem
  unfold pairF at h2
  rw [decide_eq_true (by omega), Bool.true_and, show (q : Int).toNat = q from rfl, hq] at h2
  exact h2
theorem opts_rule {d : Desc} {i : Nat} {r : Rule} (h : d.rules[i]? = some r) : (optsD d)[i]? = some (ruleOpt r) := by
  unfold optsD
  have hi := (List.getElem?_eq_some_iff.1 h).1
  rw [List.getElem?_append_left (by simpa using hi), List.getElem?_map, h]
  rfl
theorem opts_final {d : Desc} {i : Nat} {f : Final} (h : d.finals[i]? = some f) : (optsD d)[d.rules.length + i]? = some (finalOpt f) := by
  unfold optsD
  rw [List.getElem?_append_right (by simp), List.length_map, Nat.add_sub_cancel_left, List.getElem?_map, h]
  rfl
theorem sole_one {d : Desc} (h : outerS (optsD d) 0 (optsD d) = none) {x : List Int} {a : Nat} {s : Int} {p q : Nat} {o r : Opt} (hp : (optsD d)[p]? = some o) (hq : (optsD d)[q]? = some r) (h1 : mayF x a s o) (h2 : mayF x a s r)
    (ho : o.fin = true ↔ d.rules.length ≤ p) (hr : r.fin = true ↔ d.rules.length ≤ q) : p = q := by
  rcases Nat.lt_trichotomy p q with hlt | he | hlt
  · have e1 := sole_pair h hp hq hlt (by rw [h1.1, h2.1])
    rw [may_clash h1 h2 (fun hh => hr.2 (by have := ho.1 hh; omega))] at e1
    cases e1
  · exact he
  · have e1 := sole_pair h hq hp hlt (by rw [h1.1, h2.1])
    rw [may_clash h2 h1 (fun hh => ho.2 (by have := hr.1 hh; omega))] at e1
    cases e1
/-- a sole description relates an input to one output at most. -/
theorem run_once {d : Desc} (h : outerS (optsD d) 0 (optsD d) = none) {x : List Int} {a : Nat} {s : Int} {w : List Int} (h1 : Run d x a s w) : ∀ {u : List Int}, Run d x a s u → u = w := by
  induction h1 with
  | fin f hf hs hl hx hw =>
    intro u h2
    obtain ⟨i, hi⟩ := List.mem_iff_getElem?.1 hf
    have m1 : mayF x _ _ (finalOpt f) := ⟨hs, hx, fun _ => hl⟩
    cases h2 with
    | fin g hg hs' hl' hx' hw' =>
      obtain ⟨j, hj⟩ := List.mem_iff_getElem?.1 hg
      have m2 : mayF x _ _ (finalOpt g) := ⟨hs', hx', fun _ => hl'⟩
      have he := sole_one h (opts_final hi) (opts_final hj) m1 m2 (by simp [finalOpt]) (by simp [finalOpt])
      obtain rfl : i = j := by omega
      rw [hi] at hj
      injection hj with hj
      subst hj
      rw [hw, hw']
    | step r hr hs' hx' h' hw' =>
      obtain ⟨j, hj⟩ := List.mem_iff_getElem?.1 hr
      have hjl := (List.getElem?_eq_some_iff.1 hj).1
      have m2 : mayF x _ _ (ruleOpt r) := ⟨hs', hx', fun hh => by simp [ruleOpt] at hh⟩
      have he := sole_one h (opts_final hi) (opts_rule hj) m1 m2 (by simp [finalOpt]) (by simp [ruleOpt]; omega)
      omega
  | step r hr hs hx h' hw ih =>
    intro u h2
    obtain ⟨i, hi⟩ := List.mem_iff_getElem?.1 hr
    have hil := (List.getElem?_eq_some_iff.1 hi).1
    have m1 : mayF x _ _ (ruleOpt r) := ⟨hs, hx, fun hh => by simp [ruleOpt] at hh⟩
    cases h2 with
    | fin g hg hs' hl' hx' hw' =>
      obtain ⟨j, hj⟩ := List.mem_iff_getElem?.1 hg
      have m2 : mayF x _ _ (finalOpt g) := ⟨hs', hx', fun _ => hl'⟩
      have he := sole_one h (opts_rule hi) (opts_final hj) m1 m2 (by simp [ruleOpt]; omega) (by simp [finalOpt])
      omega
    | step r' hr' hs' hx' h'' hw' =>
      obtain ⟨j, hj⟩ := List.mem_iff_getElem?.1 hr'
      have hjl := (List.getElem?_eq_some_iff.1 hj).1
      have m2 : mayF x _ _ (ruleOpt r') := ⟨hs', hx', fun hh => by simp [ruleOpt] at hh⟩
      have he := sole_one h (opts_rule hi) (opts_rule hj) m1 m2 (by simp [ruleOpt]; omega) (by simp [ruleOpt]; omega)
      subst he
      rw [hi] at hj
      injection hj with hj
      subst hj
      rw [hw, hw', ih h'']
/-- what a term writes of a window that fits is a symbol. -/
theorem fits_val {t : Term} {inn out : Int} {gs : List (List Span)} {x : List Int} {a : Nat} (hf : fitsF t inn out gs = true) (hg : goodG gs) (hx : fitsX x gs a) :
    numbersF t = true ∧ (∀ p ∈ t.parts, rightP p gs.length = true) ∧ (0 ≤ t.sum + sumV t.parts (fun q => (winF x a gs.length).getD q.toNat 0) ∧ t.sum + sumV t.parts (fun q => (winF x a gs.length).getD q.toNat 0) ≤ 1114111) ∧ mem (domF out) (tvalF t (winF x a gs.length)) := by
  unfold fitsF at hf
  rw [Bool.and_eq_true] at hf
  obtain ⟨h1, h2, h3, h4, _⟩ := rightF_iff.1 hf.1
  have hd : plain (domF out) = true := by unfold domF; rcases h2 with rfl | rfl <;> decide
  have h5 := (fitsG_iff h3 (fun p hp => (h4 p hp).1) hg hd).1 hf.2
  have h6 := h5 _ ⟨fun q => (winF x a gs.length).getD q.toNat 0, fun p hp => by
    obtain ⟨p1, p2, _⟩ := rightP_iff.1 (h4 p hp).1
    have hlt : p.at_.toNat < gs.length := by omega
    refine ⟨gs[p.at_.toNat], List.getElem?_eq_getElem hlt, ?_⟩
    have hxl : a + p.at_.toNat < x.length := by have := hx.1; omega
    have hz := hx.2 _ _ _ (List.getElem?_eq_getElem hlt) (List.getElem?_eq_getElem hxl)
    show mem gs[p.at_.toNat] ((winF x a gs.length).getD p.at_.toNat 0)
    rw [List.getD_eq_getElem?_getD, win_at hlt, List.getElem?_eq_getElem hxl]
    exact hz.2, rfl⟩
  exact ⟨h3, fun p hp => (h4 p hp).1, h6.1, h6.2⟩
/-- where nothing leads back, states have ranks that fall along epsilon rules. -/
theorem walk_less {E : Edges} : ∀ {k : Nat} {t : Int}, walkE E (k + 1) t → walkE E k t
  | 0, _, _ => trivial
  | _ + 1, _, ⟨s, h1, h2⟩ => ⟨s, h1, walk_less h2⟩
theorem rank_least {E : Edges} {n : Nat} {t : Int} (h : ¬ walkE E n t) : ∃ k, k ≤ n ∧ ¬ walkE E k t ∧ ∀ j, j < k → walkE E j t := by
  induction n with
  | zero => exact absurd trivial h
  | succ n ih =>
    by_cases hn : walkE E n t
    · refine ⟨n + 1, Nat.le_refl _, h, fun j hj => ?_⟩
      have : ∀ m j : Nat, walkE E (j + m) t → walkE E j t := fun m => by
        induction m with
        | zero => exact fun j hj => hj
        | succ m ih => exact fun j hj => ih j (walk_less hj)
      exact this (n - j) j (by rw [Nat.add_sub_cancel' (by omega)]; exact hn)
    · obtain ⟨k, h1, h2, h3⟩ := ih hn
      exact ⟨k, by omega, h2, h3⟩
theorem rank_of {E : Edges} {n : Nat} (h : ¬ cycP E n) : ∃ ρ : Int → Nat, (∀ t, ρ t ≤ n + 1) ∧ ∀ e ∈ E, ρ e.2 < ρ e.1 := by
  have h1 : ∀ t, ∃ k, k ≤ n + 1 ∧ ¬ walkE E k t ∧ ∀ j, j < k → walkE E j t := fun t => rank_least fun hw => h ⟨t, hw⟩
  refine ⟨fun t => n + 1 - (h1 t).choose, fun t => Nat.sub_le _ _, fun e he => ?_⟩
  obtain ⟨s1, s2, s3⟩ := (h1 e.1).choose_spec
  obtain ⟨t1, t2, t3⟩ := (h1 e.2).choose_spec
  have hlt : (h1 e.1).choose < (h1 e.2).choose := by
    refine Nat.lt_of_not_le fun hle => ?_
    have h0 : (h1 e.2).choose ≠ 0 := fun h0 => t2 (by rw [h0]; trivial)
    obtain ⟨m, hm⟩ : ∃ m, (h1 e.2).choose = m + 1 := ⟨(h1 e.2).choose - 1, by omega⟩
    refine t2 ?_
    rw [hm]
    exact ⟨e.1, he, s3 m (by omega)⟩
  show n + 1 - (h1 e.2).choose < n + 1 - (h1 e.1).choose
  omega
theorem rank_right {d : Desc} (h : (whereF d).1 = 0) : ∃ ρ : Int → Nat, (∀ t, ρ t ≤ d.states.toNat + 1) ∧ ∀ r ∈ d.rules, r.guards = [] → ρ r.dst < ρ r.src := by
  obtain ⟨h1, h2, _, h4⟩ := whereF_ok.1 h
  have hb : ∀ e ∈ edgesF d.rules, (0 ≤ e.1 ∧ e.1 < (d.states.toNat : Int)) ∧ 0 ≤ e.2 ∧ e.2 < (d.states.toNat : Int) := fun e he => by
    unfold edgesF at he
    obtain ⟨r, hr, rfl⟩ := List.mem_map.1 he
    have h5 := h2 r (List.mem_filter.1 hr).1
    unfold ruleF stateF at h5
    simp only [Bool.and_eq_true, decide_eq_true_eq] at h5
    dsimp only
    omega
  have hc : ¬ cycP (edgesF d.rules) d.states.toNat := fun hc => by
    rw [(kahnF_iff hb).2 hc] at h4
    cases h4
  obtain ⟨ρ, h5, h6⟩ := rank_of hc
  refine ⟨ρ, h5, fun r hr hg => h6 (r.src, r.dst) ?_⟩
  unfold edgesF
  exact List.mem_map.2 ⟨r, List.mem_filter.2 ⟨hr, by simp [hg]⟩, rfl⟩
end Go.Proofs.YtmkmikacfilbpaaGreat
