/-
  What a transducer relates an input to, plain Lean: a sole description relates an input to one output at most. No program is named here. Words: word.In, word.Fits, cmp.Compare of two runes, word.Front, word.Compare; span.Has. Words compared: word.Front, word.Compare; a number in a set: span.Has. How a transducer's places are gone through, plain Lean: which come, in which order, and what each is related to. No program is named here.
-/
import Derived.Test.YthfcbbdghggefaaGreatPh
import Derived.Test.YthfcbbdghggefaaGreatPb
import Derived.Test.YthfcbbdghggefaaGreatPa
namespace Go.Proofs.YthfcbbdghggefaaGreat
open Go.Proofs Go.Um Go.RowKit
/-- the window at a place. -/
def winF (x : List Int) (a n : Nat) : List Int := (x.drop a).take n
/-- a term's value of a window. -/
def tvalF (t : Term) (w : List Int) : Int := t.base + valF (outerT t) (t.sum + sumV t.parts fun a => w.getD a.toNat 0)
def writesV (out : List Term) (w : List Int) : List Int := out.map fun t => tvalF t w
/-- the input goes on in the window of guards. -/
def fitsX (x : List Int) (gs : List (List Span)) (a : Nat) : Prop := gs.length ≤ x.length - a ∧ ∀ (i : Nat) (g : List Span) (z : Int), gs[i]? = some g → x[a + i]? = some z → inSet g z
inductive Run (d : Desc) (x : List Int) : Nat → Int → List Int → Prop
  | fin {a : Nat} {s : Int} {w : List Int} (f : Final) (hf : f ∈ d.finals) (hs : f.src = s) (hl : f.guards.length = x.length - a) (hx : fitsX x f.guards a) (hw : w = writesV f.out (winF x a f.guards.length)) : Run d x a s w
  | step {a : Nat} {s : Int} {w u : List Int} (r : Rule) (hr : r ∈ d.rules) (hs : r.src = s) (hx : fitsX x r.guards a) (h : Run d x (a + r.eat.toNat) r.dst u) (hw : w = writesV r.out (winF x a r.guards.length) ++ u) : Run d x a s w
theorem win_at {x : List Int} {a n i : Nat} (h : i < n) : (winF x a n)[i]? = x[a + i]? := by
  unfold winF
  rw [List.getElem?_take, if_pos h, List.getElem?_drop]
theorem meetG_of : ∀ {gs hs : List (List Span)}, (∀ (i : Nat) (g h : List Span), gs[i]? = some g → hs[i]? = some h → meetF g h ≠ []) → meetG gs hs = true
  | [], _, _ => meetG_end _ _ (.inl rfl)
  | _ :: _, [], _ => meetG_end _ _ (.inr rfl)
  | g :: gs, h :: hs, H => by
    unfold meetG
    rw [meetG_of (gs := gs) (hs := hs) fun i g' h' h1 h2 => H (i + 1) g' h' (by simpa using h1) (by simpa using h2), Bool.and_true]
    have := H 0 g h (by simp) (by simp)
    simpa [List.isEmpty_iff] using this
theorem fits_meet {x : List Int} {gs hs : List (List Span)} {a : Nat} (h1 : fitsX x gs a) (h2 : fitsX x hs a) : meetG gs hs = true := meetG_of fun i g h hg hh he => by
  have hi : a + i < x.length := by
    have := (List.getElem?_eq_some_iff.1 hg).1
    have := h1.1
    omega
  obtain ⟨z, hz⟩ : ∃ z, x[a + i]? = some z := ⟨_, List.getElem?_eq_getElem hi⟩
  exact meetF_nil.1 he z ⟨h1.2 i g z hg hz, h2.2 i h z hh hz⟩
/-- an option that may be taken. -/
def mayF (x : List Int) (a : Nat) (s : Int) (o : Opt) : Prop := o.src = s ∧ fitsX x o.guards a ∧ (o.fin = true → o.guards.length = x.length - a)
theorem may_clash {x : List Int} {a : Nat} {s : Int} {o p : Opt} (h1 : mayF x a s o) (h2 : mayF x a s p) (hop : o.fin = true → p.fin = true) : clashF o p = true := by
  unfold clashF
  rw [if_neg (by rw [h1.1, h2.1]; simp), if_neg (fun h => h.2 (by rw [h1.2.2 h.1, h2.2.2 (hop h.1)])), if_neg (fun h => by
    have e2 := h2.2.2 h.2.1
    have e1 := h1.2.1.1
    have := h.2.2
    omega)]
  exact fits_meet h1.2.1 h2.2.1
theorem inner_none {os : List Opt} {i : Nat} {o : Opt} : ∀ {ks : List Int}, innerS os i o ks = none → ∀ k ∈ ks, pairF os i o k = false
  | [], _, k, hk => by cases hk
  | q :: ks, h, k, hk => by
    unfold innerS at h
    split at h
    · cases h
    · rename_i hq
      rcases List.mem_cons.1 hk with rfl | hk
      · simpa using hq
      · exact inner_none h k hk
theorem outer_none {os : List Opt} : ∀ {l : List Opt} {i : Nat}, os.drop i = l → outerS os i l = none → ∀ (p : Nat) (o : Opt), i ≤ p → os[p]? = some o → innerS os p o (idxO os os.length o.src) = none
  | [], i, hl, _, p, o, hp, ho => by
    have h1 : os.length ≤ i := List.drop_eq_nil_iff.1 hl
    have h2 := (List.getElem?_eq_some_iff.1 ho).1
    omega
  | q :: l, i, hl, h, p, o, hp, ho => by
    unfold outerS at h
    split at h
    · cases h
    · rename_i hq
      have hi : os[i]? = some q := by
        have := congrArg (fun y => y[0]?) hl
        simpa [List.getElem?_drop] using this
      rcases Nat.eq_or_lt_of_le hp with rfl | hlt
      · rw [hi] at ho
        injection ho with ho
        subst ho
        exact hq
      · have hl' : os.drop (i + 1) = l := by
          have := congrArg (fun y => y.drop 1) hl
          simpa [List.drop_drop] using this
        exact outer_none hl' h p o hlt ho
theorem sole_pair {os : List Opt} (h : outerS os 0 os = none) {p q : Nat} {o r : Opt} (hp : os[p]? = some o) (hq : os[q]? = some r) (hlt : p < q) (hs : r.src = o.src) : clashF o r = false := by
  have h1 := outer_none (os := os) (l := os) (i := 0) rfl h p o (Nat.zero_le _) hp
  have hmem : (q : Int) ∈ idxO os os.length o.src := by
    unfold idxO
    rw [List.mem_map]
    refine ⟨q, List.mem_filter.2 ⟨List.mem_range.2 (List.getElem?_eq_some_iff.1 hq).1, ?_⟩, rfl⟩
    rw [hq]
    simp [hs]
  have h2 := inner_none h1 _ hmem
  unfold pairF at h2
  rw [decide_eq_true (by omega), Bool.true_and, show (q : Int).toNat = q from rfl, hq] at h2
  exact h2
theorem opts_rule {d : Desc} {i : Nat} {r : Rule} (h : d.rules[i]? = some r) : (optsD d)[i]? = some (ruleOpt r) := by
  unfold optsD
  have hi := (List.getElem?_eq_some_iff.1 h).1
  rw [List.getElem?_append_left (by simpa using hi), List.getElem?_map, h]
  rfl
theorem opts_final {d : Desc} {i : Nat} {f : Final} (h : d.finals[i]? = some f) : (optsD d)[d.rules.length + i]? = some (finalOpt f) := by
  unfold optsD
  rw [List.getElem?_append_right (by simp), List.length_map, Nat.add_sub_cancel_left, List.getElem?_map, h]
  rfl
theorem sole_one {d : Desc} (h : outerS (optsD d) 0 (optsD d) = none) {x : List Int} {a : Nat} {s : Int} {p q : Nat} {o r : Opt} (hp : (optsD d)[p]? = some o) (hq : (optsD d)[q]? = some r) (h1 : mayF x a s o) (h2 : mayF x a s r)
    (ho : o.fin = true ↔ d.rules.length ≤ p) (hr : r.fin = true ↔ d.rules.length ≤ q) : p = q := by
  rcases Nat.lt_trichotomy p q with hlt | he | hlt
  · have e1 := sole_pair h hp hq hlt (by rw [h1.1, h2.1])
    rw [may_clash h1 h2 (fun hh => hr.2 (by have := ho.1 hh; omega))] at e1
    cases e1
  · exact he
  · have e1 := sole_pair h hq hp hlt (by rw [h1.1, h2.1])
    rw [may_clash h2 h1 (fun hh => ho.2 (by have := hr.1 hh; omega))] at e1
    cases e1
/-- a sole description relates an input to one output at most. -/
theorem run_once {d : Desc} (h : outerS (optsD d) 0 (optsD d) = none) {x : List Int} {a : Nat} {s : Int} {w : List Int} (h1 : Run d x a s w) : ∀ {u : List Int}, Run d x a s u → u = w := by
  induction h1 with
  | fin f hf hs hl hx hw =>
    intro u h2
    obtain ⟨i, hi⟩ := List.mem_iff_getElem?.1 hf
    have m1 : mayF x _ _ (finalOpt f) := ⟨hs, hx, fun _ => hl⟩
    cases h2 with
    | fin g hg hs' hl' hx' hw' =>
      obtain ⟨j, hj⟩ := List.mem_iff_getElem?.1 hg
      have m2 : mayF x _ _ (finalOpt g) := ⟨hs', hx', fun _ => hl'⟩
      have he := sole_one h (opts_final hi) (opts_final hj) m1 m2 (by simp [finalOpt]) (by simp [finalOpt])
      obtain rfl : i = j := by omega
      rw [hi] at hj
      injection hj with hj
      subst hj
      rw [hw, hw']
    | step r hr hs' hx' h' hw' =>
      obtain ⟨j, hj⟩ := List.mem_iff_getElem?.1 hr
      have hjl := (List.getElem?_eq_some_iff.1 hj).1
      have m2 : mayF x _ _ (ruleOpt r) := ⟨hs', hx', fun hh => by simp [ruleOpt] at hh⟩
      have he := sole_one h (opts_final hi) (opts_rule hj) m1 m2 (by simp [finalOpt]) (by simp [ruleOpt]; omega)
      omega
  | step r hr hs hx h' hw ih =>
    intro u h2
    obtain ⟨i, hi⟩ := List.mem_iff_getElem?.1 hr
    have hil := (List.getElem?_eq_some_iff.1 hi).1
    have m1 : mayF x _ _ (ruleOpt r) := ⟨hs, hx, fun hh => by simp [ruleOpt] at hh⟩
    cases h2 with
    | fin g hg hs' hl' hx' hw' =>
      obtain ⟨j, hj⟩ := List.mem_iff_getElem?.1 hg
      have m2 : mayF x _ _ (finalOpt g) := ⟨hs', hx', fun _ => hl'⟩
      have he := sole_one h (opts_rule hi) (opts_final hj) m1 m2 (by simp [ruleOpt]; omega) (by simp [finalOpt])
      omega
    | step r' hr' hs' hx' h'' hw' =>
      obtain ⟨j, hj⟩ := List.mem_iff_getElem?.1 hr'
      have hjl := (List.getElem?_eq_some_iff.1 hj).1
      have m2 : mayF x _ _ (ruleOpt r') := ⟨hs', hx', fun hh => by simp [ruleOpt] at hh⟩
      have he := sole_one h (opts_rule hi) (opts_rule hj) m1 m2 (by simp [ruleOpt]; omega) (by simp [ruleOpt]; omega)
      subst he
      rw [hi] at hj
      injection hj with hj
      subst hj
      rw [hw, hw', ih h'']
/-- what a term writes of a window that fits is a symbol. -/
theorem fits_val {t : Term} {inn out : Int} {gs : List (List Span)} {x : List Int} {a : Nat} (hf : fitsF t inn out gs = true) (hg : goodG gs) (hx : fitsX x gs a) :
    numbersF t = true ∧ (∀ p ∈ t.parts, rightP p gs.length = true) ∧ (0 ≤ t.sum + sumV t.parts (fun q => (winF x a gs.length).getD q.toNat 0) ∧ t.sum + sumV t.parts (fun q => (winF x a gs.length).getD q.toNat 0) ≤ 1114111) ∧ mem (domF out) (tvalF t (winF x a gs.length)) := by
  unfold fitsF at hf
  rw [Bool.and_eq_true] at hf
  obtain ⟨h1, h2, h3, h4, _⟩ := rightF_iff.1 hf.1
  have hd : plain (domF out) = true := by unfold domF; rcases h2 with rfl | rfl <;> decide
  have h5 := (fitsG_iff h3 (fun p hp => (h4 p hp).1) hg hd).1 hf.2
  have h6 := h5 _ ⟨fun q => (winF x a gs.length).getD q.toNat 0, fun p hp => by
    obtain ⟨p1, p2, _⟩ := rightP_iff.1 (h4 p hp).1
    have hlt : p.at_.toNat < gs.length := by omega
    refine ⟨gs[p.at_.toNat], List.getElem?_eq_getElem hlt, ?_⟩
    have hxl : a + p.at_.toNat < x.length := by have := hx.1; omega
    have hz := hx.2 _ _ _ (List.getElem?_eq_getElem hlt) (List.getElem?_eq_getElem hxl)
    show mem gs[p.at_.toNat] ((winF x a gs.length).getD p.at_.toNat 0)
    rw [List.getD_eq_getElem?_getD, win_at hlt, List.getElem?_eq_getElem hxl]
    exact hz.2, rfl⟩
  exact ⟨h3, fun p hp => (h4 p hp).1, h6.1, h6.2⟩
/-- where nothing leads back, states have ranks that fall along epsilon rules. -/
theorem walk_less {E : Edges} : ∀ {k : Nat} {t : Int}, walkE E (k + 1) t → walkE E k t
  | 0, _, _ => trivial
  | _ + 1, _, ⟨s, h1, h2⟩ => ⟨s, h1, walk_less h2⟩
theorem rank_least {E : Edges} {n : Nat} {t : Int} (h : ¬ walkE E n t) : ∃ k, k ≤ n ∧ ¬ walkE E k t ∧ ∀ j, j < k → walkE E j t := by
  induction n with
  | zero => exact absurd trivial h
  | succ n ih =>
    by_cases hn : walkE E n t
    · refine ⟨n + 1, Nat.le_refl _, h, fun j hj => ?_⟩
      have : ∀ m j : Nat, walkE E (j + m) t → walkE E j t := fun m => by
        induction m with
        | zero => exact fun j hj => hj
        | succ m ih => exact fun j hj => ih j (walk_less hj)
      exact this (n - j) j (by rw [Nat.add_sub_cancel' (by omega)]; exact hn)
    · obtain ⟨k, h1, h2, h3⟩ := ih hn
      exact ⟨k, by omega, h2, h3⟩
theorem rank_of {E : Edges} {n : Nat} (h : ¬ cycP E n) : ∃ ρ : Int → Nat, (∀ t, ρ t ≤ n + 1) ∧ ∀ e ∈ E, ρ e.2 < ρ e.1 := by
  have h1 : ∀ t, ∃ k, k ≤ n + 1 ∧ ¬ walkE E k t ∧ ∀ j, j < k → walkE E j t := fun t => rank_least fun hw => h ⟨t, hw⟩
  refine ⟨fun t => n + 1 - (h1 t).choose, fun t => Nat.sub_le _ _, fun e he => ?_⟩
  obtain ⟨s1, s2, s3⟩ := (h1 e.1).choose_spec
  obtain ⟨t1, t2, t3⟩ := (h1 e.2).choose_spec
  have hlt : (h1 e.1).choose < (h1 e.2).choose := by
    refine Nat.lt_of_not_le fun hle => ?_
    have h0 : (h1 e.2).choose ≠ 0 := fun h0 => t2 (by rw [h0]; trivial)
    obtain ⟨m, hm⟩ : ∃ m, (h1 e.2).choose = m + 1 := ⟨(h1 e.2).choose - 1, by omega⟩
    refine t2 ?_
    rw [hm]
    exact ⟨e.1, he, s3 m (by omega)⟩
  show n + 1 - (h1 e.2).choose < n + 1 - (h1 e.1).choose
  omega
theorem rank_right {d : Desc} (h : (whereF d).1 = 0) : ∃ ρ : Int → Nat, (∀ t, ρ t ≤ d.states.toNat + 1) ∧ ∀ r ∈ d.rules, r.guards = [] → ρ r.dst < ρ r.src := by
  obtain ⟨h1, h2, _, h4⟩ := whereF_ok.1 h
  have hb : ∀ e ∈ edgesF d.rules, (0 ≤ e.1 ∧ e.1 < (d.states.toNat : Int)) ∧ 0 ≤ e.2 ∧ e.2 < (d.states.toNat : Int) := fun e he => by
    unfold edgesF at he
    obtain ⟨r, hr, rfl⟩ := List.mem_map.1 he
    have h5 := h2 r (List.mem_filter.1 hr).1
    unfold ruleF stateF at h5
    simp only [Bool.and_eq_true, decide_eq_true_eq] at h5
    dsimp only
    omega
  have hc : ¬ cycP (edgesF d.rules) d.states.toNat := fun hc => by
    rw [(kahnF_iff hb).2 hc] at h4
    cases h4
  obtain ⟨ρ, h5, h6⟩ := rank_of hc
  refine ⟨ρ, h5, fun r hr hg => h6 (r.src, r.dst) ?_⟩
  unfold edgesF
  exact List.mem_map.2 ⟨r, List.mem_filter.2 ⟨hr, by simp [hg]⟩, rfl⟩
end Go.Proofs.YthfcbbdghggefaaGreat
namespace Go.Um
open Go.RowKit
/-- a number of Go's rune. -/
def I32 (x : Int) : Prop := -2147483648 ≤ x ∧ x ≤ 2147483647
/-- one rune. -/
def runeR : RepOf Int where
  width := 1
  rel := fun _ _ cs x => cs = [.int .i32 x] ∧ I32 x
  len := by rintro w S cs x ⟨rfl, _⟩; rfl
  mono := by intro w w' S S' cs x _ _ h; exact h
abbrev wordR : RepOf (List Int) := listR runeR
theorem rune_at {w : World} {S : Nat → Prop} {A : Option Addr} {n cap : Nat} {xs : List Int} {x : Int} {i : Nat} (h : wordR.rel w S [.slice A n cap] xs) (hx : xs[i]? = some x) :
    ∃ b o, A = some ⟨b, o, none⟩ ∧ S b ∧ w.cell? ⟨b, o + i, none⟩ = some (.int .i32 x) ∧ I32 x := by
  obtain ⟨b, o, v, h1, h2, ⟨h3, h4⟩, h5⟩ := list_at1 rfl h hx
  injection h3 with h3 _
  exact ⟨b, o, h1, h2, by rw [h5, h3], h4⟩
/-- which of two words comes first. -/
def cmpW : List Int → List Int → Int
  | [], [] => 0
  | [], _ :: _ => -1
  | _ :: _, [] => 1
  | x :: a, y :: b => if x < y then -1 else if y < x then 1 else cmpW a b
def frontF : List Int → List Int → Nat
  | x :: a, y :: b => if x = y then frontF a b + 1 else 0
  | _, _ => 0
theorem front_le : ∀ a b : List Int, frontF a b ≤ a.length ∧ frontF a b ≤ b.length
  | [], _ => ⟨Nat.zero_le _, Nat.zero_le _⟩
  | _ :: _, [] => ⟨Nat.zero_le _, Nat.zero_le _⟩
  | x :: a, y :: b => by
    unfold frontF
    have := front_le a b
    split <;> simp <;> omega
theorem front_drop {a b : List Int} {k : Nat} {x y : Int} (hx : a[k]? = some x) (hy : b[k]? = some y) : frontF (a.drop k) (b.drop k) = if x = y then frontF (a.drop (k + 1)) (b.drop (k + 1)) + 1 else 0 := by
  rw [drop_cons hx, drop_cons hy]
  rfl
theorem front_end {a b : List Int} {k : Nat} (h : a.length ≤ k ∨ b.length ≤ k) : frontF (a.drop k) (b.drop k) = 0 := by
  rcases h with h | h
  · rw [List.drop_eq_nil_iff.2 h]; rfl
  · rw [List.drop_eq_nil_iff.2 h]; cases a.drop k <;> rfl
theorem cmpW_front : ∀ a b : List Int, (frontF a b = a.length → frontF a b = b.length → cmpW a b = 0) ∧ (frontF a b = a.length → frontF a b ≠ b.length → cmpW a b = -1) ∧ (frontF a b ≠ a.length → frontF a b = b.length → cmpW a b = 1) ∧
    ∀ x y, a[frontF a b]? = some x → b[frontF a b]? = some y → cmpW a b = if x < y then -1 else if y < x then 1 else 0
  | [], [] => ⟨fun _ _ => rfl, fun _ h => absurd rfl h, fun h => absurd rfl h, fun x y h => by simp at h⟩
  | [], _ :: _ => ⟨fun _ h => by simp [frontF] at h, fun _ _ => rfl, fun h => absurd rfl h, fun x y h => by simp at h⟩
  | _ :: _, [] => ⟨fun h => by simp [frontF] at h, fun h => by simp [frontF] at h, fun _ _ => rfl, fun x y _ h => by simp at h⟩
  | x :: a, y :: b => by
    obtain ⟨h1, h2, h3, h4⟩ := cmpW_front a b
    unfold frontF cmpW
    by_cases he : x = y
    · subst he
      rw [if_pos rfl, if_neg (by omega), if_neg (by omega)]
      simp only [List.length_cons, Nat.add_right_cancel_iff, List.getElem?_cons_succ, ne_eq]
      exact ⟨h1, h2, h3, h4⟩
    · rw [if_neg he]
      simp only [List.length_cons, List.getElem?_cons_zero, Option.some.injEq]
      refine ⟨fun h => by omega, fun h => by omega, fun _ h => by omega, ?_⟩
      rintro p q rfl rfl
      by_cases hlt : x < y
      · rw [if_pos hlt, if_pos hlt]
      · rw [if_neg hlt, if_neg hlt, if_pos (by omega), if_pos (by omega)]
theorem cmpW_refl : ∀ a : List Int, cmpW a a = 0
  | [] => rfl
  | x :: a => by unfold cmpW; rw [if_neg (by omega), if_neg (by omega)]; exact cmpW_refl a
theorem cmpW_eq : ∀ {a b : List Int}, cmpW a b = 0 → a = b
  | [], [], _ => rfl
  | [], _ :: _, h => by simp [cmpW] at h
  | _ :: _, [], h => by simp [cmpW] at h
  | x :: a, y :: b, h => by
    unfold cmpW at h
    split at h
    · cases h
    · split at h
      · cases h
      · rw [cmpW_eq h, show x = y by omega]
theorem cmpW_trans : ∀ {a b c : List Int}, cmpW a b < 0 → cmpW b c < 0 → cmpW a c < 0
  | [], [], _, h, _ => by simp [cmpW] at h
  | [], _ :: _, [], _, h => by simp [cmpW] at h
  | [], _ :: _, _ :: _, _, _ => by simp [cmpW]
  | _ :: _, [], _, h, _ => by simp [cmpW] at h
  | _ :: _, _ :: _, [], _, h => by simp [cmpW] at h
  | x :: a, y :: b, z :: c, h1, h2 => by
    unfold cmpW at h1 h2 ⊢
    by_cases e1 : x < y
    · by_cases e2 : y < z
      · rw [if_pos (by omega)]; decide
      · rw [if_neg e2] at h2
        by_cases e3 : z < y
        · rw [if_pos e3] at h2; simp at h2
        · rw [if_pos (by omega)]; decide
    · rw [if_neg e1] at h1
      by_cases e2 : y < x
      · rw [if_pos e2] at h1; simp at h1
      · rw [if_neg e2] at h1
        by_cases e3 : y < z
        · rw [if_pos (by omega)]; decide
        · rw [if_neg e3] at h2
          by_cases e4 : z < y
          · rw [if_pos e4] at h2; simp at h2
          · rw [if_neg e4] at h2
            rw [if_neg (by omega), if_neg (by omega)]
            exact cmpW_trans h1 h2
theorem cmpW_flip : ∀ a b : List Int, cmpW b a = -cmpW a b
  | [], [] => rfl
  | [], _ :: _ => rfl
  | _ :: _, [] => rfl
  | x :: a, y :: b => by
    unfold cmpW
    by_cases e1 : x < y
    · rw [if_pos e1, if_neg (by omega), if_pos e1]; rfl
    · by_cases e2 : y < x
      · rw [if_pos e2, if_neg e1, if_pos e2]
      · rw [if_neg e2, if_neg e1, if_neg e1, if_neg e2]; exact cmpW_flip a b
end Go.Um
namespace Go.Proofs.YthfcbbdghggefaaGreat
open Go.RowKit Go.Um
set_option maxHeartbeats 1000000 in
theorem In_calls (s x : Int) (w : World) : Calls Tryz.prog 103 #[.int .i64 s, .int .i32 x] w fun e w' => e = .returned (.bool (hasB (domF s) x)) ∧ w' = w := by
  by_cases hs1 : s = 1
  · subst hs1
    by_cases h1 : 0 ≤ x <;> by_cases h2 : x ≤ 255
    all_goals
      go_enter Tryz.func103, Tryz.ntmps103
      go_wp2_with fail
      go_ret
      exact ⟨by simp [domF, hasB, h1, h2], rfl⟩
  · have hs1' : (s == 1) = false := by simpa using hs1
    by_cases hs2 : s = 2
    · subst hs2
      by_cases h1 : 0 ≤ x
      · by_cases h2 : x ≤ 1114111
        · by_cases h3 : x < 55296
          · go_enter Tryz.func103, Tryz.ntmps103
            go_wp2_with fail
            go_ret
            exact ⟨by simp [domF, hasB]; omega, rfl⟩
          · by_cases h4 : 57343 < x
            · go_enter Tryz.func103, Tryz.ntmps103
              go_wp2_with fail
              go_ret
              exact ⟨by simp [domF, hasB]; omega, rfl⟩
            · go_enter Tryz.func103, Tryz.ntmps103
              go_wp2_with fail
              go_ret
              exact ⟨by simp [domF, hasB]; omega, rfl⟩
        · go_enter Tryz.func103, Tryz.ntmps103
          go_wp2_with fail
          go_ret
          exact ⟨by simp [domF, hasB]; omega, rfl⟩
      · go_enter Tryz.func103, Tryz.ntmps103
        go_wp2_with fail
        go_ret
        exact ⟨by simp [domF, hasB]; omega, rfl⟩
    · have hs2' : (s == 2) = false := by simpa using hs2
      go_enter Tryz.func103, Tryz.ntmps103
      go_wp2_with fail
      go_ret
      exact ⟨by simp [domF, hs1, hs2, hasB], rfl⟩
set_option maxHeartbeats 1000000 in
theorem wFits_calls (s : Int) (l : List Int) (v : Value) (w : World) (S : Nat → Prop) (h : wordR.rel w S [v] l) : Calls Tryz.prog 85 #[.int .i64 s, v] w fun e w' => e = .returned (.bool (l.all (hasB (domF s)))) ∧ w' = w := by
  have HI := hid fun x W => In_calls s x W
  obtain ⟨A, c, rfl, hc, hm⟩ := list_form h
  unfold maxLen at hm
  go_enter Tryz.func85, Tryz.ntmps85
  go_wp2_with fail
  go_loop [9] (fun vi => ∃ k : Nat, k ≤ l.length ∧ vi = .int .i64 k ∧ (l.drop k).all (hasB (domF s)) = l.all (hasB (domF s))) (fun vi => l.length - (intOf vi).toNat)
  case atStart => exact ⟨0, Nat.zero_le _, rfl, rfl⟩
  case round =>
    obtain ⟨k, hk, rfl, hp⟩ := hrel
    have HP := hid hp; clear hp
    by_cases hlt : k < l.length
    · obtain ⟨x, hx⟩ := at_lt hlt
      obtain ⟨b1, o1, rfl, hb1, h1, hp1⟩ := rune_at h hx
      have hlt' : (k : Int) < l.length := by omega
      have HP2 : Hid ((hasB (domF s) x && (l.drop (k + 1)).all (hasB (domF s))) = l.all (hasB (domF s))) := hid (by have := HP.out; rw [drop_cons hx] at this; exact this)
      obtain ⟨t, ht⟩ : ∃ t, t = hasB (domF s) x := ⟨_, rfl⟩
      have HX := hid (HI.out x w)
      rw [← ht] at HX HP2
      clear hx hp1 ht
      cases t with
      | true =>
        have hF : Hid ((l.drop (k + 1)).all (hasB (domF s)) = l.all (hasB (domF s))) := hid (by have := HP2.out; simpa using this)
        go_wp2_with fail
        refine HX.out.mono ?_
        rintro e w1 ⟨rfl, rfl⟩
        go_wp2_with fail
        refine ⟨⟨k + 1, by omega, by go_num, hF.out⟩, ?_⟩
        simp [intOf]; omega
      | false =>
        have hF : Hid (false = l.all (hasB (domF s))) := hid (by have := HP2.out; simpa using this)
        go_wp2_with fail
        refine HX.out.mono ?_
        rintro e w1 ⟨rfl, rfl⟩
        go_wp2_with fail
        go_ret
        exact ⟨by rw [← hF.out]; rfl, rfl⟩
    · have hke : k = l.length := by omega
      subst hke
      have hF : Hid (true = l.all (hasB (domF s))) := hid (by have := HP.out; simpa using this)
      clear HP
      go_wp2_with fail
      go_ret
      exact ⟨by rw [← hF.out]; rfl, rfl⟩
set_option maxHeartbeats 1000000 in
theorem isNaN_calls (x : Int) (w : World) : Calls Tryz.prog 130 #[.int .i32 x] w fun e w' => e = .returned (.bool false) ∧ w' = w := by
  go_enter Tryz.func130, Tryz.ntmps130
  go_wp2_with fail
  go_ret
  exact ⟨by simp, rfl⟩
set_option maxHeartbeats 1000000 in
theorem cmpRune_calls (x y : Int) (w : World) : Calls Tryz.prog 111 #[.int .i32 x, .int .i32 y] w fun e w' => e = .returned (.int .i64 (if x < y then -1 else if y < x then 1 else 0)) ∧ w' = w := by
  have HN := hid fun z W => isNaN_calls z W
  by_cases h1 : x < y
  · rw [if_pos h1]
    go_enter Tryz.func111, Tryz.ntmps111
    go_wp2_with fail
    refine (HN.out _ _).mono ?_
    rintro e w1 ⟨rfl, rfl⟩
    go_wp2_with fail
    refine (HN.out _ _).mono ?_
    rintro e w1 ⟨rfl, rfl⟩
    go_wp2_with fail
    go_ret
    exact ⟨rfl, rfl⟩
  · rw [if_neg h1]
    by_cases h2 : y < x
    · rw [if_pos h2]
      go_enter Tryz.func111, Tryz.ntmps111
      go_wp2_with fail
      refine (HN.out _ _).mono ?_
      rintro e w1 ⟨rfl, rfl⟩
      go_wp2_with fail
      refine (HN.out _ _).mono ?_
      rintro e w1 ⟨rfl, rfl⟩
      go_wp2_with fail
      go_ret
      exact ⟨rfl, rfl⟩
    · rw [if_neg h2]
      go_enter Tryz.func111, Tryz.ntmps111
      go_wp2_with fail
      refine (HN.out _ _).mono ?_
      rintro e w1 ⟨rfl, rfl⟩
      go_wp2_with fail
      refine (HN.out _ _).mono ?_
      rintro e w1 ⟨rfl, rfl⟩
      go_wp2_with fail
      go_ret
      exact ⟨rfl, rfl⟩
end Go.Proofs.YthfcbbdghggefaaGreat
namespace Go.Um
open Go.RowKit
def hasI (l : List Span) (x : Int) : Bool := decide (-1073741824 ≤ x) && decide (x ≤ 1073741824) && hasB l x
theorem hasI_iff {l : List Span} {x : Int} : hasI l x = true ↔ inSet l x := by
  unfold hasI inSet
  rw [Bool.and_eq_true, Bool.and_eq_true, decide_eq_true_eq, decide_eq_true_eq, hasB_iff]
end Go.Um
namespace Go.Proofs.YthfcbbdghggefaaGreat
open Go.RowKit Go.Um
set_option maxHeartbeats 1000000 in
theorem Has_calls (l : List Span) (x : Int) (v : Value) (w : World) (h : spansR.rel w (upto w.heap.size) [v] l) : Calls Tryz.prog 62 #[v, .int .i64 x] w fun e w' => e = .returned (.bool (hasI l x)) ∧ Below w.heap.size w w' := by
  obtain ⟨A, c, rfl, hc, hm⟩ := list_form h
  unfold maxLen at hm
  by_cases c1 : x < -1073741824
  · have hF : Hid (false = hasI l x) := hid (by unfold hasI; rw [decide_eq_false (by omega)]; rfl)
    clear h
    go_enter Tryz.func62, Tryz.ntmps62
    go_wp2_with fail
    go_ret
    exact ⟨by rw [← hF.out]; rfl, Below.refl _ _⟩
  by_cases c2 : 1073741824 < x
  · have hF : Hid (false = hasI l x) := hid (by unfold hasI; rw [decide_eq_false (p := x ≤ 1073741824) (by omega)]; simp)
    clear h
    go_enter Tryz.func62, Tryz.ntmps62
    go_wp2_with fail
    go_ret
    exact ⟨by rw [← hF.out]; rfl, Below.refl _ _⟩
  have hI : Hid (hasI l x = hasB l x) := hid (by unfold hasI; rw [decide_eq_true (by omega), decide_eq_true (by omega)]; rfl)
  go_enter Tryz.func62, Tryz.ntmps62
  go_wp2_with fail
  go_loopw [15] (fun vi wr => ∃ k : Nat, k ≤ l.length ∧ vi = .int .i64 k ∧ hasB (l.drop k) x = hasB l x ∧ Below w.heap.size w wr) (fun vi _ => l.length - (intOf vi).toNat)
  case atStart => exact ⟨0, Nat.zero_le _, rfl, rfl, Below.refl _ _⟩
  case round =>
    obtain ⟨k, hk, rfl, hp, hB⟩ := hrel
    have HP := hid hp; clear hp
    by_cases hlt : k < l.length
    · obtain ⟨s, hx⟩ := at_lt hlt
      obtain ⟨b1, o1, rfl, hb1, h1, h2, hp1, hp2⟩ := span_at h hx
      replace h1 := (hB.cell (p := ⟨b1, o1 + k * 2, none⟩) hb1).trans h1
      replace h2 := (hB.cell (p := ⟨b1, o1 + k * 2 + 1, none⟩) hb1).trans h2
      have hlt' : (k : Int) < l.length := by omega
      have HP2 : Hid ((decide (s.lo ≤ x) && decide (x ≤ s.hi) || hasB (l.drop (k + 1)) x) = hasB l x) := hid (by have := HP.out; rw [drop_cons hx] at this; exact this)
      have hBn : Below w.heap.size w (wr.alloc (.cells #[.int .i64 s.lo, .int .i64 s.hi] 75)) := hB.alloc hB.size _
      have HBn := hid hBn
      clear hx hp1 hp2 hB hBn h
      by_cases e1 : s.lo ≤ x
      · by_cases e2 : x ≤ s.hi
        · have hF : Hid (true = hasB l x) := hid (by have := HP2.out; simpa [e1, e2] using this)
          go_wp2_with fail
          go_ret
          exact ⟨by rw [hI.out, ← hF.out]; rfl, HBn.out⟩
        · have hF : Hid (hasB (l.drop (k + 1)) x = hasB l x) := hid (by have := HP2.out; simpa [e2] using this)
          go_wp2_with fail
          refine ⟨⟨k + 1, by omega, by go_num, hF.out, HBn.out⟩, ?_⟩
          simp [intOf]; omega
      · have hF : Hid (hasB (l.drop (k + 1)) x = hasB l x) := hid (by have := HP2.out; simpa [e1] using this)
        go_wp2_with fail
        refine ⟨⟨k + 1, by omega, by go_num, hF.out, HBn.out⟩, ?_⟩
        simp [intOf]; omega
    · have hke : k = l.length := by omega
      subst hke
      have hF : Hid (false = hasB l x) := hid (by have := HP.out; simpa [hasB] using this)
      clear HP
      go_wp2_with fail
      go_ret
      exact ⟨by rw [hI.out, ← hF.out]; rfl, hB⟩
set_option maxHeartbeats 1000000 in
theorem Front_calls (a b : List Int) (v u : Value) (w : World) (S T : Nat → Prop) (ha : wordR.rel w S [v] a) (hb : wordR.rel w T [u] b) :
    Calls Tryz.prog 110 #[v, u] w fun e w' => e = .returned (.int .i64 (frontF a b)) ∧ ∃ n, w' = w.drewN n := by
  obtain ⟨A, c, rfl, hc, hm⟩ := list_form ha
  obtain ⟨B, d, rfl, hd, hn⟩ := list_form hb
  unfold maxLen at hm hn
  go_enter Tryz.func110, Tryz.ntmps110
  go_wp2_with fail
  go_loopw [5] (fun vi wr => ∃ k n : Nat, k ≤ a.length ∧ k ≤ b.length ∧ vi = .int .i64 k ∧ frontF a b = k + frontF (a.drop k) (b.drop k) ∧ wr = w.drewN n) (fun vi _ => a.length - (intOf vi).toNat)
  case atStart => exact ⟨0, 0, Nat.zero_le _, Nat.zero_le _, rfl, by simp, rfl⟩
  case round =>
    obtain ⟨k, n, hk, hk2, rfl, hp, hw⟩ := hrel
    subst hw
    have HP := hid hp; clear hp
    by_cases hlt : k < a.length
    · have hlt' : (k : Int) < a.length := by omega
      obtain ⟨x, hx⟩ := at_lt hlt
      obtain ⟨b1, o1, rfl, hb1, h1, hx1⟩ := rune_at ha hx
      by_cases hlt2 : k < b.length
      · have hlt2' : (k : Int) < b.length := by omega
        obtain ⟨y, hy⟩ := at_lt hlt2
        obtain ⟨b2, o2, rfl, hb2, h2, hx2⟩ := rune_at hb hy
        have HP2 := hid (HP.out.trans (by rw [front_drop hx hy]))
        clear hx hy hx1 hx2 ha hb
        by_cases he : x = y
        · subst he
          have hF : Hid (frontF a b = k + 1 + frontF (a.drop (k + 1)) (b.drop (k + 1))) := hid (by rw [HP2.out, if_pos rfl]; omega)
          go_wp2_with fail
          go_quiet (fail)
          go_wp2_with fail
          refine ⟨⟨k + 1, _, by omega, by omega, by go_num, hF.out, rfl⟩, ?_⟩
          simp [intOf]; omega
        · have he' : (x == y) = false := by simpa using he
          have hF : Hid (frontF a b = k) := hid (by rw [HP2.out, if_neg he]; omega)
          go_wp2_with fail
          go_quiet (fail)
          go_wp2_with fail
          go_ret
          exact ⟨by rw [hF.out]; rfl, n + nq, by simp⟩
      · have hF : Hid (frontF a b = k) := hid (by rw [HP.out, front_end (.inr (by omega))]; omega)
        have hlt2' : ¬ (k : Int) < b.length := by omega
        clear hx hx1 ha hb 
        go_wp2_with fail
        go_quiet (fail)
        go_wp2_with fail
        go_ret
        exact ⟨by rw [hF.out]; rfl, n + nq, by simp⟩
    · have hF : Hid (frontF a b = k) := hid (by rw [HP.out, front_end (.inl (by omega))]; omega)
      have hlt' : ¬ (k : Int) < a.length := by omega
      clear ha hb
      go_wp2_with fail
      go_quiet (fail)
      go_wp2_with fail
      go_ret
      exact ⟨by rw [hF.out]; rfl, n + nq, by simp⟩
set_option maxHeartbeats 1000000 in
theorem Compare_calls (a b : List Int) (v u : Value) (w : World) (S T : Nat → Prop) (ha : wordR.rel w S [v] a) (hb : wordR.rel w T [u] b) :
    Calls Tryz.prog 92 #[v, u] w fun e w' => e = .returned (.int .i64 (cmpW a b)) ∧ ∃ n, w' = w.drewN n := by
  have HFr := hid (Front_calls a b v u w S T ha hb)
  have HC := hid fun x y W => cmpRune_calls x y W
  obtain ⟨A, c, rfl, hc, hm⟩ := list_form ha
  obtain ⟨B, d, rfl, hd, hn⟩ := list_form hb
  unfold maxLen at hm hn
  obtain ⟨g1, g2, g3, g4⟩ := cmpW_front a b
  obtain ⟨l1, l2⟩ := front_le a b
  obtain ⟨k, hk⟩ : ∃ k, k = frontF a b := ⟨_, rfl⟩
  rw [← hk] at HFr g1 g2 g3 g4 l1 l2
  clear hk
  by_cases e1 : k = a.length
  · have e1' : ((k : Int) == a.length) = true := by simpa using (show (k : Int) = a.length by omega)
    by_cases e2 : k = b.length
    · have e2' : ((k : Int) == b.length) = true := by simpa using (show (k : Int) = b.length by omega)
      have hF := hid (g1 e1 e2)
      clear g1 g2 g3 g4 e1 e2 ha hb
      go_enter Tryz.func92, Tryz.ntmps92
      go_wp2_with fail
      refine HFr.out.mono ?_
      rintro e w1 ⟨rfl, n, rfl⟩
      go_wp2_with fail
      go_ret
      exact ⟨by rw [hF.out]; rfl, _, rfl⟩
    · have e2' : ((k : Int) == b.length) = false := by simpa using (show ¬ (k : Int) = b.length by omega)
      have hF := hid (g2 e1 e2)
      clear g1 g2 g3 g4 e1 e2 ha hb
      go_enter Tryz.func92, Tryz.ntmps92
      go_wp2_with fail
      refine HFr.out.mono ?_
      rintro e w1 ⟨rfl, n, rfl⟩
      go_wp2_with fail
      go_ret
      exact ⟨by rw [hF.out]; rfl, _, rfl⟩
  · have e1' : ((k : Int) == a.length) = false := by simpa using (show ¬ (k : Int) = a.length by omega)
    by_cases e2 : k = b.length
    · have e2' : ((k : Int) == b.length) = true := by simpa using (show (k : Int) = b.length by omega)
      have hF := hid (g3 e1 e2)
      clear g1 g2 g3 g4 e1 e2 ha hb
      go_enter Tryz.func92, Tryz.ntmps92
      go_wp2_with fail
      refine HFr.out.mono ?_
      rintro e w1 ⟨rfl, n, rfl⟩
      go_wp2_with fail
      go_ret
      exact ⟨by rw [hF.out]; rfl, _, rfl⟩
    · have e2' : ((k : Int) == b.length) = false := by simpa using (show ¬ (k : Int) = b.length by omega)
      obtain ⟨x, hx⟩ := at_lt (xs := a) (i := k) (by omega)
      obtain ⟨y, hy⟩ := at_lt (xs := b) (i := k) (by omega)
      obtain ⟨b1, o1, rfl, hb1, h1, hx1⟩ := rune_at ha hx
      obtain ⟨b2, o2, rfl, hb2, h2, hx2⟩ := rune_at hb hy
      have hF := hid (g4 x y hx hy)
      have HC2 := hid fun W => HC.out x y W
      obtain ⟨t, ht⟩ : ∃ t, t = (if x < y then (-1 : Int) else if y < x then 1 else 0) := ⟨_, rfl⟩
      rw [← ht] at hF HC2
      clear ht HC
      have k1 : (k : Int) < a.length := by omega
      have k2 : (k : Int) < b.length := by omega
      clear g1 g2 g3 g4 e1 e2 ha hb hx hy hx1 hx2
      go_enter Tryz.func92, Tryz.ntmps92
      go_wp2_with fail
      refine HFr.out.mono ?_
      rintro e w1 ⟨rfl, n, rfl⟩
      go_wp2_with fail
      obtain ⟨ι, Wc, ⟨i0, hi0'⟩, hWc, Wsur⟩ := held_class (w.drewN n).drew (fun q => q = b1 ∨ q = b2)
      have hne : Nonempty ι := ⟨i0⟩
      have WS := hid Wsur; clear Wsur
      have HWc := hid hWc; clear hWc
      have Hi0 := hid hi0'; clear hi0'
      have q1 : ∀ i, (Wc i).cell? ⟨b1, o1 + k, none⟩ = some (.int .i32 x) := fun i => (World.cell?_of_block (a := ⟨b1, o1 + k, none⟩) (HWc.out i b1 (.inl rfl))).trans h1
      have q2 : ∀ i, (Wc i).cell? ⟨b2, o2 + k, none⟩ = some (.int .i32 y) := fun i => (World.cell?_of_block (a := ⟨b2, o2 + k, none⟩) (HWc.out i b2 (.inr rfl))).trans h2
      refine region_anyL (S := fun w' => ∃ i, w' = Wc i) (last := 10) (by kernel_rfl) ?_
      refine anyL_seg 0 8 (by kernel_rfl) (fun _ _ _ _ _ h => h) ⟨i0, Hi0.out.symm⟩ (f := 2) rfl (by kernel_rfl) (by kernel_rfl) ?_
      simp only [List.drop_zero, List.take_succ_cons, List.take_zero]
      repeat go_big_quiet_step (fail)
      refine wpQuiet_nil ?_
      refine anyL_act (i := 8) (by kernel_rfl) rfl rfl ?_
      intro K hK
      go_wp2_with fail
      refine (HC2.out _).mono ?_
      rintro e w2 ⟨rfl, rfl⟩
      go_wp2_with fail
      refine hK.out _ _ (fun _ => ⟨i0, Hi0.out.symm⟩) ?_
      clear hK K
      refine anyL_seg 9 1 (by kernel_rfl) (fun _ _ _ _ _ h => h) ⟨i0, Hi0.out.symm⟩ (f := 0) rfl (by kernel_rfl) (by kernel_rfl) ?_
      simp only [List.drop_succ_cons, List.drop_zero, List.take_succ_cons, List.take_zero]
      repeat go_big_quiet_step (fail)
      refine wpQuiet_nil ?_
      refine anyL_done (by kernel_rfl) ?_ 0
      go_wp2_with fail
      go_ret
      exact ⟨by rw [hF.out]; rfl, _, rfl⟩
end Go.Proofs.YthfcbbdghggefaaGreat
namespace Go.Proofs.YthfcbbdghggefaaGreat
open Go.Proofs Go.Um Go.RowKit
def fitsL : List (List Span) → List Int → Bool
  | [], _ => true
  | _ :: _, [] => false
  | g :: gs, z :: zs => hasI g z && fitsL gs zs
def fitsB (x : List Int) (gs : List (List Span)) (a : Nat) : Bool := fitsL gs (x.drop a)
theorem fitsL_iff : ∀ {gs : List (List Span)} {x : List Int}, fitsL gs x = true ↔ gs.length ≤ x.length ∧ ∀ (i : Nat) (g : List Span) (z : Int), gs[i]? = some g → x[i]? = some z → inSet g z
  | [], x => by simp [fitsL]
  | g :: gs, [] => by simp [fitsL]
  | g :: gs, z :: zs => by
    unfold fitsL
    rw [Bool.and_eq_true, hasI_iff, fitsL_iff (gs := gs) (x := zs)]
    simp only [List.length_cons, Nat.add_le_add_iff_right]
    constructor
    · rintro ⟨h1, h2, h3⟩
      refine ⟨h2, fun i g' z' hg hz => ?_⟩
      cases i with
      | zero => simp at hg hz; subst hg; subst hz; exact h1
      | succ i => exact h3 i g' z' (by simpa using hg) (by simpa using hz)
    · rintro ⟨h2, h3⟩
      exact ⟨h3 0 g z rfl rfl, h2, fun i g' z' hg hz => h3 (i + 1) g' z' (by simpa using hg) (by simpa using hz)⟩
theorem fitsB_iff {x : List Int} {gs : List (List Span)} {a : Nat} : fitsB x gs a = true ↔ fitsX x gs a := by
  unfold fitsB fitsX
  rw [fitsL_iff, List.length_drop]
  simp only [List.getElem?_drop]
theorem fitsL_cons {gs : List (List Span)} {x : List Int} {i j : Nat} {g : List Span} {z : Int} (hg : gs[i]? = some g) (hz : x[j]? = some z) : fitsL (gs.drop i) (x.drop j) = (hasI g z && fitsL (gs.drop (i + 1)) (x.drop (j + 1))) := by
  rw [drop_cons hg, drop_cons hz]
  rfl
/-- the places that come. -/
inductive Reach (d : Desc) (x : List Int) : Nat → Int → Prop
  | start : Reach d x 0 d.start
  | step {a : Nat} {s : Int} (r : Rule) (h : Reach d x a s) (hr : r ∈ d.rules) (hs : r.src = s) (hx : fitsX x r.guards a) : Reach d x (a + r.eat.toNat) r.dst
/-- the numbers, below k, of the options of a state. -/
def idxF (srcs : List Int) (k : Nat) (s : Int) : List Int := ((List.range k).filter fun i => srcs[i]? == some s).map Int.ofNat
theorem idxF_succ {srcs : List Int} {k : Nat} {t : Int} (h : srcs[k]? = some t) (s : Int) : idxF srcs (k + 1) s = if s = t then idxF srcs k s ++ [(k : Int)] else idxF srcs k s := by
  unfold idxF
  rw [List.range_succ, List.filter_append, List.map_append]
  by_cases e : s = t
  · subst e
    rw [if_pos rfl]
    simp [h]
  · rw [if_neg e]
    have : ¬ t = s := fun h => e h.symm
    simp [h, this]
theorem idxF_len (srcs : List Int) (k : Nat) (s : Int) : (idxF srcs k s).length ≤ k := by
  unfold idxF
  rw [List.length_map]
  exact Nat.le_trans (List.length_filter_le _ _) (by simp)
theorem idxF_mem {srcs : List Int} {k : Nat} {s i : Int} : i ∈ idxF srcs k s ↔ ∃ j : Nat, i = j ∧ j < k ∧ srcs[j]? = some s := by
  unfold idxF
  rw [List.mem_map]
  constructor
  · rintro ⟨j, hj, rfl⟩
    rw [List.mem_filter, List.mem_range] at hj
    exact ⟨j, rfl, hj.1, by simpa using hj.2⟩
  · rintro ⟨j, rfl, h1, h2⟩
    exact ⟨j, List.mem_filter.2 ⟨List.mem_range.2 h1, by simpa using h2⟩, rfl⟩
def rulesOf (d : Desc) (s : Int) : List Int := idxF (d.rules.map (·.src)) d.rules.length s
def finalsOf (d : Desc) (s : Int) : List Int := idxF (d.finals.map (·.src)) d.finals.length s
theorem rulesOf_mem {d : Desc} {s i : Int} : i ∈ rulesOf d s ↔ ∃ (j : Nat) (r : Rule), i = j ∧ d.rules[j]? = some r ∧ r.src = s := by
  unfold rulesOf
  rw [idxF_mem]
  constructor
  · rintro ⟨j, rfl, h1, h2⟩
    rw [List.getElem?_map] at h2
    obtain ⟨r, h3, h4⟩ := Option.map_eq_some_iff.1 h2
    exact ⟨j, r, rfl, h3, h4⟩
  · rintro ⟨j, r, rfl, h1, h2⟩
    exact ⟨j, rfl, (List.getElem?_eq_some_iff.1 h1).1, by rw [List.getElem?_map, h1]; simp [h2]⟩
theorem finalsOf_mem {d : Desc} {s i : Int} : i ∈ finalsOf d s ↔ ∃ (j : Nat) (r : Final), i = j ∧ d.finals[j]? = some r ∧ r.src = s := by
  unfold finalsOf
  rw [idxF_mem]
  constructor
  · rintro ⟨j, rfl, h1, h2⟩
    rw [List.getElem?_map] at h2
    obtain ⟨r, h3, h4⟩ := Option.map_eq_some_iff.1 h2
    exact ⟨j, r, rfl, h3, h4⟩
  · rintro ⟨j, r, rfl, h1, h2⟩
    exact ⟨j, rfl, (List.getElem?_eq_some_iff.1 h1).1, by rw [List.getElem?_map, h1]; simp [h2]⟩
/-- epsilon rules, as pairs of states. -/
def Eps (d : Desc) (s t : Int) : Prop := ∃ r ∈ d.rules, r.guards = [] ∧ r.src = s ∧ r.dst = t
/-- each state once, each behind those that its epsilon rules lead to. -/
structure Ord (d : Desc) (ord : List Int) : Prop where
  nd : ord.Nodup
  eps : ∀ (k : Nat) (s t : Int), ord[k]? = some s → Eps d s t → ∃ j, j < k ∧ ord[j]? = some t
theorem Ord.snoc {d : Desc} {ord : List Int} (h : Ord d ord) {s : Int} (hs : s ∉ ord) (he : ∀ t, Eps d s t → t ∈ ord) : Ord d (ord ++ [s]) := by
  refine ⟨List.nodup_append.2 ⟨h.nd, by simp, fun a ha b hb => ?_⟩, fun k u t hk ht => ?_⟩
  · simp at hb
    subst hb
    exact fun e => hs (e ▸ ha)
  · by_cases hl : k < ord.length
    · rw [List.getElem?_append_left hl] at hk
      obtain ⟨j, h1, h2⟩ := h.eps k u t hk ht
      exact ⟨j, h1, by rw [List.getElem?_append_left (by omega)]; exact h2⟩
    · have hk' : k = ord.length := by have := (List.getElem?_eq_some_iff.1 hk).1; simp at this; omega
      subst hk'
      simp at hk
      subst hk
      obtain ⟨j, hj⟩ := List.mem_iff_getElem?.1 (he t ht)
      have := (List.getElem?_eq_some_iff.1 hj).1
      exact ⟨j, this, by rw [List.getElem?_append_left this]; exact hj⟩
end Go.Proofs.YthfcbbdghggefaaGreat
