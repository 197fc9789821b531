/-
  Plain Lean: what is printed is read as it was, what is read is printed as it was, line by line. No program is named here.
-/
import Derived.Test.YtcdnkmefcldfmaaDoorPgText
namespace Go.Um

def noNL (l : By) : Prop := ∀ c ∈ l, c ≠ 10
theorem noNL_nil : noNL [] := fun c h => by cases h
theorem noNL_app {a b : By} (h : noNL a) (k : noNL b) : noNL (a ++ b) := fun c hc => (List.mem_append.1 hc).elim (h c) (k c)
theorem noNL_sep {a : By} (h : noNL a) (k : Nat) : noNL (sepL a k) := by unfold sepL; split; exact noNL_nil; exact h
theorem noNL_nums (xs : List Int) : ∀ k, noNL (numsFrom k xs) := by
  induction xs with
  | nil => intro k; exact noNL_nil
  | cons x xs ih => intro k; exact noNL_app (noNL_app (noNL_sep (by intro c hc; simp at hc; subst hc; decide) k) (itoa_noNL x)) (ih (k + 1))
theorem noNL_spans (xs : List Span) : ∀ k, noNL (spansFrom k xs) := by
  induction xs with
  | nil => intro k; exact noNL_nil
  | cons x xs ih =>
    intro k
    exact noNL_app (noNL_app (noNL_sep (by intro c hc; simp at hc; subst hc; decide) k) (noNL_app (noNL_app (itoa_noNL _) (by intro c hc; simp at hc; subst hc; decide)) (itoa_noNL _))) (ih (k + 1))
theorem noNL_guards (xs : List (List Span)) : noNL (guardsL xs) := by
  induction xs with
  | nil => exact noNL_nil
  | cons x xs ih => exact noNL_app (noNL_app (noNL_app (by intro c hc; simp at hc; rcases hc with rfl | rfl <;> decide) (noNL_spans x 0)) (by intro c hc; simp at hc; subst hc; decide)) ih
theorem noNL_parts (xs : List Part) : noNL (partsL xs) := by
  induction xs with
  | nil => exact noNL_nil
  | cons x xs ih => exact noNL_app (noNL_app (by intro c hc; simp at hc; rcases hc with rfl | rfl <;> decide) (noNL_nums _ 0)) ih
theorem noNL_terms (xs : List Term) : noNL (termsL xs) := by
  induction xs with
  | nil => exact noNL_nil
  | cons x xs ih => exact noNL_app (noNL_app (noNL_app (noNL_app (by intro c hc; simp at hc; rcases hc with rfl | rfl <;> decide) (noNL_nums _ 0)) (noNL_parts _)) (by intro c hc; simp at hc; subst hc; decide)) ih
theorem noNL_body (g : List (List Span)) (o : List Term) : noNL (bodyL g o) :=
  noNL_app (noNL_app (noNL_guards g) (by intro c hc; simp at hc; rcases hc with rfl | rfl | rfl <;> decide)) (noNL_terms o)
theorem noNL_rule (r : Rule) : noNL (ruleL r) := noNL_app (noNL_app (by intro c hc; simp at hc; rcases hc with rfl | rfl | rfl | rfl | rfl <;> decide) (noNL_nums _ 0)) (noNL_body _ _)
theorem noNL_final (r : Final) : noNL (finalL r) := noNL_app (noNL_app (by intro c hc; simp at hc; rcases hc with rfl | rfl | rfl | rfl | rfl | rfl <;> decide) (noNL_nums _ 0)) (noNL_body _ _)
theorem noNL_head (d : Desc) : noNL (headL d) := noNL_app (by intro c hc; simp at hc; rcases hc with rfl | rfl | rfl | rfl | rfl | rfl | rfl <;> decide) (noNL_nums _ 0)

theorem take_noNL (l r : By) (h : noNL l) : (l ++ 10 :: r).takeWhile (fun c => c ≠ 10) = l := by
  induction l with
  | nil => simp
  | cons x xs ih =>
    rw [List.cons_append, List.takeWhile_cons_of_pos (by simpa using h x (List.mem_cons_self ..)), ih fun c hc => h c (List.mem_cons_of_mem _ hc)]
theorem cutL_nl (l r : By) (h : noNL l) : cutL (nl l ++ r) = some (l, r) := by
  unfold cutL nl
  have e : l ++ [10] ++ r = l ++ 10 :: r := by simp
  rw [e, if_pos (by simp), take_noNL l r h]
  congr 2
  rw [show l.length + 1 = (l ++ [10]).length by simp, show l ++ 10 :: r = (l ++ [10]) ++ r by simp, List.drop_left]
theorem takeNL (s : By) : noNL (s.takeWhile (fun c => c ≠ 10)) ∧ (10 ∈ s → s = s.takeWhile (fun c => c ≠ 10) ++ 10 :: s.drop ((s.takeWhile (fun c => c ≠ 10)).length + 1)) ∧ (10 ∉ s → s.takeWhile (fun c => c ≠ 10) = s) := by
  induction s with
  | nil => exact ⟨noNL_nil, by simp, by simp⟩
  | cons x xs ih =>
    by_cases hx : x = 10
    · subst hx
      simp
      exact noNL_nil
    · rw [List.takeWhile_cons_of_pos (by simpa using hx)]
      refine ⟨?_, ?_, ?_⟩
      · intro c hc
        rcases List.mem_cons.1 hc with rfl | hc
        · exact hx
        · exact ih.1 c hc
      · intro h
        have : 10 ∈ xs := by simpa [Ne.symm hx] using h
        simp only [List.cons_append, List.length_cons, List.drop_succ_cons]
        rw [← ih.2.1 this]
      · intro h
        have : 10 ∉ xs := fun h' => h (List.mem_cons_of_mem _ h')
        rw [ih.2.2 this]
theorem cutL_some {s l r : By} (h : cutL s = some (l, r)) : s = nl l ++ r ∧ noNL l ∧ r.length < s.length := by
  unfold cutL at h
  split at h
  · rename_i h0
    cases h
    have := takeNL s
    refine ⟨by unfold nl; rw [List.append_assoc]; exact this.2.1 h0, this.1, ?_⟩
    have := congrArg List.length (this.2.1 h0)
    simp at this ⊢
    cases s with
    | nil => cases h0
    | cons => simp; omega
  · cases h

theorem rulesL_app (a b : List Rule) : rulesL (a ++ b) = rulesL a ++ rulesL b := by
  induction a with
  | nil => rfl
  | cons x xs ih => simp [rulesL, ih]
theorem finalsL_app (a b : List Final) : finalsL (a ++ b) = finalsL a ++ finalsL b := by
  induction a with
  | nil => rfl
  | cons x xs ih => simp [finalsL, ih]
theorem line_some {d d' : Desc} {l : By} (hd : d.ok) (h : lineF false d l = some d') : printL d' = printL d ++ nl l ∧ d'.ok := by
  unfold lineF at h
  simp only [Bool.false_eq_true, if_false] at h
  split at h
  · rename_i l1 h1
    obtain ⟨r, h2, h⟩ := Option.map_eq_some_iff.1 h
    cases h
    split at h1
    · rename_i hf
      obtain ⟨e1, _⟩ := lit_some h1
      obtain ⟨e2, o2⟩ := ruleF_some h2
      refine ⟨?_, hd.1, ?_, hd.2.2⟩
      · unfold printL addR
        simp only [hf, rulesL_app]
        rw [e1, e2]
        simp [rulesL, finalsL, ruleL, headL, nl]
      · intro x hx
        rcases List.mem_append.1 hx with hx | hx
        · exact hd.2.1 x hx
        · simp at hx; subst hx; exact o2
    · cases h1
  · obtain ⟨l1, h1, h⟩ := Option.bind_eq_some_iff.1 h
    obtain ⟨r, h2, h⟩ := Option.map_eq_some_iff.1 h
    cases h
    obtain ⟨e1, _⟩ := lit_some h1
    obtain ⟨e2, o2⟩ := finalF_some h2
    refine ⟨?_, hd.1, hd.2.1, ?_⟩
    · unfold printL addE
      simp only [finalsL_app]
      rw [e1, e2]
      simp [finalsL, finalL, headL, nl]
    · intro x hx
      rcases List.mem_append.1 hx with hx | hx
      · exact hd.2.2 x hx
      · simp at hx; subst hx; exact o2
theorem parse_more {m : Nat} : ∀ {n : Nat} {d d' : Desc} {s : By}, 2 ≤ n → d.ok → parseF m n d s = .inl d' → printL d' = printL d ++ s ∧ d'.ok := by
  induction m with
  | zero => intro n d d' s _ _ h; cases h
  | succ m ih =>
    intro n d d' s hn hd h
    unfold parseF at h
    split at h
    · rename_i hs
      cases h
      exact ⟨by simp [hs.1], hd⟩
    · split at h
      · cases h
      · rename_i l r hc
        split at h
        · cases h
        · rename_i d1 h1
          obtain ⟨e, _, _⟩ := cutL_some hc
          have hf : (decide (n = 1)) = false := by simp; omega
          rw [hf] at h1
          obtain ⟨p1, o1⟩ := line_some hd h1
          obtain ⟨p2, o2⟩ := ih (by omega) o1 h
          exact ⟨by rw [p2, p1, e]; simp, o2⟩
/-- a text that is read is what its description is printed as. -/
theorem parse_some {m : Nat} {d' : Desc} {s : By} (h : parseF m 1 d0 s = .inl d') : printL d' = s ∧ d'.ok := by
  cases m with
  | zero => cases h
  | succ m =>
    unfold parseF at h
    simp only [ne_eq, not_true, and_false, if_false] at h
    split at h
    · cases h
    · rename_i l r hc
      split at h
      · cases h
      · rename_i d1 h1
        obtain ⟨e, _, _⟩ := cutL_some hc
        simp only [lineF, decide_true, if_true] at h1
        obtain ⟨e1, o1, r1, f1⟩ := headF_some h1
        obtain ⟨p2, o2⟩ := parse_more (by omega) o1 h
        refine ⟨?_, o2⟩
        rw [p2, e, printL, r1, f1, e1]
        simp [rulesL, finalsL]
theorem parse_ge {m : Nat} : ∀ {n k : Nat} {d : Desc} {s : By}, parseF m n d s = .inr k → n ≤ k := by
  induction m with
  | zero => intro n k d s h; cases h; exact Nat.le_refl _
  | succ m ih =>
    intro n k d s h
    unfold parseF at h
    split at h
    · cases h
    · split at h
      · cases h; exact Nat.le_refl _
      · split at h
        · cases h; exact Nat.le_refl _
        · have := ih h; omega

/-! ### lines -/
def linesOf (d : Desc) : List By := headL d :: (d.rules.map ruleL ++ d.finals.map finalL)
theorem printL_lines (d : Desc) : printL d = (linesOf d).flatMap nl := by
  have h1 : ∀ l : List Rule, rulesL l = (l.map ruleL).flatMap nl := by
    intro l
    induction l with
    | nil => rfl
    | cons x xs ih => simp [rulesL, ih]
  have h2 : ∀ l : List Final, finalsL l = (l.map finalL).flatMap nl := by
    intro l
    induction l with
    | nil => rfl
    | cons x xs ih => simp [finalsL, ih]
  rw [printL, linesOf, h1, h2]
  simp
theorem linesOf_noNL (d : Desc) : ∀ l ∈ linesOf d, noNL l := by
  intro l hl
  unfold linesOf at hl
  rcases List.mem_cons.1 hl with rfl | hl
  · exact noNL_head d
  · rcases List.mem_append.1 hl with hl | hl
    · obtain ⟨r, _, rfl⟩ := List.mem_map.1 hl; exact noNL_rule r
    · obtain ⟨r, _, rfl⟩ := List.mem_map.1 hl; exact noNL_final r
theorem linesOf_length (d : Desc) : (linesOf d).length = 1 + d.rules.length + d.finals.length := by simp [linesOf]; omega
def foldLines : Nat → Desc → List By → Option Desc
  | _, d, [] => some d
  | n, d, l :: r => (lineF (n = 1) d l).bind fun d' => foldLines (n + 1) d' r
theorem fold_app (a b : List By) : ∀ n d, foldLines n d (a ++ b) = (foldLines n d a).bind fun d' => foldLines (n + a.length) d' b := by
  induction a with
  | nil => intro n d; rfl
  | cons x xs ih =>
    intro n d
    simp only [List.cons_append, foldLines]
    cases lineF (decide (n = 1)) d x with
    | none => rfl
    | some d1 => simp only [Option.bind_some]; rw [ih]; simp only [List.length_cons]; rw [show n + 1 + xs.length = n + (xs.length + 1) by omega]
theorem line_rule {d : Desc} {r : Rule} (hf : d.finals = []) (hr : r.ok) : lineF false d (ruleL r) = some (addR d r) := by
  unfold lineF ruleL
  simp only [Bool.false_eq_true, if_false, hf, if_true]
  rw [List.append_assoc, lit_app]
  simp only
  rw [ruleF_print r hr]
  rfl
theorem line_final {d : Desc} {r : Final} (hr : r.ok) : lineF false d (finalL r) = some (addE d r) := by
  unfold lineF finalL
  simp only [Bool.false_eq_true, if_false]
  have : (if d.finals = [] then lit [114, 117, 108, 101, 32] ([102, 105, 110, 97, 108, 32] ++ numsFrom 0 [r.src] ++ bodyL r.guards r.out) else none) = none := by
    split
    · exact lit_none_cons (by decide)
    · rfl
  rw [this]
  simp only
  rw [List.append_assoc, lit_app, Option.bind_some, finalF_print r hr]
  rfl
theorem fold_rules (rs : List Rule) (hr : ∀ r ∈ rs, r.ok) : ∀ n d, 2 ≤ n → d.finals = [] → foldLines n d (rs.map ruleL) = some { d with rules := d.rules ++ rs } := by
  induction rs with
  | nil => intro n d _ _; simp [foldLines]
  | cons r rs ih =>
    intro n d hn hf
    have hd : decide (n = 1) = false := by simp; omega
    simp only [List.map_cons, foldLines]
    rw [hd, line_rule hf (hr r (List.mem_cons_self ..)), Option.bind_some, ih (fun x hx => hr x (List.mem_cons_of_mem _ hx)) (n + 1) (addR d r) (by omega) hf]
    simp [addR]
theorem fold_finals (rs : List Final) (hr : ∀ r ∈ rs, r.ok) : ∀ n d, 2 ≤ n → foldLines n d (rs.map finalL) = some { d with finals := d.finals ++ rs } := by
  induction rs with
  | nil => intro n d _; simp [foldLines]
  | cons r rs ih =>
    intro n d hn
    have hd : decide (n = 1) = false := by simp; omega
    simp only [List.map_cons, foldLines]
    rw [hd, line_final (hr r (List.mem_cons_self ..)), Option.bind_some, ih (fun x hx => hr x (List.mem_cons_of_mem _ hx)) (n + 1) (addE d r) (by omega)]
    simp [addE]
theorem fold_lines (d : Desc) (h : d.ok) : foldLines 1 d0 (linesOf d) = some d := by
  unfold linesOf
  simp only [foldLines, decide_true, lineF, if_true]
  rw [headF_print d h.1, Option.bind_some, fold_app, fold_rules d.rules h.2.1 2 _ (by omega) rfl, Option.bind_some, fold_finals d.finals h.2.2 _ _ (by omega)]
  simp
theorem parse_lines (ls : List By) (hn : ∀ l ∈ ls, noNL l) (X : By) : ∀ (m n : Nat) (d d' : Desc), 1 ≤ n → foldLines n d ls = some d' → parseF (m + ls.length) n d (ls.flatMap nl ++ X) = parseF m (n + ls.length) d' X := by
  induction ls with
  | nil => intro m n d d' _ h; cases h; rfl
  | cons l ls ih =>
    intro m n d d' h1 h
    simp only [foldLines] at h
    obtain ⟨d1, h2, h3⟩ := Option.bind_eq_some_iff.1 h
    have e : (l :: ls).flatMap nl ++ X = nl l ++ (ls.flatMap nl ++ X) := by simp
    rw [e, List.length_cons, ← Nat.add_assoc, parseF]
    rw [if_neg (by simp [nl])]
    rw [cutL_nl l _ (hn l (List.mem_cons_self ..))]
    simp only
    rw [h2]
    simp only
    rw [ih (fun x hx => hn x (List.mem_cons_of_mem _ hx)) m (n + 1) d1 d' (by omega) h3]
    rw [show n + 1 + ls.length = n + (ls.length + 1) by omega]
theorem lines_le (ls : List By) : ls.length ≤ (ls.flatMap nl).length := by
  induction ls with
  | nil => simp
  | cons x xs ih => simp only [List.flatMap_cons, List.length_append, List.length_cons, nl, List.length_nil]; omega
/-- what is printed is read as it was. -/
theorem parse_print (d : Desc) (h : d.ok) (m : Nat) (hm : (printL d).length < m) : parseF m 1 d0 (printL d) = .inl d := by
  have h1 := printL_lines d
  have hl := lines_le (linesOf d)
  rw [← h1] at hl
  have h2 := parse_lines (linesOf d) (linesOf_noNL d) [] (m - (linesOf d).length) 1 d0 d (by omega) (fold_lines d h)
  rw [List.append_nil, ← h1, show m - (linesOf d).length + (linesOf d).length = m by omega] at h2
  rw [h2]
  cases he : m - (linesOf d).length with
  | zero => omega
  | succ k =>
    unfold parseF
    rw [if_pos ⟨rfl, by have := linesOf_length d; omega⟩]
/-- the first k lines are right: a fault lies behind them. -/
theorem parse_front (d : Desc) (h : d.ok) (k m : Nat) (hk : k ≤ (linesOf d).length) (X : By) {e : Nat} (he : parseF m 1 d0 (((linesOf d).take k).flatMap nl ++ X) = .inr e) (hm : k ≤ m) : k + 1 ≤ e := by
  have hf := fold_lines d h
  rw [← List.take_append_drop k (linesOf d), fold_app] at hf
  obtain ⟨d1, h1, _⟩ := Option.bind_eq_some_iff.1 hf
  have hl : ((linesOf d).take k).length = k := by rw [List.length_take]; omega
  have h2 := parse_lines ((linesOf d).take k) (fun l hl => linesOf_noNL d l (List.mem_of_mem_take hl)) X (m - k) 1 d0 d1 (by omega) h1
  rw [hl, show m - k + k = m by omega] at h2
  rw [h2] at he
  have := parse_ge he
  omega
end Go.Um
