/-
  Plain Lean: a description as a text, and a text as a description. No program is named here.
-/
import Derived.Test.YtcdnkmefcldfmaaDoorPgNum
namespace Go.Um

/-! ### printing -/
def sepL (c : By) (k : Nat) : By := if k = 0 then [] else c
def numsFrom : Nat → List Int → By
  | _, [] => []
  | k, x :: r => sepL [32] k ++ Lib.itoa x ++ numsFrom (k + 1) r
def spansFrom : Nat → List Span → By
  | _, [] => []
  | k, s :: r => sepL [44] k ++ (Lib.itoa s.lo ++ [46, 46] ++ Lib.itoa s.hi) ++ spansFrom (k + 1) r
def guardsL : List (List Span) → By
  | [] => []
  | g :: r => [32, 91] ++ spansFrom 0 g ++ [93] ++ guardsL r
def partsL : List Part → By
  | [] => []
  | p :: r => [59, 32] ++ numsFrom 0 [p.at_, p.drop, p.take, p.up] ++ partsL r
def termsL : List Term → By
  | [] => []
  | t :: r => [32, 40] ++ numsFrom 0 [t.base, t.drop, t.take, t.up, t.sum] ++ partsL t.parts ++ [41] ++ termsL r
def bodyL (g : List (List Span)) (o : List Term) : By := guardsL g ++ [32, 45, 62] ++ termsL o
def ruleL (r : Rule) : By := [114, 117, 108, 101, 32] ++ numsFrom 0 [r.src, r.dst, r.eat] ++ bodyL r.guards r.out
def finalL (r : Final) : By := [102, 105, 110, 97, 108, 32] ++ numsFrom 0 [r.src] ++ bodyL r.guards r.out
def headL (d : Desc) : By := [117, 109, 108, 97, 117, 116, 32] ++ numsFrom 0 [d.inn, d.out, d.states, d.start]
def nl (l : By) : By := l ++ [10]
def rulesL : List Rule → By
  | [] => []
  | r :: rs => nl (ruleL r) ++ rulesL rs
def finalsL : List Final → By
  | [] => []
  | r :: rs => nl (finalL r) ++ finalsL rs
def printL (d : Desc) : By := nl (headL d) ++ rulesL d.rules ++ finalsL d.finals

/-! ### reading -/
def lit (p l : By) : Option By := if p.isPrefixOf l then some (l.drop p.length) else none
def numsF : Nat → Nat → By → Option (List Int × By)
  | _, 0, l => some ([], l)
  | k, n + 1, l => (if k = 0 then some l else lit [32] l).bind fun l1 => (numF l1).bind fun (x, l2) => (numsF (k + 1) n l2).map fun (xs, l3) => (x :: xs, l3)
def spansF : Nat → Nat → By → Option (List Span × By)
  | 0, _, _ => none
  | n + 1, k, l => match lit [93] l with
    | some r => some ([], r)
    | none => (if k = 0 then some l else lit [44] l).bind fun l1 => (numF l1).bind fun (lo, l2) => (lit [46, 46] l2).bind fun l3 => (numF l3).bind fun (hi, l4) => (spansF n (k + 1) l4).map fun (ss, r) => (⟨lo, hi⟩ :: ss, r)
def guardsF2 : Nat → By → Option (List (List Span) × By)
  | 0, _ => none
  | n + 1, l => match lit [32, 91] l with
    | none => some ([], l)
    | some r => (spansF (r.length + 1) 0 r).bind fun (g, r1) => (guardsF2 n r1).map fun (gs, r2) => (g :: gs, r2)
def partOf : List Int → Part
  | [a, b, c, d] => ⟨a, b, c, d⟩
  | _ => ⟨0, 0, 0, 0⟩
def partsF : Nat → By → Option (List Part × By)
  | 0, _ => none
  | n + 1, l => match lit [59, 32] l with
    | none => some ([], l)
    | some r => (numsF 0 4 r).bind fun (p, r1) => (partsF n r1).map fun (ps, r2) => (partOf p :: ps, r2)
def termOf (ps : List Part) : List Int → Term
  | [a, b, c, d, e] => ⟨a, b, c, d, e, ps⟩
  | _ => ⟨0, 0, 0, 0, 0, []⟩
def termsF : Nat → By → Option (List Term × By)
  | 0, _ => none
  | n + 1, l => match lit [32, 40] l with
    | none => some ([], l)
    | some r => (numsF 0 5 r).bind fun (h, r1) => (partsF (r1.length + 1) r1).bind fun (ps, r2) => (lit [41] r2).bind fun r3 => (termsF n r3).map fun (ts, r4) => (termOf ps h :: ts, r4)
def tailF (l : By) : Option (List Term) := (lit [32, 45, 62] l).bind fun r1 => (termsF (r1.length + 1) r1).bind fun (o, r2) => if r2 = [] then some o else none
def bodyF (l : By) : Option (List (List Span) × List Term) := (guardsF2 (l.length + 1) l).bind fun (g, r) => (tailF r).map fun o => (g, o)
def headOf : List Int → Desc
  | [a, b, c, d] => ⟨a, b, c, d, [], []⟩
  | _ => ⟨0, 0, 0, 0, [], []⟩
def ruleOf (g : List (List Span)) (o : List Term) : List Int → Rule
  | [a, b, c] => ⟨a, b, g, c, o⟩
  | _ => ⟨0, 0, [], 0, []⟩
def headF (l : By) : Option Desc := (lit [117, 109, 108, 97, 117, 116, 32] l).bind fun l1 => (numsF 0 4 l1).bind fun (n, r) => if r = [] then some (headOf n) else none
def ruleF (l1 : By) : Option Rule := (numsF 0 3 l1).bind fun (n, r) => (bodyF r).map fun (g, o) => ruleOf g o n
def finalF (l1 : By) : Option Final := (numF l1).bind fun (x, r) => (bodyF r).map fun (g, o) => ⟨x, g, o⟩
def addR (d : Desc) (r : Rule) : Desc := { d with rules := d.rules ++ [r] }
def addE (d : Desc) (r : Final) : Desc := { d with finals := d.finals ++ [r] }
def lineF (first : Bool) (d : Desc) (l : By) : Option Desc :=
  if first then headF l
  else match (if d.finals = [] then lit [114, 117, 108, 101, 32] l else none) with
    | some l1 => (ruleF l1).map (addR d)
    | none => (lit [102, 105, 110, 97, 108, 32] l).bind fun l1 => (finalF l1).map (addE d)
/-- a text's first line, and what is behind its end. -/
def cutL (s : By) : Option (By × By) := if 10 ∈ s then some (s.takeWhile (fun c => c ≠ 10), s.drop ((s.takeWhile (fun c => c ≠ 10)).length + 1)) else none
def parseF : Nat → Nat → Desc → By → Desc ⊕ Nat
  | 0, n, _, _ => .inr n
  | m + 1, n, d, s => if s = [] ∧ n ≠ 1 then .inl d else match cutL s with
    | none => .inr n
    | some (l, r) => match lineF (n = 1) d l with
      | none => .inr n
      | some d' => parseF m (n + 1) d' r
def d0 : Desc := ⟨0, 0, 0, 0, [], []⟩

/-! ### what is printed is read -/
theorem lit_some {p l r : By} (h : lit p l = some r) : l = p ++ r ∧ r.length + p.length = l.length := by
  unfold lit at h
  split at h
  · rename_i hp
    cases h
    obtain ⟨t, rfl⟩ := List.isPrefixOf_iff_prefix.1 hp
    simp [Nat.add_comm]
  · cases h
theorem lit_app (p r : By) : lit p (p ++ r) = some r := by
  unfold lit
  rw [if_pos (List.isPrefixOf_iff_prefix.2 ⟨r, rfl⟩)]
  simp
theorem lit_none_cons {c : UInt8} {p : By} {x : UInt8} {l : By} (h : c ≠ x) : lit (c :: p) (x :: l) = none := by
  unfold lit
  rw [if_neg]
  simp [List.isPrefixOf, h]
theorem noDig_nil : noDig [] := by intro c t h; cases h
theorem noDig_cons {c : UInt8} (l : By) (h : dig c = false) : noDig (c :: l) := by intro c' t h'; cases h'; exact h

def allI (l : List Int) : Prop := ∀ x ∈ l, I64 x
theorem numsF_print (xs : List Int) (r : By) (hr : noDig r) : ∀ k, allI xs → numsF k xs.length (numsFrom k xs ++ r) = some (xs, r) := by
  induction xs with
  | nil => intro k _; rfl
  | cons x xs ih =>
    intro k h
    have hn : noDig (numsFrom (k + 1) xs ++ r) := by
      cases xs with
      | nil => exact hr
      | cons y ys => simp only [numsFrom, sepL, if_neg (Nat.succ_ne_zero k), List.append_assoc, List.cons_append]; exact noDig_cons _ (by decide)
    have e : (if k = 0 then some (numsFrom k (x :: xs) ++ r) else lit [32] (numsFrom k (x :: xs) ++ r)) = some (Lib.itoa x ++ (numsFrom (k + 1) xs ++ r)) := by
      by_cases hk : k = 0
      · subst hk; simp [numsFrom, sepL]
      · rw [if_neg hk]
        have : numsFrom k (x :: xs) ++ r = [32] ++ (Lib.itoa x ++ (numsFrom (k + 1) xs ++ r)) := by simp [numsFrom, sepL, hk]
        rw [this, lit_app]
    rw [List.length_cons, numsF, e, Option.bind_some, numF_itoa x (h x (List.mem_cons_self ..)) _ hn, Option.bind_some]
    simp only
    rw [ih (k + 1) fun y hy => h y (List.mem_cons_of_mem _ hy)]
    rfl
theorem numsF_some {n : Nat} : ∀ {k : Nat} {l : By} {xs : List Int} {r : By}, numsF k n l = some (xs, r) → l = numsFrom k xs ++ r ∧ allI xs ∧ xs.length = n ∧ (0 < n → noDig r) ∧ r.length ≤ l.length := by
  induction n with
  | zero =>
    intro k l xs r h
    simp only [numsF, Option.some.injEq, Prod.mk.injEq] at h
    obtain ⟨rfl, rfl⟩ := h
    exact ⟨rfl, (fun x hx => by cases hx), rfl, (fun h => by omega), Nat.le_refl _⟩
  | succ n ih =>
    intro k l xs r h
    unfold numsF at h
    obtain ⟨l1, h1, h⟩ := Option.bind_eq_some_iff.1 h
    obtain ⟨⟨x, l2⟩, h2, h⟩ := Option.bind_eq_some_iff.1 h
    obtain ⟨⟨ys, l3⟩, h3, h⟩ := Option.map_eq_some_iff.1 h
    cases h
    obtain ⟨e3, hi3, hl3, hd3, hle3⟩ := ih h3
    obtain ⟨e2, hi2, hd2, hle2⟩ := numF_some h2
    have e1 : l = sepL [32] k ++ l1 ∧ l1.length ≤ l.length := by
      unfold sepL
      split at h1
      · cases h1; rename_i hk; simp [hk]
      · rename_i hk; rw [if_neg hk]; have := lit_some h1; exact ⟨this.1, by omega⟩
    refine ⟨by rw [e1.1, e2, e3]; simp [numsFrom], ?_, by simp [hl3], fun _ => ?_, by omega⟩
    · intro y hy
      rcases List.mem_cons.1 hy with rfl | hy
      · exact hi2
      · exact hi3 y hy
    · cases n with
      | zero =>
        simp only [numsF, Option.some.injEq, Prod.mk.injEq] at h3
        rw [← h3.2]; exact hd2
      | succ n => exact hd3 (by omega)

def okSp (g : List Span) : Prop := ∀ s ∈ g, s.ok
theorem itoa_ne (x : Int) (r : By) {c : UInt8} {p : By} (h : c ≠ 45) (hd : dig c = false) : lit (c :: p) (Lib.itoa x ++ r) = none := by
  obtain ⟨y, t, e, hy⟩ := itoa_head x
  rw [e, List.cons_append]
  refine lit_none_cons ?_
  rintro rfl
  rcases hy with hy | hy
  · exact h hy
  · rw [hd] at hy; cases hy
theorem spansF_print (g : List Span) (r : By) : ∀ n k, okSp g → (spansFrom k g ++ [93] ++ r).length < n → spansF n k (spansFrom k g ++ [93] ++ r) = some (g, r) := by
  induction g with
  | nil =>
    intro n k _ hn
    cases n with
    | zero => omega
    | succ n => simp only [spansFrom, List.nil_append, spansF]; rw [lit_app]
  | cons s g ih =>
    intro n k hg hn
    cases n with
    | zero => omega
    | succ n =>
      have hs := hg s (List.mem_cons_self ..)
      have hnd : noDig (spansFrom (k + 1) g ++ [93] ++ r) := by
        cases g with
        | nil => exact noDig_cons _ (by decide)
        | cons y ys => simp only [spansFrom, sepL, if_neg (Nat.succ_ne_zero k), List.append_assoc, List.cons_append]; exact noDig_cons _ (by decide)
      have ih2 := ih n (k + 1) (fun y hy => hg y (List.mem_cons_of_mem _ hy))
      have e0 : spansFrom k (s :: g) ++ [93] ++ r = sepL [44] k ++ (Lib.itoa s.lo ++ ([46, 46] ++ (Lib.itoa s.hi ++ (spansFrom (k + 1) g ++ [93] ++ r)))) := by simp [spansFrom]
      rw [e0] at hn ⊢
      generalize spansFrom (k + 1) g ++ [93] ++ r = R at *
      have h93 : lit [93] (sepL [44] k ++ (Lib.itoa s.lo ++ ([46, 46] ++ (Lib.itoa s.hi ++ R)))) = none := by
        unfold sepL
        split
        · exact itoa_ne _ _ (by decide) (by decide)
        · exact lit_none_cons (by decide)
      have e : (if k = 0 then some (sepL [44] k ++ (Lib.itoa s.lo ++ ([46, 46] ++ (Lib.itoa s.hi ++ R)))) else lit [44] (sepL [44] k ++ (Lib.itoa s.lo ++ ([46, 46] ++ (Lib.itoa s.hi ++ R))))) = some (Lib.itoa s.lo ++ ([46, 46] ++ (Lib.itoa s.hi ++ R))) := by
        by_cases hk : k = 0
        · simp [sepL, hk]
        · rw [if_neg hk, sepL, if_neg hk, lit_app]
      unfold spansF
      rw [h93]
      simp only
      rw [e, Option.bind_some, numF_itoa s.lo hs.1 ([46, 46] ++ (Lib.itoa s.hi ++ R)) (noDig_cons (c := 46) _ (by decide)), Option.bind_some]
      simp only
      rw [lit_app, Option.bind_some, numF_itoa s.hi hs.2 _ hnd, Option.bind_some]
      simp only
      rw [ih2 (by simp at hn; omega)]
      rfl
theorem spansF_some {n : Nat} : ∀ {k : Nat} {l : By} {g : List Span} {r : By}, spansF n k l = some (g, r) → l = spansFrom k g ++ [93] ++ r ∧ okSp g ∧ r.length < l.length := by
  induction n with
  | zero => intro k l g r h; cases h
  | succ n ih =>
    intro k l g r h
    unfold spansF at h
    split at h
    · rename_i r' h'
      cases h
      have := lit_some h'
      exact ⟨this.1, (fun s hs => by cases hs), by have := this.2; simp at this; omega⟩
    · obtain ⟨l1, h1, h⟩ := Option.bind_eq_some_iff.1 h
      obtain ⟨⟨lo, l2⟩, h2, h⟩ := Option.bind_eq_some_iff.1 h
      obtain ⟨l3, h3, h⟩ := Option.bind_eq_some_iff.1 h
      obtain ⟨⟨hi, l4⟩, h4, h⟩ := Option.bind_eq_some_iff.1 h
      obtain ⟨⟨ss, l5⟩, h5, h⟩ := Option.map_eq_some_iff.1 h
      cases h
      obtain ⟨e5, o5, q5⟩ := ih h5
      obtain ⟨e4, i4, d4, q4⟩ := numF_some h4
      obtain ⟨e3, q3⟩ := lit_some h3
      obtain ⟨e2, i2, d2, q2⟩ := numF_some h2
      have e1 : l = sepL [44] k ++ l1 ∧ l1.length ≤ l.length := by
        unfold sepL
        split at h1
        · cases h1; rename_i hk; simp [hk]
        · rename_i hk; rw [if_neg hk]; have := lit_some h1; exact ⟨this.1, by omega⟩
      refine ⟨by rw [e1.1, e2, e3, e4, e5]; simp [spansFrom], ?_, by omega⟩
      intro y hy
      rcases List.mem_cons.1 hy with rfl | hy
      · exact ⟨i2, i4⟩
      · exact o5 y hy

def okGs (l : List (List Span)) : Prop := ∀ g ∈ l, okSp g
theorem guardsF_print (gs : List (List Span)) (r : By) (hr : lit [32, 91] r = none) : ∀ n, okGs gs → (guardsL gs ++ r).length < n → guardsF2 n (guardsL gs ++ r) = some (gs, r) := by
  induction gs with
  | nil =>
    intro n _ hn
    cases n with
    | zero => omega
    | succ n => simp only [guardsL, List.nil_append, guardsF2]; rw [hr]
  | cons g gs ih =>
    intro n hg hn
    cases n with
    | zero => omega
    | succ n =>
      have e : guardsL (g :: gs) ++ r = [32, 91] ++ (spansFrom 0 g ++ [93] ++ (guardsL gs ++ r)) := by simp [guardsL]
      rw [e] at hn ⊢
      unfold guardsF2
      rw [lit_app]
      simp only
      rw [spansF_print g _ _ 0 (hg g (List.mem_cons_self ..)) (by omega), Option.bind_some]
      simp only
      rw [ih n (fun y hy => hg y (List.mem_cons_of_mem _ hy)) (by simp at hn ⊢; omega)]
      rfl
theorem guardsF_some {n : Nat} : ∀ {l : By} {gs : List (List Span)} {r : By}, guardsF2 n l = some (gs, r) → l = guardsL gs ++ r ∧ okGs gs ∧ lit [32, 91] r = none ∧ r.length ≤ l.length := by
  induction n with
  | zero => intro l gs r h; cases h
  | succ n ih =>
    intro l gs r h
    unfold guardsF2 at h
    split at h
    · rename_i h'
      cases h
      exact ⟨rfl, fun g hg => (by cases hg), h', Nat.le_refl _⟩
    · rename_i r0 h0
      obtain ⟨⟨g, r1⟩, h1, h⟩ := Option.bind_eq_some_iff.1 h
      obtain ⟨⟨gs', r2⟩, h2, h⟩ := Option.map_eq_some_iff.1 h
      cases h
      obtain ⟨e0, q0⟩ := lit_some h0
      obtain ⟨e1, o1, q1⟩ := spansF_some h1
      obtain ⟨e2, o2, n2, q2⟩ := ih h2
      refine ⟨by rw [e0, e1, e2]; simp [guardsL], ?_, n2, by omega⟩
      intro y hy
      rcases List.mem_cons.1 hy with rfl | hy
      · exact o1
      · exact o2 y hy

def okPs (l : List Part) : Prop := ∀ p ∈ l, p.ok
theorem list4 {l : List Int} (h : l.length = 4) : ∃ a b c d, l = [a, b, c, d] := by
  match l, h with
  | [a, b, c, d], _ => exact ⟨a, b, c, d, rfl⟩
theorem list5 {l : List Int} (h : l.length = 5) : ∃ a b c d e, l = [a, b, c, d, e] := by
  match l, h with
  | [a, b, c, d, e], _ => exact ⟨a, b, c, d, e, rfl⟩
theorem list3 {l : List Int} (h : l.length = 3) : ∃ a b c, l = [a, b, c] := by
  match l, h with
  | [a, b, c], _ => exact ⟨a, b, c, rfl⟩
theorem partsL_noDig (ps : List Part) (r : By) (hr : noDig r) : noDig (partsL ps ++ r) := by
  cases ps with
  | nil => exact hr
  | cons p ps => simp only [partsL, List.append_assoc, List.cons_append]; exact noDig_cons _ (by decide)
theorem partsF_print (ps : List Part) (r : By) (hr : lit [59, 32] r = none) (hd : noDig r) : ∀ n, okPs ps → (partsL ps ++ r).length < n → partsF n (partsL ps ++ r) = some (ps, r) := by
  induction ps with
  | nil =>
    intro n _ hn
    cases n with
    | zero => omega
    | succ n => simp only [partsL, List.nil_append, partsF]; rw [hr]
  | cons p ps ih =>
    intro n hg hn
    cases n with
    | zero => omega
    | succ n =>
      have e : partsL (p :: ps) ++ r = [59, 32] ++ (numsFrom 0 [p.at_, p.drop, p.take, p.up] ++ (partsL ps ++ r)) := by simp [partsL]
      rw [e] at hn ⊢
      unfold partsF
      rw [lit_app]
      simp only
      have hp := hg p (List.mem_cons_self ..)
      have hall : allI [p.at_, p.drop, p.take, p.up] := by
        intro x hx
        simp at hx
        rcases hx with rfl | rfl | rfl | rfl
        · exact hp.1
        · exact hp.2.1
        · exact hp.2.2.1
        · exact hp.2.2.2
      have := numsF_print [p.at_, p.drop, p.take, p.up] (partsL ps ++ r) (partsL_noDig ps r hd) 0 hall
      rw [show (4 : Nat) = [p.at_, p.drop, p.take, p.up].length from rfl, this, Option.bind_some]
      simp only
      rw [ih n (fun y hy => hg y (List.mem_cons_of_mem _ hy)) (by simp at hn ⊢; omega)]
      rfl
theorem partsF_some {n : Nat} : ∀ {l : By} {ps : List Part} {r : By}, partsF n l = some (ps, r) → l = partsL ps ++ r ∧ okPs ps ∧ lit [59, 32] r = none ∧ r.length ≤ l.length := by
  induction n with
  | zero => intro l gs r h; cases h
  | succ n ih =>
    intro l ps r h
    unfold partsF at h
    split at h
    · rename_i h'
      cases h
      exact ⟨rfl, fun g hg => (by cases hg), h', Nat.le_refl _⟩
    · rename_i r0 h0
      obtain ⟨⟨p, r1⟩, h1, h⟩ := Option.bind_eq_some_iff.1 h
      obtain ⟨⟨ps', r2⟩, h2, h⟩ := Option.map_eq_some_iff.1 h
      cases h
      obtain ⟨e0, q0⟩ := lit_some h0
      obtain ⟨e1, o1, l1, _, q1⟩ := numsF_some h1
      obtain ⟨e2, o2, n2, q2⟩ := ih h2
      obtain ⟨a, b, c, d, rfl⟩ := list4 l1
      refine ⟨by rw [e0, e1, e2]; simp [partsL, partOf], ?_, n2, by omega⟩
      intro y hy
      rcases List.mem_cons.1 hy with rfl | hy
      · exact ⟨o1 a (by simp), o1 b (by simp), o1 c (by simp), o1 d (by simp)⟩
      · exact o2 y hy

def Term.ok (t : Term) : Prop := (I64 t.base ∧ I64 t.drop ∧ I64 t.take ∧ I64 t.up ∧ I64 t.sum) ∧ okPs t.parts
def okTs (l : List Term) : Prop := ∀ t ∈ l, t.ok
theorem termsF_print (ts : List Term) (r : By) (hr : lit [32, 40] r = none) : ∀ n, okTs ts → (termsL ts ++ r).length < n → termsF n (termsL ts ++ r) = some (ts, r) := by
  induction ts with
  | nil =>
    intro n _ hn
    cases n with
    | zero => omega
    | succ n => simp only [termsL, List.nil_append, termsF]; rw [hr]
  | cons t ts ih =>
    intro n hg hn
    cases n with
    | zero => omega
    | succ n =>
      have e : termsL (t :: ts) ++ r = [32, 40] ++ (numsFrom 0 [t.base, t.drop, t.take, t.up, t.sum] ++ (partsL t.parts ++ ([41] ++ (termsL ts ++ r)))) := by simp [termsL]
      rw [e] at hn ⊢
      unfold termsF
      rw [lit_app]
      simp only
      have hp := hg t (List.mem_cons_self ..)
      have hall : allI [t.base, t.drop, t.take, t.up, t.sum] := by
        intro x hx
        simp at hx
        obtain ⟨⟨h1, h2, h3, h4, h5⟩, _⟩ := hp
        rcases hx with rfl | rfl | rfl | rfl | rfl <;> assumption
      have := numsF_print [t.base, t.drop, t.take, t.up, t.sum] (partsL t.parts ++ ([41] ++ (termsL ts ++ r))) (partsL_noDig _ _ (noDig_cons _ (by decide))) 0 hall
      rw [show (5 : Nat) = [t.base, t.drop, t.take, t.up, t.sum].length from rfl, this, Option.bind_some]
      simp only
      rw [partsF_print t.parts ([41] ++ (termsL ts ++ r)) (lit_none_cons (x := 41) (by decide)) (noDig_cons (c := 41) _ (by decide)) _ hp.2 (by omega), Option.bind_some]
      simp only
      rw [lit_app, Option.bind_some, ih n (fun y hy => hg y (List.mem_cons_of_mem _ hy)) (by simp at hn ⊢; omega)]
      rfl
theorem termsF_some {n : Nat} : ∀ {l : By} {ts : List Term} {r : By}, termsF n l = some (ts, r) → l = termsL ts ++ r ∧ okTs ts ∧ lit [32, 40] r = none ∧ r.length ≤ l.length := by
  induction n with
  | zero => intro l gs r h; cases h
  | succ n ih =>
    intro l ps r h
    unfold termsF at h
    split at h
    · rename_i h'
      cases h
      exact ⟨rfl, fun g hg => (by cases hg), h', Nat.le_refl _⟩
    · rename_i r0 h0
      obtain ⟨⟨p, r1⟩, h1, h⟩ := Option.bind_eq_some_iff.1 h
      obtain ⟨⟨ps', r2⟩, h2, h⟩ := Option.bind_eq_some_iff.1 h
      obtain ⟨r3, h3, h⟩ := Option.bind_eq_some_iff.1 h
      obtain ⟨⟨ts', r4⟩, h4, h⟩ := Option.map_eq_some_iff.1 h
      cases h
      obtain ⟨e0, q0⟩ := lit_some h0
      obtain ⟨e1, o1, l1, _, q1⟩ := numsF_some h1
      obtain ⟨e2, o2, n2, q2⟩ := partsF_some h2
      obtain ⟨e3, q3⟩ := lit_some h3
      obtain ⟨e4, o4, n4, q4⟩ := ih h4
      obtain ⟨a, b, c, d, e, rfl⟩ := list5 l1
      refine ⟨by rw [e0, e1, e2, e3, e4]; simp [termsL, termOf], ?_, n4, by omega⟩
      intro y hy
      rcases List.mem_cons.1 hy with rfl | hy
      · exact ⟨⟨o1 a (by simp), o1 b (by simp), o1 c (by simp), o1 d (by simp), o1 e (by simp)⟩, o2⟩
      · exact o4 y hy
theorem tailF_print (ts : List Term) (h : okTs ts) : tailF ([32, 45, 62] ++ termsL ts) = some ts := by
  unfold tailF
  rw [lit_app, Option.bind_some]
  have := termsF_print ts [] rfl ((termsL ts).length + 1) h (by simp)
  rw [List.append_nil] at this
  rw [this]
  rfl
theorem tailF_some {l : By} {ts : List Term} (h : tailF l = some ts) : l = [32, 45, 62] ++ termsL ts ∧ okTs ts := by
  unfold tailF at h
  obtain ⟨r1, h1, h⟩ := Option.bind_eq_some_iff.1 h
  obtain ⟨⟨ts', r2⟩, h2, h⟩ := Option.bind_eq_some_iff.1 h
  simp only at h
  split at h
  · rename_i hr
    cases h
    obtain ⟨e1, _⟩ := lit_some h1
    obtain ⟨e2, o2, _⟩ := termsF_some h2
    exact ⟨by rw [e1, e2, hr]; simp, o2⟩
  · cases h
theorem bodyF_print (g : List (List Span)) (o : List Term) (hg : okGs g) (ho : okTs o) : bodyF (bodyL g o) = some (g, o) := by
  unfold bodyF bodyL
  rw [List.append_assoc, guardsF_print g _ (by rfl) _ hg (by omega), Option.bind_some]
  simp only
  rw [tailF_print o ho]
  rfl
theorem bodyF_some {l : By} {g : List (List Span)} {o : List Term} (h : bodyF l = some (g, o)) : l = bodyL g o ∧ okGs g ∧ okTs o := by
  unfold bodyF at h
  obtain ⟨⟨g', r⟩, h1, h⟩ := Option.bind_eq_some_iff.1 h
  obtain ⟨o', h2, h⟩ := Option.map_eq_some_iff.1 h
  cases h
  obtain ⟨e1, o1, _⟩ := guardsF_some h1
  obtain ⟨e2, o2⟩ := tailF_some h2
  exact ⟨by rw [e1, e2, bodyL]; simp, o1, o2⟩
theorem bodyL_noDig (g : List (List Span)) (o : List Term) : noDig (bodyL g o) := by
  unfold bodyL
  cases g with
  | nil => exact noDig_cons _ (by decide)
  | cons g gs => simp only [guardsL, List.append_assoc, List.cons_append]; exact noDig_cons _ (by decide)

def Rule.ok (r : Rule) : Prop := (I64 r.src ∧ I64 r.dst ∧ I64 r.eat) ∧ okGs r.guards ∧ okTs r.out
def Final.ok (r : Final) : Prop := I64 r.src ∧ okGs r.guards ∧ okTs r.out
def Desc.ok (d : Desc) : Prop := (I64 d.inn ∧ I64 d.out ∧ I64 d.states ∧ I64 d.start) ∧ (∀ r ∈ d.rules, r.ok) ∧ ∀ r ∈ d.finals, r.ok
theorem ruleF_print (r : Rule) (h : r.ok) : ruleF (numsFrom 0 [r.src, r.dst, r.eat] ++ bodyL r.guards r.out) = some r := by
  unfold ruleF
  have hall : allI [r.src, r.dst, r.eat] := by
    intro x hx
    simp at hx
    obtain ⟨⟨h1, h2, h3⟩, _⟩ := h
    rcases hx with rfl | rfl | rfl <;> assumption
  have := numsF_print [r.src, r.dst, r.eat] (bodyL r.guards r.out) (bodyL_noDig _ _) 0 hall
  rw [show (3 : Nat) = [r.src, r.dst, r.eat].length from rfl, this, Option.bind_some]
  simp only
  rw [bodyF_print _ _ h.2.1 h.2.2]
  rfl
theorem ruleF_some {l : By} {r : Rule} (h : ruleF l = some r) : l = numsFrom 0 [r.src, r.dst, r.eat] ++ bodyL r.guards r.out ∧ r.ok := by
  unfold ruleF at h
  obtain ⟨⟨n, r1⟩, h1, h⟩ := Option.bind_eq_some_iff.1 h
  obtain ⟨⟨g, o⟩, h2, h⟩ := Option.map_eq_some_iff.1 h
  obtain ⟨e1, o1, l1, _⟩ := numsF_some h1
  obtain ⟨e2, o2, o3⟩ := bodyF_some h2
  obtain ⟨a, b, c, rfl⟩ := list3 l1
  cases h
  exact ⟨by rw [e1, e2]; rfl, ⟨o1 a (by simp), o1 b (by simp), o1 c (by simp)⟩, o2, o3⟩
theorem finalF_print (r : Final) (h : r.ok) : finalF (numsFrom 0 [r.src] ++ bodyL r.guards r.out) = some r := by
  unfold finalF
  have e : numsFrom 0 [r.src] ++ bodyL r.guards r.out = Lib.itoa r.src ++ bodyL r.guards r.out := by simp [numsFrom, sepL]
  rw [e, numF_itoa r.src h.1 _ (bodyL_noDig _ _), Option.bind_some]
  simp only
  rw [bodyF_print _ _ h.2.1 h.2.2]
  rfl
theorem finalF_some {l : By} {r : Final} (h : finalF l = some r) : l = numsFrom 0 [r.src] ++ bodyL r.guards r.out ∧ r.ok := by
  unfold finalF at h
  obtain ⟨⟨n, r1⟩, h1, h⟩ := Option.bind_eq_some_iff.1 h
  obtain ⟨⟨g, o⟩, h2, h⟩ := Option.map_eq_some_iff.1 h
  obtain ⟨e1, o1, l1, _⟩ := numF_some h1
  obtain ⟨e2, o2, o3⟩ := bodyF_some h2
  cases h
  exact ⟨by rw [e1, e2]; simp [numsFrom, sepL], o1, o2, o3⟩
theorem headF_print (d : Desc) (h : I64 d.inn ∧ I64 d.out ∧ I64 d.states ∧ I64 d.start) : headF (headL d) = some ⟨d.inn, d.out, d.states, d.start, [], []⟩ := by
  unfold headF headL
  rw [lit_app, Option.bind_some]
  have hall : allI [d.inn, d.out, d.states, d.start] := by
    intro x hx
    simp at hx
    obtain ⟨h1, h2, h3, h4⟩ := h
    rcases hx with rfl | rfl | rfl | rfl <;> assumption
  have := numsF_print [d.inn, d.out, d.states, d.start] [] noDig_nil 0 hall
  rw [List.append_nil] at this
  rw [show (4 : Nat) = [d.inn, d.out, d.states, d.start].length from rfl, this]
  rfl
theorem headF_some {l : By} {d : Desc} (h : headF l = some d) : l = headL d ∧ d.ok ∧ d.rules = [] ∧ d.finals = [] := by
  unfold headF at h
  obtain ⟨l1, h1, h⟩ := Option.bind_eq_some_iff.1 h
  obtain ⟨⟨n, r⟩, h2, h⟩ := Option.bind_eq_some_iff.1 h
  simp only at h
  split at h
  · rename_i hr
    obtain ⟨e1, _⟩ := lit_some h1
    obtain ⟨e2, o2, l2, _⟩ := numsF_some h2
    obtain ⟨a, b, c, e, rfl⟩ := list4 l2
    cases h
    refine ⟨by rw [e1, e2, hr]; simp [headL, headOf], ⟨⟨o2 a (by simp), o2 b (by simp), o2 c (by simp), o2 e (by simp)⟩, ?_, ?_⟩, rfl, rfl⟩ <;> intro r hr <;> cases hr
  · cases h
end Go.Um
