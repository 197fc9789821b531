/-
  Sets of numbers as lists of spans: what two have in common, what one has alone. No program is named here.
-/
import Derived.Test.YtflllgbjlfpgcaaSpan
namespace Go.Um

/-- Go's max and min of two, as the walk writes them. -/
def mx (a b : Int) : Int := if a < b then b else a
def mn (a b : Int) : Int := if b < a then b else a

def meetGo : Nat → List Span → List Span → List Span
  | n + 1, x :: xs, y :: ys =>
    if mx x.lo y.lo ≤ mn x.hi y.hi then ⟨mx x.lo y.lo, mn x.hi y.hi⟩ :: (if x.hi < y.hi then meetGo n xs (y :: ys) else meetGo n (x :: xs) ys)
    else (if x.hi < y.hi then meetGo n xs (y :: ys) else meetGo n (x :: xs) ys)
  | _, _, _ => []
def meetF (a b : List Span) : List Span := meetGo ((normF a).length + (normF b).length) (normF a) (normF b)

theorem meetGo_nil_left (n : Nat) (ys : List Span) : meetGo n [] ys = [] := by cases n <;> rfl
theorem meetGo_nil_right (n : Nat) (xs : List Span) : meetGo n xs [] = [] := by cases n <;> cases xs <;> rfl

theorem meetGo_spec {n : Nat} {la lb : Int} {xs ys : List Span} (ha : plainFrom la xs = true) (hb : plainFrom lb ys = true) (hn : xs.length + ys.length ≤ n) :
    plainFrom (mx la lb) (meetGo n xs ys) = true ∧ ∀ z, mem (meetGo n xs ys) z ↔ mem xs z ∧ mem ys z := by
  induction n generalizing la lb xs ys with
  | zero =>
    have h1 : xs = [] := List.eq_nil_of_length_eq_zero (by omega)
    subst h1
    exact ⟨rfl, fun z => by simp [meetGo, mem]⟩
  | succ n ih =>
    cases xs with
    | nil => exact ⟨rfl, fun z => by simp [meetGo, mem]⟩
    | cons x xs =>
      cases ys with
      | nil => exact ⟨rfl, fun z => by simp [meetGo, mem]⟩
      | cons y ys =>
        obtain ⟨a1, a2⟩ := plainFrom_cons.1 ha
        obtain ⟨b1, b2⟩ := plainFrom_cons.1 hb
        have hrest : plainFrom (mx (mx la lb) (mn x.hi y.hi)) (if x.hi < y.hi then meetGo n xs (y :: ys) else meetGo n (x :: xs) ys) = true ∧
            ∀ z, mem (if x.hi < y.hi then meetGo n xs (y :: ys) else meetGo n (x :: xs) ys) z ↔ (mem (x :: xs) z ∧ mem (y :: ys) z) ∧ ¬ (mx x.lo y.lo ≤ z ∧ z ≤ mn x.hi y.hi) := by
          by_cases hc : x.hi < y.hi
          · simp only [hc, if_true]
            obtain ⟨i1, i2⟩ := ih a2 hb (by simp at hn ⊢; omega)
            refine ⟨plainFrom_mono i1 (by unfold mx mn; split <;> split <;> split <;> (try split) <;> omega), fun z => ?_⟩
            rw [i2, mem_cons (s := x)]
            constructor
            · rintro ⟨h1, h2⟩
              have := plainFrom_bound a2 h1
              exact ⟨⟨.inr h1, h2⟩, by unfold mn; split <;> omega⟩
            · rintro ⟨⟨h1 | h1, h2⟩, h3⟩
              · exfalso
                rcases mem_cons.1 h2 with h4 | h4
                · apply h3; unfold mx mn; split <;> split <;> omega
                · have := plainFrom_bound b2 h4; omega
              · exact ⟨h1, h2⟩
          · simp only [hc, if_false]
            obtain ⟨i1, i2⟩ := ih ha b2 (by simp at hn ⊢; omega)
            refine ⟨plainFrom_mono i1 (by unfold mx mn; split <;> split <;> split <;> (try split) <;> omega), fun z => ?_⟩
            rw [i2, mem_cons (s := y)]
            constructor
            · rintro ⟨h1, h2⟩
              have := plainFrom_bound b2 h2
              exact ⟨⟨h1, .inr h2⟩, by unfold mn; split <;> omega⟩
            · rintro ⟨⟨h1, h2 | h2⟩, h3⟩
              · exfalso
                rcases mem_cons.1 h1 with h4 | h4
                · apply h3; unfold mx mn; split <;> split <;> omega
                · have := plainFrom_bound a2 h4; omega
              · exact ⟨h1, h2⟩
        obtain ⟨r1, r2⟩ := hrest
        have e : meetGo (n + 1) (x :: xs) (y :: ys) = if mx x.lo y.lo ≤ mn x.hi y.hi then ⟨mx x.lo y.lo, mn x.hi y.hi⟩ :: (if x.hi < y.hi then meetGo n xs (y :: ys) else meetGo n (x :: xs) ys)
          else (if x.hi < y.hi then meetGo n xs (y :: ys) else meetGo n (x :: xs) ys) := rfl
        rw [e]
        by_cases hc : mx x.lo y.lo ≤ mn x.hi y.hi
        · simp only [if_pos hc]
          refine ⟨plainFrom_cons.2 ⟨⟨hc, ?_, ?_, ?_⟩, plainFrom_mono r1 ?_⟩, fun z => ?_⟩
          · show -1073741824 ≤ mx x.lo y.lo
            unfold mx; split <;> omega
          · show mn x.hi y.hi ≤ 1073741824
            unfold mn; split <;> omega
          · show mx la lb + 1 < mx x.lo y.lo
            unfold mx; split <;> split <;> omega
          · show mn x.hi y.hi ≤ mx (mx la lb) (mn x.hi y.hi)
            generalize mx la lb = p
            unfold mx; split <;> omega
          · rw [mem_cons, r2]
            constructor
            · rintro (h1 | h1)
              · simp only at h1
                refine ⟨mem_cons.2 (.inl ?_), mem_cons.2 (.inl ?_)⟩ <;> (unfold mx mn at h1; split at h1 <;> split at h1 <;> omega)
              · exact h1.1
            · intro h1
              by_cases h2 : mx x.lo y.lo ≤ z ∧ z ≤ mn x.hi y.hi
              · exact .inl h2
              · exact .inr ⟨h1, h2⟩
        · simp only [if_neg hc]
          refine ⟨plainFrom_mono r1 (by generalize mx la lb = p; unfold mx; split <;> omega), fun z => ?_⟩
          rw [r2]
          constructor
          · exact fun h => h.1
          · exact fun h => ⟨h, by omega⟩

theorem meetF_plain (a b : List Span) : plain (meetF a b) = true :=
  plainFrom_mono (meetGo_spec (normF_plain a) (normF_plain b) (Nat.le_refl _)).1 (by decide)
theorem mem_meetF {a b : List Span} {z : Int} : mem (meetF a b) z ↔ inSet a z ∧ inSet b z := by
  rw [meetF, (meetGo_spec (normF_plain a) (normF_plain b) (Nat.le_refl _)).2, mem_normF, mem_normF]

theorem inSet_plain {l : List Span} (h : plain l = true) {z : Int} : inSet l z ↔ mem l z := by
  constructor
  · exact fun h => h.2
  · intro hz
    have := plainFrom_bound h hz
    exact ⟨⟨this.2.1, this.2.2⟩, hz⟩
theorem normF_id {l : List Span} (h : plain l = true) : normF l = l := plain_unique (normF_plain l) h fun x => by rw [mem_normF, inSet_plain h]
theorem plain_nil_iff {l : List Span} (h : plain l = true) : l = [] ↔ ∀ z, ¬ mem l z := by
  constructor
  · rintro rfl z; exact mem_nil
  · intro h'
    cases l with
    | nil => rfl
    | cons s r => exact absurd (mem_cons.2 (.inl ⟨Int.le_refl _, (plainFrom_cons.1 h).1.1⟩)) (h' s.lo)

/-- what Minus lays between the spans of the one that is taken away. -/
def gaps (lo : Int) : List Span → List Span
  | [] => [⟨lo, 1073741824⟩]
  | x :: r => ⟨lo, x.lo - 1⟩ :: gaps (x.hi + 1) r
def minusF (a b : List Span) : List Span := meetF a (gaps (-1073741824) (normF b))
theorem mem_gaps {lo : Int} {l : List Span} (h : plainFrom (lo - 2) l = true) {z : Int} (hz : z ≤ 1073741824) : mem (gaps lo l) z ↔ lo ≤ z ∧ ¬ mem l z := by
  induction l generalizing lo with
  | nil => simp [gaps, mem]; omega
  | cons x r ih =>
    obtain ⟨h1, h2⟩ := plainFrom_cons.1 h
    have h2' : plainFrom (x.hi + 1 - 2) r = true := plainFrom_mono h2 (by omega)
    show mem (⟨lo, x.lo - 1⟩ :: gaps (x.hi + 1) r) z ↔ _
    rw [mem_cons, mem_cons, ih h2']
    simp only
    constructor
    · rintro (h3 | h3)
      · refine ⟨h3.1, ?_⟩
        rintro (h4 | h4)
        · omega
        · have := plainFrom_bound h2 h4; omega
      · refine ⟨by omega, ?_⟩
        rintro (h4 | h4)
        · omega
        · exact h3.2 h4
    · rintro ⟨h3, h4⟩
      by_cases h5 : z < x.lo
      · exact .inl (by omega)
      · refine .inr ⟨?_, fun h6 => h4 (.inr h6)⟩
        by_cases h6 : z ≤ x.hi
        · exact absurd (.inl ⟨by omega, h6⟩) h4
        · omega
theorem minusF_plain (a b : List Span) : plain (minusF a b) = true := meetF_plain _ _
theorem mem_minusF {a b : List Span} {z : Int} : mem (minusF a b) z ↔ inSet a z ∧ ¬ inSet b z := by
  rw [minusF, mem_meetF]
  have h0 : plainFrom (-1073741824 - 2) (normF b) = true := normF_plain b
  constructor
  · rintro ⟨h1, h2⟩
    refine ⟨h1, fun h3 => ?_⟩
    exact ((mem_gaps h0 h2.1.2).1 h2.2).2 (mem_normF.2 h3)
  · rintro ⟨h1, h2⟩
    exact ⟨h1, h1.1, (mem_gaps h0 h1.1.2).2 ⟨h1.1.1, fun h3 => h2 (mem_normF.1 h3)⟩⟩
theorem joinStep_length (out : List Span) (x : Span) : (joinStep out x).length ≤ out.length + 1 := by
  unfold joinStep
  split
  · split
    · rename_i h _; obtain ⟨ini, rfl⟩ := List.getLast?_eq_some_iff.1 h; simp
    · simp
  · simp
theorem joinL_length (out r : List Span) : (joinL out r).length ≤ out.length + r.length := by
  induction r generalizing out with
  | nil => simp [joinL]
  | cons x r ih =>
    have h1 := ih (joinStep out x)
    have h2 := joinStep_length out x
    simp only [joinL, List.length_cons]
    omega
theorem normF_length (l : List Span) : (normF l).length ≤ l.length := by
  have h1 := joinL_length [] (sortLo (clampL l))
  have h2 := (sortLo_perm (clampL l)).length_eq
  have h3 : (clampL l).length ≤ l.length := List.length_filterMap_le _ _
  unfold normF
  simp only [List.length_nil] at h1
  omega
theorem meetGo_length (n : Nat) (xs ys : List Span) : (meetGo n xs ys).length ≤ n := by
  induction n generalizing xs ys with
  | zero => simp [meetGo]
  | succ n ih =>
    cases xs with
    | nil => simp [meetGo]
    | cons x xs =>
      cases ys with
      | nil => simp [meetGo]
      | cons y ys =>
        have h1 := ih xs (y :: ys)
        have h2 := ih (x :: xs) ys
        simp only [meetGo]
        split <;> split <;> (try simp only [List.length_cons]) <;> omega
theorem meetF_length (a b : List Span) : (meetF a b).length ≤ a.length + b.length := by
  have h1 := meetGo_length ((normF a).length + (normF b).length) (normF a) (normF b)
  have h2 := normF_length a
  have h3 := normF_length b
  unfold meetF
  omega
theorem meet_yes_left {p q : Span} {ps qs : List Span} (h : mx p.lo q.lo ≤ mn p.hi q.hi) (h' : p.hi < q.hi) : meetGo ((p :: ps).length + (q :: qs).length) (p :: ps) (q :: qs) = ⟨mx p.lo q.lo, mn p.hi q.hi⟩ :: meetGo (ps.length + (q :: qs).length) ps (q :: qs) := by
  rw [show (p :: ps).length + (q :: qs).length = (ps.length + (q :: qs).length) + 1 by simp only [List.length_cons]; omega]
  simp only [meetGo, if_pos h, if_pos h']
theorem meet_yes_right {p q : Span} {ps qs : List Span} (h : mx p.lo q.lo ≤ mn p.hi q.hi) (h' : ¬ p.hi < q.hi) : meetGo ((p :: ps).length + (q :: qs).length) (p :: ps) (q :: qs) = ⟨mx p.lo q.lo, mn p.hi q.hi⟩ :: meetGo ((p :: ps).length + qs.length) (p :: ps) qs := by
  rw [show (p :: ps).length + (q :: qs).length = ((p :: ps).length + qs.length) + 1 by simp only [List.length_cons]; omega]
  simp only [meetGo, if_pos h, if_neg h']
theorem meet_no_left {p q : Span} {ps qs : List Span} (h : ¬ mx p.lo q.lo ≤ mn p.hi q.hi) (h' : p.hi < q.hi) : meetGo ((p :: ps).length + (q :: qs).length) (p :: ps) (q :: qs) = meetGo (ps.length + (q :: qs).length) ps (q :: qs) := by
  rw [show (p :: ps).length + (q :: qs).length = (ps.length + (q :: qs).length) + 1 by simp only [List.length_cons]; omega]
  simp only [meetGo, if_neg h, if_pos h']
theorem meet_no_right {p q : Span} {ps qs : List Span} (h : ¬ mx p.lo q.lo ≤ mn p.hi q.hi) (h' : ¬ p.hi < q.hi) : meetGo ((p :: ps).length + (q :: qs).length) (p :: ps) (q :: qs) = meetGo ((p :: ps).length + qs.length) (p :: ps) qs := by
  rw [show (p :: ps).length + (q :: qs).length = ((p :: ps).length + qs.length) + 1 by simp only [List.length_cons]; omega]
  simp only [meetGo, if_neg h, if_neg h']
theorem mx_ok {a b : Int} (ha : I64 a) (hb : I64 b) : I64 (mx a b) := by unfold mx; split <;> assumption
theorem mn_ok {a b : Int} (ha : I64 a) (hb : I64 b) : I64 (mn a b) := by unfold mn; split <;> assumption
theorem minusF_nil {a b : List Span} : minusF a b = [] ↔ ∀ z, inSet a z → inSet b z := by
  rw [plain_nil_iff (minusF_plain a b)]
  constructor
  · intro h z hz
    by_cases hb : inSet b z
    · exact hb
    · exact absurd (mem_minusF.2 ⟨hz, hb⟩) (h z)
  · intro h z hz
    exact (mem_minusF.1 hz).2 (h z (mem_minusF.1 hz).1)
theorem meetF_nil {a b : List Span} : meetF a b = [] ↔ ∀ z, ¬ (inSet a z ∧ inSet b z) := by
  rw [plain_nil_iff (meetF_plain a b)]
  constructor
  · exact fun h z hz => h z (mem_meetF.2 hz)
  · exact fun h z hz => h z (mem_meetF.1 hz)
end Go.Um
