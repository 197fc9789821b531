/-
  Sets of numbers as lists of spans: the plain list of a set is unlike that of any other set. No program is named here.
-/
import Derived.Test.YtflllgbjlfpgcaaMem
namespace Go.Um

/-- the greatest number of a set. -/
def topN : Int := 1073741824
theorem topN_eq : topN = 1073741824 := rfl

def Span.has (s : Span) (x : Int) : Prop := s.lo ≤ x ∧ x ≤ s.hi
def mem (l : List Span) (x : Int) : Prop := ∃ s ∈ l, s.lo ≤ x ∧ x ≤ s.hi
/-- mem, within the numbers. -/
def inSet (l : List Span) (x : Int) : Prop := (-1073741824 ≤ x ∧ x ≤ 1073741824) ∧ mem l x
def hasB (l : List Span) (x : Int) : Bool := l.any fun s => decide (s.lo ≤ x) && decide (x ≤ s.hi)
theorem hasB_iff (l : List Span) (x : Int) : hasB l x = true ↔ mem l x := by
  simp [hasB, mem]

/-- span.Check's loop. -/
def plainFrom (last : Int) : List Span → Bool
  | [] => true
  | s :: r => if s.hi < s.lo ∨ s.lo < -1073741824 ∨ 1073741824 < s.hi ∨ s.lo ≤ last + 1 then false else plainFrom s.hi r
def plain (l : List Span) : Bool := plainFrom (-1073741826) l

theorem plainFrom_cons {last : Int} {s : Span} {r : List Span} : plainFrom last (s :: r) = true ↔ (s.lo ≤ s.hi ∧ -1073741824 ≤ s.lo ∧ s.hi ≤ 1073741824 ∧ last + 1 < s.lo) ∧ plainFrom s.hi r = true := by
  show (if s.hi < s.lo ∨ s.lo < -1073741824 ∨ 1073741824 < s.hi ∨ s.lo ≤ last + 1 then false else plainFrom s.hi r) = true ↔ _
  by_cases h : s.hi < s.lo ∨ s.lo < -1073741824 ∨ 1073741824 < s.hi ∨ s.lo ≤ last + 1
  · simp only [h, if_true]
    constructor
    · intro h'; cases h'
    · rintro ⟨h', _⟩; omega
  · simp only [h, if_false]
    constructor
    · intro h'; exact ⟨by omega, h'⟩
    · intro h'; exact h'.2

theorem mem_cons {s : Span} {r : List Span} {x : Int} : mem (s :: r) x ↔ (s.lo ≤ x ∧ x ≤ s.hi) ∨ mem r x := by simp [mem]
theorem mem_nil {x : Int} : ¬ mem [] x := by simp [mem]
theorem mem_append {a b : List Span} {x : Int} : mem (a ++ b) x ↔ mem a x ∨ mem b x := by
  simp only [mem, List.mem_append]
  constructor
  · rintro ⟨s, h | h, h'⟩
    · exact .inl ⟨s, h, h'⟩
    · exact .inr ⟨s, h, h'⟩
  · rintro (⟨s, h, h'⟩ | ⟨s, h, h'⟩)
    · exact ⟨s, .inl h, h'⟩
    · exact ⟨s, .inr h, h'⟩

theorem plainFrom_bound {last : Int} {l : List Span} (h : plainFrom last l = true) {x : Int} (hx : mem l x) : last + 1 < x ∧ -1073741824 ≤ x ∧ x ≤ 1073741824 := by
  induction l generalizing last with
  | nil => exact absurd hx mem_nil
  | cons s r ih =>
    obtain ⟨h1, h2⟩ := plainFrom_cons.1 h
    rcases mem_cons.1 hx with h3 | h3
    · omega
    · have := ih h2 h3; omega
theorem plainFrom_mono {last last' : Int} {l : List Span} (h : plainFrom last l = true) (hl : last' ≤ last) : plainFrom last' l = true := by
  cases l with
  | nil => rfl
  | cons s r =>
    obtain ⟨h1, h2⟩ := plainFrom_cons.1 h
    exact plainFrom_cons.2 ⟨by omega, h2⟩

/-- Of each set there is one plain list. -/
theorem plainFrom_unique {la lb : Int} {a b : List Span} (ha : plainFrom la a = true) (hb : plainFrom lb b = true) (h : ∀ x, mem a x ↔ mem b x) : a = b := by
  induction a generalizing la lb b with
  | nil =>
    cases b with
    | nil => rfl
    | cons t u =>
      obtain ⟨h1, _⟩ := plainFrom_cons.1 hb
      exact absurd ((h t.lo).2 (mem_cons.2 (.inl ⟨Int.le_refl _, h1.1⟩))) mem_nil
  | cons s r ih =>
    obtain ⟨a1, a2⟩ := plainFrom_cons.1 ha
    cases b with
    | nil => exact absurd ((h s.lo).1 (mem_cons.2 (.inl ⟨Int.le_refl _, a1.1⟩))) mem_nil
    | cons t u =>
      obtain ⟨b1, b2⟩ := plainFrom_cons.1 hb
      have lo1 : t.lo ≤ s.lo := by
        rcases mem_cons.1 ((h s.lo).1 (mem_cons.2 (.inl ⟨Int.le_refl _, a1.1⟩))) with h3 | h3
        · exact h3.1
        · have := plainFrom_bound b2 h3; omega
      have lo2 : s.lo ≤ t.lo := by
        rcases mem_cons.1 ((h t.lo).2 (mem_cons.2 (.inl ⟨Int.le_refl _, b1.1⟩))) with h3 | h3
        · exact h3.1
        · have := plainFrom_bound a2 h3; omega
      have hi1 : t.hi ≤ s.hi := by
        by_cases hh : t.hi ≤ s.hi
        · exact hh
        · exfalso
          rcases mem_cons.1 ((h (s.hi + 1)).2 (mem_cons.2 (.inl ⟨by omega, by omega⟩))) with h3 | h3
          · omega
          · have := plainFrom_bound a2 h3; omega
      have hi2 : s.hi ≤ t.hi := by
        by_cases hh : s.hi ≤ t.hi
        · exact hh
        · exfalso
          rcases mem_cons.1 ((h (t.hi + 1)).1 (mem_cons.2 (.inl ⟨by omega, by omega⟩))) with h3 | h3
          · omega
          · have := plainFrom_bound b2 h3; omega
      obtain ⟨slo, shi⟩ := s
      obtain ⟨tlo, thi⟩ := t
      simp only at *
      obtain rfl : slo = tlo := by omega
      obtain rfl : shi = thi := by omega
      congr 1
      refine ih a2 b2 fun x => ⟨fun hx => ?_, fun hx => ?_⟩
      · have := plainFrom_bound a2 hx
        rcases mem_cons.1 ((h x).1 (mem_cons.2 (.inr hx))) with h3 | h3
        · simp only at h3; omega
        · exact h3
      · have := plainFrom_bound b2 hx
        rcases mem_cons.1 ((h x).2 (mem_cons.2 (.inr hx))) with h3 | h3
        · simp only at h3; omega
        · exact h3
theorem plain_unique {a b : List Span} (ha : plain a = true) (hb : plain b = true) (h : ∀ x, mem a x ↔ mem b x) : a = b := plainFrom_unique ha hb h

def okS (s : Span) : Prop := s.lo ≤ s.hi ∧ -1073741824 ≤ s.lo ∧ s.hi ≤ 1073741824
theorem plainFrom_ok {last : Int} {l : List Span} (h : plainFrom last l = true) : ∀ s ∈ l, okS s := by
  induction l generalizing last with
  | nil => intro s hs; cases hs
  | cons a b ih =>
    obtain ⟨k1, k2⟩ := plainFrom_cons.1 h
    intro s hs
    rcases List.mem_cons.1 hs with rfl | hs
    · exact ⟨k1.1, k1.2.1, k1.2.2.1⟩
    · exact ih k2 s hs

/-! ### Norm -/
/-- a span within the numbers; none, if it has nothing there. -/
def clampS (s : Span) : Option Span := if max s.lo (-1073741824) ≤ min s.hi 1073741824 then some ⟨max s.lo (-1073741824), min s.hi 1073741824⟩ else none
def clampL (l : List Span) : List Span := l.filterMap clampS
/-- one step of Norm's last loop: the last one grows, or one more stands behind. -/
def joinStep (out : List Span) (x : Span) : List Span :=
  match out.getLast? with
  | some t => if x.lo ≤ t.hi + 1 then out.dropLast ++ [⟨t.lo, max t.hi x.hi⟩] else out ++ [x]
  | none => out ++ [x]
def joinL (out : List Span) : List Span → List Span
  | [] => out
  | x :: r => joinL (joinStep out x) r
def insertLo (x : Span) : List Span → List Span
  | [] => [x]
  | y :: r => if x.lo ≤ y.lo then x :: y :: r else y :: insertLo x r
def sortLo : List Span → List Span
  | [] => []
  | x :: r => insertLo x (sortLo r)
/-- the plain list of a set. -/
def normF (l : List Span) : List Span := joinL [] (sortLo (clampL l))

theorem mem_clampL {l : List Span} {x : Int} : mem (clampL l) x ↔ inSet l x := by
  induction l with
  | nil => simp [clampL, mem, inSet]
  | cons s r ih =>
    have e : clampL (s :: r) = (match clampS s with | some t => [t] | none => []) ++ clampL r := by
      unfold clampL
      rw [List.filterMap_cons]
      cases clampS s <;> rfl
    rw [e, mem_append, ih]
    unfold inSet
    rw [mem_cons]
    unfold clampS
    split
    · rename_i t ht
      split at ht
      · cases ht
        simp only [mem_cons, mem_nil, or_false]
        by_cases hm : mem r x <;> simp only [hm, or_true, or_false, and_true, and_false] <;> omega
      · cases ht
    · rename_i ht
      split at ht
      · cases ht
      · simp only [mem_nil, false_or]
        by_cases hm : mem r x <;> simp only [hm, or_true, or_false, and_true, and_false, iff_self, false_iff] <;> omega

theorem clampL_ok {l : List Span} : ∀ s ∈ clampL l, okS s := by
  intro s hs
  simp only [clampL, List.mem_filterMap] at hs
  obtain ⟨t, _, ht⟩ := hs
  unfold clampS at ht
  split at ht
  · cases ht
    unfold okS
    simp only
    omega
  · cases ht

theorem mem_perm {a b : List Span} (h : a.Perm b) {x : Int} : mem a x ↔ mem b x := by
  simp only [mem, h.mem_iff]

theorem insertLo_perm (x : Span) (l : List Span) : (insertLo x l).Perm (x :: l) := by
  induction l with
  | nil => exact .refl _
  | cons y r ih =>
    unfold insertLo
    split
    · exact .refl _
    · exact (ih.cons y).trans (.swap x y r)
theorem sortLo_perm (l : List Span) : (sortLo l).Perm l := by
  induction l with
  | nil => exact .refl _
  | cons x r ih => exact (insertLo_perm x _).trans (ih.cons x)
def SortedLo (l : List Span) : Prop := l.Pairwise fun a b => a.lo ≤ b.lo
theorem insertLo_sorted {x : Span} {l : List Span} (h : SortedLo l) : SortedLo (insertLo x l) := by
  induction l with
  | nil => simp [insertLo, SortedLo]
  | cons y r ih =>
    unfold insertLo
    have h' := List.pairwise_cons.1 h
    split
    · refine List.pairwise_cons.2 ⟨fun z hz => ?_, h⟩
      rcases List.mem_cons.1 hz with rfl | hz
      · assumption
      · have := h'.1 z hz; omega
    · refine List.pairwise_cons.2 ⟨fun z hz => ?_, ih h'.2⟩
      rcases List.mem_cons.1 ((insertLo_perm x r).mem_iff.1 hz) with rfl | hz
      · omega
      · exact h'.1 z hz
theorem sortLo_sorted (l : List Span) : SortedLo (sortLo l) := by
  induction l with
  | nil => exact .nil
  | cons x r ih => exact insertLo_sorted ih

/-- what Norm's last loop keeps: out is plain, and no later one begins ahead of where its last one does. -/
theorem plainFrom_snoc {last : Int} {out : List Span} {x : Span} (h : plainFrom last out = true) (hx : okS x) (hl : last + 1 < x.lo) (hg : ∀ t, out.getLast? = some t → t.hi + 1 < x.lo) : plainFrom last (out ++ [x]) = true := by
  induction out generalizing last with
  | nil => unfold okS at hx; exact plainFrom_cons.2 ⟨by omega, rfl⟩
  | cons s r ih =>
    obtain ⟨h1, h2⟩ := plainFrom_cons.1 h
    refine plainFrom_cons.2 ⟨h1, ?_⟩
    cases r with
    | nil => exact ih h2 (hg s rfl) (by simp)
    | cons t u =>
      refine ih h2 ?_ (fun t' ht' => hg t' (by simpa [List.getLast?_cons_cons] using ht'))
      cases hq : (t :: u).getLast? with
      | none => simp at hq
      | some q =>
        have h3 := hg q (by simpa [List.getLast?_cons_cons] using hq)
        have hm : mem (t :: u) q.hi := by
          have hin := List.mem_of_getLast? hq
          refine ⟨q, hin, ?_, Int.le_refl _⟩
          have hq' : okS q := plainFrom_ok h2 q hin
          exact hq'.1
        have := plainFrom_bound h2 hm
        omega
theorem plainFrom_grow {last : Int} {out : List Span} {t : Span} {hi : Int} (h : plainFrom last (out ++ [t]) = true) (h1 : t.hi ≤ hi) (h2 : hi ≤ 1073741824) : plainFrom last (out ++ [⟨t.lo, hi⟩]) = true := by
  induction out generalizing last with
  | nil =>
    obtain ⟨k1, _⟩ := plainFrom_cons.1 h
    exact plainFrom_cons.2 ⟨⟨by simp only; omega, by simp only; omega, by simp only; omega, by simp only; omega⟩, rfl⟩
  | cons s r ih =>
    obtain ⟨k1, k2⟩ := plainFrom_cons.1 h
    exact plainFrom_cons.2 ⟨k1, ih k2⟩

theorem joinStep_spec {out : List Span} {x : Span} (h : plain out = true) (hx : okS x) (hlo : ∀ t, out.getLast? = some t → t.lo ≤ x.lo) :
    plain (joinStep out x) = true ∧ (∀ y, mem (joinStep out x) y ↔ mem out y ∨ (x.lo ≤ y ∧ y ≤ x.hi)) ∧ (∀ t, (joinStep out x).getLast? = some t → t.lo ≤ x.lo) := by
  unfold joinStep
  cases hq : out.getLast? with
  | none =>
    have : out = [] := by simpa using hq
    subst this
    simp only [List.nil_append]
    refine ⟨?_, fun y => ?_, fun t ht => ?_⟩
    · unfold okS at hx
      exact plainFrom_cons.2 ⟨by omega, rfl⟩
    · simp [mem]
    · simp at ht; subst ht; exact Int.le_refl _
  | some t =>
    have hlt := hlo t hq
    obtain ⟨ini, rfl⟩ := List.getLast?_eq_some_iff.1 hq
    have hot : okS t := plainFrom_ok h t (by simp)
    simp only [List.dropLast_concat]
    split
    · rename_i hc
      refine ⟨plainFrom_grow h (by omega) ?_, fun y => ?_, fun t' ht' => ?_⟩
      · unfold okS at hx
        have : t.hi ≤ 1073741824 := hot.2.2
        omega
      · have htt : t.lo ≤ t.hi := hot.1
        unfold okS at hx
        simp only [mem_append, mem_cons, mem_nil, or_false, or_assoc]
        constructor
        · rintro (h1 | h1)
          · exact .inl h1
          · omega
        · rintro (h1 | h1)
          · exact .inl h1
          · right; omega
      · simp at ht'; subst ht'; exact hlt
    · rename_i hc
      refine ⟨?_, fun y => ?_, fun t' ht' => ?_⟩
      · refine plainFrom_snoc h hx ?_ (fun t' ht' => ?_)
        · unfold okS at hx; omega
        · rw [hq] at ht'; cases ht'; omega
      · simp only [mem_append, mem_cons, mem_nil, or_false]
      · simp at ht'; subst ht'; exact Int.le_refl _

theorem joinL_spec {r out : List Span} (h : plain out = true) (hr : ∀ s ∈ r, okS s) (hs : SortedLo r) (hlo : ∀ t, out.getLast? = some t → ∀ s ∈ r, t.lo ≤ s.lo) :
    plain (joinL out r) = true ∧ ∀ y, mem (joinL out r) y ↔ mem out y ∨ mem r y := by
  induction r generalizing out with
  | nil => exact ⟨h, fun y => by simp [joinL, mem_nil]⟩
  | cons x r ih =>
    have hp := List.pairwise_cons.1 hs
    obtain ⟨s1, s2, s3⟩ := joinStep_spec h (hr x (List.mem_cons_self ..)) (fun t ht => hlo t ht x (List.mem_cons_self ..))
    obtain ⟨i1, i2⟩ := ih s1 (fun s hs => hr s (List.mem_cons_of_mem _ hs)) hp.2 (fun t ht s hs => by have := s3 t ht; have := hp.1 s hs; omega)
    refine ⟨i1, fun y => ?_⟩
    show mem (joinL (joinStep out x) r) y ↔ _
    rw [i2, s2, mem_cons, or_assoc]

/-- whatever order the sort gives: the plain list of the same set. -/
theorem joinL_perm {l m : List Span} (hp : m.Perm (clampL l)) (hs : SortedLo m) : plain (joinL [] m) = true ∧ ∀ y, mem (joinL [] m) y ↔ inSet l y := by
  obtain ⟨h1, h2⟩ := joinL_spec (r := m) (out := []) rfl (fun s h => clampL_ok s (hp.mem_iff.1 h)) hs (by simp)
  refine ⟨h1, fun y => ?_⟩
  rw [h2, mem_perm hp, mem_clampL]
  simp [mem_nil]
theorem normF_plain (l : List Span) : plain (normF l) = true := (joinL_perm (sortLo_perm _) (sortLo_sorted _)).1
theorem mem_normF {l : List Span} {y : Int} : mem (normF l) y ↔ inSet l y := (joinL_perm (sortLo_perm _) (sortLo_sorted _)).2 y
theorem joinL_eq {l m : List Span} (hp : m.Perm (clampL l)) (hs : SortedLo m) : joinL [] m = normF l :=
  plain_unique (joinL_perm hp hs).1 (normF_plain l) fun y => by rw [(joinL_perm hp hs).2, mem_normF]
end Go.Um
