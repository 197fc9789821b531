/-
  Terms as plain arithmetic: the inner values of all windows. No program is named here. A term's values of all windows, by lists of spans: all are in a set just if each window's value is. No program is named here.
-/
import Derived.Test.YtofcjmjokokajaaGreatQp
namespace Go.Um
/-! ### Sums of two sets -/
def addS (x y : Span) : Span := ⟨x.lo + y.lo, x.hi + y.hi⟩
def plusStep (b : List Span) (out : List Span) (x : Span) : List Span :=
  if 65536 < (out ++ b.map (addS x)).length then normF (out ++ b.map (addS x)) else out ++ b.map (addS x)
def plusF (a b : List Span) : List Span := normF (a.foldl (plusStep b) [])
theorem mem_mapAdd {x : Span} {b : List Span} (hx : x.lo ≤ x.hi) (hb : neL b) {z : Int} : mem (b.map (addS x)) z ↔ ∃ u v, (x.lo ≤ u ∧ u ≤ x.hi) ∧ mem b v ∧ z = u + v := by
  constructor
  · rintro ⟨s, hs, h1, h2⟩
    obtain ⟨y, hy, rfl⟩ := List.mem_map.1 hs
    have := hb y hy
    simp only [addS] at h1 h2
    by_cases h : z - y.lo ≤ x.hi
    · exact ⟨z - y.lo, y.lo, ⟨by omega, h⟩, ⟨y, hy, Int.le_refl _, this⟩, by omega⟩
    · exact ⟨x.hi, z - x.hi, ⟨hx, Int.le_refl _⟩, ⟨y, hy, by omega, by omega⟩, by omega⟩
  · rintro ⟨u, v, h1, ⟨y, hy, h2⟩, rfl⟩
    exact ⟨addS x y, List.mem_map.2 ⟨y, hy, rfl⟩, by simp only [addS]; omega, by simp only [addS]; omega⟩
def inB (n : Int) (l : List Span) : Prop := ∀ s ∈ l, -n ≤ s.lo ∧ s.hi ≤ n
theorem inB_mem {n : Int} {l : List Span} (h : inB n l) {z : Int} (hz : mem l z) : -n ≤ z ∧ z ≤ n := by
  obtain ⟨s, hs, h1⟩ := hz
  have := h s hs
  omega
theorem mem_inB {n : Int} {l : List Span} (hne : neL l) (h : ∀ z, mem l z → -n ≤ z ∧ z ≤ n) : inB n l := fun s hs =>
  ⟨(h s.lo ⟨s, hs, Int.le_refl _, hne s hs⟩).1, (h s.hi ⟨s, hs, hne s hs, Int.le_refl _⟩).2⟩
theorem normF_ne (l : List Span) : neL (normF l) := fun s hs => (plainFrom_ok (normF_plain l) s hs).1
theorem plain_ne {l : List Span} (h : plain l = true) : neL l := fun s hs => (plainFrom_ok h s hs).1
theorem inSet_inB {l : List Span} (h : inB 1073741824 l) {z : Int} : inSet l z ↔ mem l z := ⟨fun h => h.2, fun hz => ⟨inB_mem h hz, hz⟩⟩
theorem plusStep_spec {b out : List Span} {x : Span} {n m : Int} (hb : neL b) (ho : neL out) (hx : x.lo ≤ x.hi) (hbn : inB m b) (hxn : -n ≤ x.lo ∧ x.hi ≤ n) (hon : inB (n + m) out) (hnm : n + m ≤ 1073741824) :
    neL (plusStep b out x) ∧ inB (n + m) (plusStep b out x) ∧ ∀ z, mem (plusStep b out x) z ↔ mem out z ∨ ∃ u v, (x.lo ≤ u ∧ u ≤ x.hi) ∧ mem b v ∧ z = u + v := by
  have h1 : neL (out ++ b.map (addS x)) := by
    intro s hs
    rcases List.mem_append.1 hs with hs | hs
    · exact ho s hs
    · obtain ⟨y, hy, rfl⟩ := List.mem_map.1 hs
      have := hb y hy
      simp only [addS]; omega
  have h2 : inB (n + m) (out ++ b.map (addS x)) := by
    intro s hs
    rcases List.mem_append.1 hs with hs | hs
    · exact hon s hs
    · obtain ⟨y, hy, rfl⟩ := List.mem_map.1 hs
      have := hbn y hy
      simp only [addS]; omega
  have h3 : ∀ z, mem (out ++ b.map (addS x)) z ↔ mem out z ∨ ∃ u v, (x.lo ≤ u ∧ u ≤ x.hi) ∧ mem b v ∧ z = u + v := fun z => by rw [mem_append, mem_mapAdd hx hb]
  unfold plusStep
  split
  · have h4 : ∀ z, mem (normF (out ++ b.map (addS x))) z ↔ mem (out ++ b.map (addS x)) z := fun z => by
      rw [mem_normF, inSet_inB (fun s hs => by have := h2 s hs; omega)]
    exact ⟨normF_ne _, mem_inB (normF_ne _) fun z hz => inB_mem h2 ((h4 z).1 hz), fun z => by rw [h4, h3]⟩
  · exact ⟨h1, h2, h3⟩
theorem plusFold_spec {b : List Span} {n m : Int} (hb : neL b) (hbn : inB m b) (hnm : n + m ≤ 1073741824) {a : List Span} : ∀ {out : List Span}, neL a → inB n a → neL out → inB (n + m) out →
    neL (a.foldl (plusStep b) out) ∧ inB (n + m) (a.foldl (plusStep b) out) ∧ ∀ z, mem (a.foldl (plusStep b) out) z ↔ mem out z ∨ ∃ u v, mem a u ∧ mem b v ∧ z = u + v := by
  induction a with
  | nil => intro out _ _ h1 h2; exact ⟨h1, h2, fun z => by simp [mem_nil]⟩
  | cons x r ih =>
    intro out ha hn h1 h2
    obtain ⟨s1, s2, s3⟩ := plusStep_spec hb h1 (ha x (List.mem_cons_self ..)) hbn (hn x (List.mem_cons_self ..)) h2 hnm
    obtain ⟨i1, i2, i3⟩ := ih (fun s hs => ha s (List.mem_cons_of_mem _ hs)) (fun s hs => hn s (List.mem_cons_of_mem _ hs)) s1 s2
    refine ⟨i1, i2, fun z => ?_⟩
    rw [List.foldl_cons, i3, s3, or_assoc]
    simp only [mem_cons]
    constructor
    · rintro (h | ⟨u, v, h3, h4, h5⟩ | ⟨u, v, h3, h4, h5⟩)
      · exact .inl h
      · exact .inr ⟨u, v, .inl h3, h4, h5⟩
      · exact .inr ⟨u, v, .inr h3, h4, h5⟩
    · rintro (h | ⟨u, v, h3 | h3, h4, h5⟩)
      · exact .inl h
      · exact .inr (.inl ⟨u, v, h3, h4, h5⟩)
      · exact .inr (.inr ⟨u, v, h3, h4, h5⟩)
theorem mem_plusF {a b : List Span} {n m : Int} (ha : neL a) (hb : neL b) (han : inB n a) (hbn : inB m b) (hnm : n + m ≤ 1073741824) {z : Int} : mem (plusF a b) z ↔ ∃ u v, mem a u ∧ mem b v ∧ z = u + v := by
  obtain ⟨h1, h2, h3⟩ := plusFold_spec (out := []) hb hbn hnm ha han (fun s hs => by cases hs) (fun s hs => by cases hs)
  unfold plusF
  rw [mem_normF, inSet_inB (fun s hs => by have := h2 s hs; omega), h3]
  simp [mem_nil]
theorem plusF_plain (a b : List Span) : plain (plusF a b) = true := normF_plain _
/-! ### Parts of one symbol -/
def sumP (l : List Part) (x : Int) : Int := (l.map fun p => valF p x).sum
theorem sumP_cons (p : Part) (l : List Part) (x : Int) : sumP (p :: l) x = valF p x + sumP l x := rfl
theorem sumP_snoc (l : List Part) (p : Part) (x : Int) : sumP (l ++ [p]) x = sumP l x + valF p x := by simp [sumP]
theorem sumP_bd {l : List Part} (h : ∀ p ∈ l, bitsF p = true) (x : Int) : 0 ≤ sumP l x ∧ sumP l x ≤ 67108864 * l.length := by
  induction l with
  | nil => exact ⟨Int.le_refl _, by simp [sumP]⟩
  | cons p r ih =>
    have := ih (fun q hq => h q (List.mem_cons_of_mem _ hq))
    have := valF_nonneg p x
    have := valF_le (h p (List.mem_cons_self ..)) x
    rw [sumP_cons, List.length_cons]
    omega
def togF (l : List Part) (s : List Span) : List Span := match l with
  | [p] => imgF p s
  | _ => normF (runsF ((eachL (normF s)).map (sumP l)))
theorem togF_plain (l : List Part) (s : List Span) : plain (togF l s) = true := by
  unfold togF; split
  · exact imgF_plain _ _
  · exact normF_plain _
def symS (s : List Span) : Prop := ∀ z, mem s z → 0 ≤ z ∧ z ≤ 1114111
theorem sym_inSet {s : List Span} (h : symS s) {z : Int} : inSet s z ↔ mem s z := ⟨fun h => h.2, fun hz => ⟨by have := h z hz; omega, hz⟩⟩
theorem mem_togF {l : List Part} (hb : ∀ p ∈ l, bitsF p = true) (hl : l.length ≤ 4) {s : List Span} (hs : symS s) {z : Int} : mem (togF l s) z ↔ ∃ x, mem s x ∧ z = sumP l x := by
  unfold togF
  split
  · rename_i p
    rw [mem_imgF (hb p (by simp))]
    constructor
    · rintro ⟨x, ⟨h1, _⟩, rfl⟩
      exact ⟨x, h1.2, by simp [sumP]⟩
    · rintro ⟨x, h1, rfl⟩
      have := hs x h1
      exact ⟨x, ⟨(sym_inSet hs).2 h1, by omega, by omega⟩, by simp [sumP]⟩
  · rw [mem_normF, inSet, mem_runsF, List.mem_map]
    simp only [mem_eachL, mem_normF, sym_inSet hs]
    constructor
    · rintro ⟨_, x, h1, h2⟩; exact ⟨x, h1, h2.symm⟩
    · rintro ⟨x, h1, rfl⟩
      have := sumP_bd hb x
      exact ⟨by omega, x, h1, rfl⟩
/-! ### All windows -/
def placeStep (l : List Int) (p : Part) : List Int := if p.at_ ∈ l then l else l ++ [p.at_]
def placesF (ps : List Part) : List Int := ps.foldl placeStep []
def ofAt (ps : List Part) (a : Int) : List Part := ps.filter fun p => p.at_ == a
def sumV (ps : List Part) (f : Int → Int) : Int := (ps.map fun p => valF p (f p.at_)).sum
theorem place_mem {l : List Int} {p : Part} {a : Int} : a ∈ placeStep l p ↔ a ∈ l ∨ a = p.at_ := by
  unfold placeStep
  split
  · constructor
    · exact .inl
    · rintro (h | rfl) <;> assumption
  · simp
theorem place_nodup {l : List Int} {p : Part} (h : l.Nodup) : (placeStep l p).Nodup := by
  unfold placeStep
  split
  · exact h
  · rename_i hn
    rw [List.nodup_append]
    refine ⟨h, by simp, ?_⟩
    intro a ha b hb
    simp at hb
    subst hb
    rintro rfl
    exact hn ha
theorem places_fold {ps : List Part} : ∀ {l : List Int}, l.Nodup → (ps.foldl placeStep l).Nodup ∧ ∀ a, a ∈ ps.foldl placeStep l ↔ a ∈ l ∨ ∃ p ∈ ps, p.at_ = a := by
  induction ps with
  | nil => intro l h; exact ⟨h, fun a => by simp⟩
  | cons p r ih =>
    intro l h
    obtain ⟨h1, h2⟩ := ih (place_nodup (p := p) h)
    refine ⟨h1, fun a => ?_⟩
    rw [List.foldl_cons, h2, place_mem, or_assoc]
    constructor
    · rintro (h | h | ⟨q, hq, rfl⟩)
      · exact .inl h
      · exact .inr ⟨p, List.mem_cons_self .., h.symm⟩
      · exact .inr ⟨q, List.mem_cons_of_mem _ hq, rfl⟩
    · rintro (h | ⟨q, hq, rfl⟩)
      · exact .inl h
      · rcases List.mem_cons.1 hq with rfl | hq
        · exact .inr (.inl rfl)
        · exact .inr (.inr ⟨q, hq, rfl⟩)
theorem places_nodup (ps : List Part) : (placesF ps).Nodup := (places_fold (l := []) (by simp)).1
theorem mem_placesF {ps : List Part} {a : Int} : a ∈ placesF ps ↔ ∃ p ∈ ps, p.at_ = a := by
  rw [placesF, (places_fold (l := []) (by simp)).2]; simp
theorem ofAt_cons (p : Part) (ps : List Part) (a : Int) : ofAt (p :: ps) a = if p.at_ = a then p :: ofAt ps a else ofAt ps a := by
  unfold ofAt
  rw [List.filter_cons]
  by_cases h : p.at_ = a <;> simp [h]
theorem sum_add (qs : List Int) (f g : Int → Int) : (qs.map fun a => f a + g a).sum = (qs.map f).sum + (qs.map g).sum := by
  induction qs with
  | nil => rfl
  | cons a r ih => simp only [List.map_cons, List.sum_cons, ih]; omega
theorem sum_one {qs : List Int} (h : qs.Nodup) {a : Int} (ha : a ∈ qs) (v : Int) : (qs.map fun b => if a = b then v else 0).sum = v := by
  induction qs with
  | nil => cases ha
  | cons b r ih =>
    rw [List.nodup_cons] at h
    rw [List.map_cons, List.sum_cons]
    by_cases hab : a = b
    · subst hab
      have hz : ∀ (l : List Int), a ∉ l → (l.map fun b => if a = b then v else 0).sum = 0 := by
        intro l
        induction l with
        | nil => intro _; rfl
        | cons c s ih2 =>
          intro hn
          rw [List.mem_cons, not_or] at hn
          rw [List.map_cons, List.sum_cons, if_neg hn.1, ih2 hn.2]
          rfl
      rw [if_pos rfl, hz r h.1]
      omega
    · rw [if_neg hab, ih h.2 ((List.mem_cons.1 ha).resolve_left hab)]
      omega
theorem sum_placesG {ps : List Part} {qs : List Int} (hq : qs.Nodup) (h : ∀ p ∈ ps, p.at_ ∈ qs) (v : Part → Int → Int) (f : Int → Int) : (qs.map fun a => ((ofAt ps a).map fun p => v p (f a)).sum).sum = (ps.map fun p => v p (f p.at_)).sum := by
  induction ps with
  | nil =>
    have hz : ∀ (l : List Int), (l.map fun a => ((ofAt [] a).map fun p => v p (f a)).sum).sum = 0 := by
      intro l
      induction l with
      | nil => rfl
      | cons c s ih2 => rw [List.map_cons, List.sum_cons, ih2]; rfl
    exact hz qs
  | cons p r ih =>
    have e : ∀ a, ((ofAt (p :: r) a).map fun p => v p (f a)).sum = (if p.at_ = a then v p (f p.at_) else 0) + ((ofAt r a).map fun p => v p (f a)).sum := by
      intro a
      rw [ofAt_cons]
      by_cases h1 : p.at_ = a
      · subst h1; rw [if_pos rfl, if_pos rfl, List.map_cons, List.sum_cons]
      · rw [if_neg h1, if_neg h1]; omega
    rw [show (fun a => ((ofAt (p :: r) a).map fun p => v p (f a)).sum) = fun a => (if p.at_ = a then v p (f p.at_) else 0) + ((ofAt r a).map fun p => v p (f a)).sum from funext e]
    rw [sum_add, sum_one hq (h p (List.mem_cons_self ..)), ih (fun q hq' => h q (List.mem_cons_of_mem _ hq'))]
    rfl
theorem sum_places {ps : List Part} {qs : List Int} (hq : qs.Nodup) (h : ∀ p ∈ ps, p.at_ ∈ qs) (f : Int → Int) : (qs.map fun a => sumP (ofAt ps a) (f a)).sum = sumV ps f := sum_placesG hq h valF f
theorem sum_ones (l : List Part) : (l.map fun _ => (1 : Int)).sum = l.length := by
  induction l with
  | nil => rfl
  | cons p r ih => rw [List.map_cons, List.sum_cons, ih, List.length_cons]; omega
def cntF (ps : List Part) (qs : List Int) : Int := (qs.map fun a => ((ofAt ps a).length : Int)).sum
theorem cntF_all {ps : List Part} {qs : List Int} (hq : qs.Nodup) (h : ∀ p ∈ ps, p.at_ ∈ qs) : cntF ps qs = ps.length := by
  have := sum_placesG hq h (fun _ _ => 1) id
  rw [sum_ones] at this
  rw [← this]
  unfold cntF
  congr 1
  exact List.map_congr_left fun a _ => (sum_ones _).symm
theorem cntF_nonneg (ps : List Part) (qs : List Int) : 0 ≤ cntF ps qs := by
  induction qs with
  | nil => exact Int.le_refl _
  | cons a r ih => unfold cntF at *; rw [List.map_cons, List.sum_cons]; omega
def valsGo (ps : List Part) (sets : List (List Span)) (out : List Span) (a : Int) : List Span := plusF out (togF (ofAt ps a) (sets[a.toNat]?.getD []))
def valuesF (t : Term) (sets : List (List Span)) : List Span := (placesF t.parts).foldl (valsGo t.parts sets) [⟨t.sum, t.sum⟩]
def symP (gs : List (List Span)) (a x : Int) : Prop := ∃ g, gs[a.toNat]? = some g ∧ mem g x
def innerP (t : Term) (gs : List (List Span)) (z : Int) : Prop := ∃ f : Int → Int, (∀ p ∈ t.parts, symP gs p.at_ (f p.at_)) ∧ z = t.sum + sumV t.parts f
theorem ofAt_len (ps : List Part) (a : Int) : (ofAt ps a).length ≤ ps.length := List.length_filter_le _ _
theorem ofAt_sub {ps : List Part} {a : Int} {p : Part} (h : p ∈ ofAt ps a) : p ∈ ps := (List.mem_filter.1 h).1
theorem vals_fold {ps : List Part} {sets : List (List Span)} (hb : ∀ p ∈ ps, bitsF p = true) (hl : ps.length ≤ 4) (hs : ∀ g ∈ sets, symS g) {qs : List Int} : ∀ {out : List Span} {n : Int}, (∀ a ∈ qs, ∃ g, sets[a.toNat]? = some g) → qs.Nodup →
    neL out → inB n out → n + 67108864 * cntF ps qs ≤ 1073741824 → n ≥ 0 →
    neL (qs.foldl (valsGo ps sets) out) ∧ inB (n + 67108864 * cntF ps qs) (qs.foldl (valsGo ps sets) out) ∧
    ∀ z, mem (qs.foldl (valsGo ps sets) out) z ↔ ∃ u, ∃ f : Int → Int, mem out u ∧ (∀ a ∈ qs, symP sets a (f a)) ∧ z = u + (qs.map fun a => sumP (ofAt ps a) (f a)).sum := by
  induction qs with
  | nil =>
    intro out n _ _ h1 h2 _ _
    refine ⟨h1, by simpa [cntF] using h2, fun z => ?_⟩
    simp only [List.foldl_nil, List.map_nil, List.sum_nil, Int.add_zero]
    constructor
    · intro h; exact ⟨z, id, h, by simp, rfl⟩
    · rintro ⟨u, f, h, _, rfl⟩; exact h
  | cons a r ih =>
    intro out n hex hnd hne hn hbd hn0
    obtain ⟨g, hg⟩ := hex a (List.mem_cons_self ..)
    have hsym := hs g (List.mem_of_getElem? hg)
    have hbo : ∀ p ∈ ofAt ps a, bitsF p = true := fun p hp => hb p (ofAt_sub hp)
    have hlo : (ofAt ps a).length ≤ 4 := Nat.le_trans (ofAt_len ps a) hl
    have hcn := cntF_nonneg ps r
    have hce : cntF ps (a :: r) = (ofAt ps a).length + cntF ps r := by unfold cntF; rw [List.map_cons, List.sum_cons]
    rw [hce] at hbd ⊢
    have htm : ∀ z, mem (togF (ofAt ps a) g) z ↔ ∃ x, mem g x ∧ z = sumP (ofAt ps a) x := fun z => mem_togF hbo hlo hsym
    have hte : neL (togF (ofAt ps a) g) := plain_ne (togF_plain _ _)
    have htb : inB (67108864 * (ofAt ps a).length) (togF (ofAt ps a) g) := mem_inB hte fun z hz => by
      obtain ⟨x, _, rfl⟩ := (htm z).1 hz
      have := sumP_bd hbo x
      omega
    have hstep : ∀ z, mem (valsGo ps sets out a) z ↔ ∃ u x, mem out u ∧ mem g x ∧ z = u + sumP (ofAt ps a) x := fun z => by
      unfold valsGo
      rw [hg, Option.getD_some, mem_plusF hne hte hn htb (by omega)]
      constructor
      · rintro ⟨u, v, h1, h2, h3⟩
        obtain ⟨x, h4, rfl⟩ := (htm v).1 h2
        exact ⟨u, x, h1, h4, h3⟩
      · rintro ⟨u, x, h1, h4, h3⟩
        exact ⟨u, _, h1, (htm _).2 ⟨x, h4, rfl⟩, h3⟩
    have hne2 : neL (valsGo ps sets out a) := plain_ne (plusF_plain _ _)
    have hn2 : inB (n + 67108864 * (ofAt ps a).length) (valsGo ps sets out a) := mem_inB hne2 fun z hz => by
      obtain ⟨u, x, h1, _, rfl⟩ := (hstep z).1 hz
      have := inB_mem hn h1
      have := sumP_bd hbo x
      omega
    rw [List.nodup_cons] at hnd
    obtain ⟨i1, i2, i3⟩ := ih (out := valsGo ps sets out a) (n := n + 67108864 * (ofAt ps a).length) (fun b hb' => hex b (List.mem_cons_of_mem _ hb')) hnd.2 hne2 hn2 (by omega) (by omega)
    refine ⟨i1, fun s hs' => by have := i2 s hs'; omega, fun z => ?_⟩
    rw [List.foldl_cons, i3]
    constructor
    · rintro ⟨u, f, h1, h2, rfl⟩
      obtain ⟨u', x, h3, h4, rfl⟩ := (hstep u).1 h1
      refine ⟨u', fun b => if b = a then x else f b, h3, fun b hb' => ?_, ?_⟩
      · by_cases hba : b = a
        · subst hba; simp only [if_true]; exact ⟨g, hg, h4⟩
        · simp only [hba, if_false]; exact h2 b ((List.mem_cons.1 hb').resolve_left hba)
      · have h5 : (r.map fun b => sumP (ofAt ps b) (if b = a then x else f b)) = r.map fun b => sumP (ofAt ps b) (f b) := by
          refine List.map_congr_left fun b hb' => ?_
          have : b ≠ a := by rintro rfl; exact hnd.1 hb'
          rw [if_neg this]
        rw [List.map_cons, List.sum_cons]
        simp only [if_true, h5]
        omega
    · rintro ⟨u, f, h1, h2, rfl⟩
      obtain ⟨g', hg', hx⟩ := h2 a (List.mem_cons_self ..)
      rw [hg] at hg'
      cases hg'
      refine ⟨u + sumP (ofAt ps a) (f a), f, (hstep _).2 ⟨u, f a, h1, hx, rfl⟩, fun b hb' => h2 b (List.mem_cons_of_mem _ hb'), ?_⟩
      rw [List.map_cons, List.sum_cons]
      omega
theorem mem_valuesF {t : Term} {sets : List (List Span)} (hb : ∀ p ∈ t.parts, bitsF p = true ∧ 0 ≤ p.at_ ∧ p.at_ < sets.length) (hl : t.parts.length ≤ 4) (hs : ∀ g ∈ sets, symS g) (ht : -1114111 ≤ t.sum ∧ t.sum ≤ 1114111) {z : Int} :
    mem (valuesF t sets) z ↔ innerP t sets z := by
  have hcnt : cntF t.parts (placesF t.parts) = t.parts.length := cntF_all (places_nodup _) fun p hp => mem_placesF.2 ⟨p, hp, rfl⟩
  obtain ⟨h1, h2, h3⟩ := vals_fold (ps := t.parts) (sets := sets) (fun p hp => (hb p hp).1) hl hs (qs := placesF t.parts) (out := [⟨t.sum, t.sum⟩]) (n := 1114111) (fun a ha => by
    obtain ⟨p, hp, rfl⟩ := mem_placesF.1 ha
    have := hb p hp
    exact ⟨sets[p.at_.toNat]'(by omega), List.getElem?_eq_getElem (by omega)⟩) (places_nodup _)
    (fun s hs => by simp at hs; subst hs; exact Int.le_refl _) (fun s hs => by simp at hs; subst hs; exact ht) (by omega) (by decide)
  rw [valuesF, h3]
  have hsum : ∀ f : Int → Int, ((placesF t.parts).map fun a => sumP (ofAt t.parts a) (f a)).sum = sumV t.parts f := fun f => sum_places (places_nodup _) (fun p hp => mem_placesF.2 ⟨p, hp, rfl⟩) f
  constructor
  · rintro ⟨u, f, hu, hf, rfl⟩
    have : u = t.sum := by simp [mem] at hu; omega
    subst this
    exact ⟨f, fun p hp => hf _ (mem_placesF.2 ⟨p, hp, rfl⟩), by rw [hsum]⟩
  · rintro ⟨f, hf, rfl⟩
    refine ⟨t.sum, f, by simp [mem], fun a ha => ?_, by rw [hsum]⟩
    obtain ⟨p, hp, rfl⟩ := mem_placesF.1 ha
    exact hf p hp
end Go.Um
namespace Go.Um
def addN (b : Int) (s : Span) : Span := ⟨s.lo + b, s.hi + b⟩
def moveF (l : List Span) (b : Int) : List Span := if b < -2147483648 ∨ 2147483648 < b then [] else normF ((normF l).map (addN b))
theorem moveF_plain (l : List Span) (b : Int) : plain (moveF l b) = true := by
  unfold moveF; split
  · rfl
  · exact normF_plain _
theorem mem_mapAddN {l : List Span} {b z : Int} : mem (l.map (addN b)) z ↔ mem l (z - b) := by
  unfold mem
  constructor
  · rintro ⟨s, hs, h1, h2⟩
    obtain ⟨t, ht, rfl⟩ := List.mem_map.1 hs
    simp only [addN] at h1 h2
    exact ⟨t, ht, by omega, by omega⟩
  · rintro ⟨t, ht, h1, h2⟩
    exact ⟨_, List.mem_map.2 ⟨t, ht, rfl⟩, by simp only [addN]; omega, by simp only [addN]; omega⟩
theorem mem_moveF {l : List Span} {b : Int} (hb : -2147483648 ≤ b ∧ b ≤ 2147483648) {z : Int} : mem (moveF l b) z ↔ (-1073741824 ≤ z ∧ z ≤ 1073741824) ∧ inSet l (z - b) := by
  unfold moveF
  rw [if_neg (by omega), mem_normF, inSet, mem_mapAddN, mem_normF]
/-! ### The least and the greatest -/
def headLo (l : List Span) : Int := match l with | s :: _ => s.lo | [] => 0
def lastHi (l : List Span) : Int := match l.getLast? with | some s => s.hi | none => 0
theorem headLo_le {last : Int} {l : List Span} (h : plainFrom last l = true) {z : Int} (hz : mem l z) : headLo l ≤ z := by
  cases l with
  | nil => exact absurd hz mem_nil
  | cons s r =>
    obtain ⟨h1, h2⟩ := plainFrom_cons.1 h
    show s.lo ≤ z
    rcases mem_cons.1 hz with h3 | h3
    · exact h3.1
    · have := plainFrom_bound h2 h3; omega
theorem lastHi_cons (s t : Span) (r : List Span) : lastHi (s :: t :: r) = lastHi (t :: r) := by simp [lastHi, List.getLast?_cons_cons]
theorem lastHi_ge {last : Int} {l : List Span} (h : plainFrom last l = true) {z : Int} (hz : mem l z) : z ≤ lastHi l := by
  induction l generalizing last z with
  | nil => exact absurd hz mem_nil
  | cons s r ih =>
    obtain ⟨h1, h2⟩ := plainFrom_cons.1 h
    cases r with
    | nil =>
      rcases mem_cons.1 hz with h3 | h3
      · simpa [lastHi] using h3.2
      · exact absurd h3 mem_nil
    | cons t u =>
      rw [lastHi_cons]
      rcases mem_cons.1 hz with h3 | h3
      · have h4 := ih h2 (z := t.lo) (mem_cons.2 (.inl ⟨Int.le_refl _, (plainFrom_cons.1 h2).1.1⟩))
        have := (plainFrom_cons.1 h2).1.2.2.2
        omega
      · exact ih h2 h3
theorem headLo_mem {l : List Span} (h : plain l = true) (hn : l ≠ []) : mem l (headLo l) := by
  cases l with
  | nil => exact absurd rfl hn
  | cons s r => exact mem_cons.2 (.inl ⟨Int.le_refl _, plain_ne h s (List.mem_cons_self ..)⟩)
theorem lastHi_mem {l : List Span} (h : plain l = true) (hn : l ≠ []) : mem l (lastHi l) := by
  cases hq : l.getLast? with
  | none => simp at hq; exact absurd hq hn
  | some s =>
    have hs := List.mem_of_getLast? hq
    unfold lastHi
    rw [hq]
    exact ⟨s, hs, plain_ne h s hs, Int.le_refl _⟩
def okV (l : List Span) : Bool := !l.isEmpty && decide (0 ≤ headLo l) && decide (lastHi l ≤ 1114111)
theorem okV_iff {l : List Span} (h : plain l = true) : okV l = true ↔ l ≠ [] ∧ ∀ z, mem l z → 0 ≤ z ∧ z ≤ 1114111 := by
  unfold okV
  simp only [Bool.and_eq_true, Bool.not_eq_true', List.isEmpty_eq_false_iff, decide_eq_true_eq]
  constructor
  · rintro ⟨⟨h1, h2⟩, h3⟩
    refine ⟨h1, fun z hz => ?_⟩
    have := headLo_le h hz
    have := lastHi_ge h hz
    omega
  · rintro ⟨h1, h2⟩
    exact ⟨⟨h1, (h2 _ (headLo_mem h h1)).1⟩, (h2 _ (lastHi_mem h h1)).2⟩
/-! ### What a term must be -/
def outerT (t : Term) : Part := ⟨0, t.drop, t.take, t.up⟩
def smallN (x : Int) : Bool := decide (-1114111 ≤ x) && decide (x ≤ 1114111)
theorem smallN_iff {x : Int} : smallN x = true ↔ -1114111 ≤ x ∧ x ≤ 1114111 := by simp [smallN]
def wholeP (a : Int) : Part := ⟨a, 0, 21, 0⟩
def plainT (t : Term) : Bool := decide (t.base = 0 ∧ t.drop = 0 ∧ t.take = 21 ∧ t.up = 0)
def risesP (u : Int) : List Part → Bool
  | [] => true
  | p :: r => decide (u < p.up) && risesP p.up r
def risingP : List Part → Bool
  | [] => true
  | p :: r => risesP p.up r
def numbersF (t : Term) : Bool := smallN t.base && smallN t.sum && bitsF (outerT t) && risingP t.parts && decide (t.parts.length ≤ 4)
def rightP (p : Part) (n : Int) : Bool := decide (0 ≤ p.at_) && decide (p.at_ < n) && bitsF p
theorem rightP_iff {p : Part} {n : Int} : rightP p n = true ↔ 0 ≤ p.at_ ∧ p.at_ < n ∧ bitsF p = true := by simp [rightP, and_assoc]
def sortF (s : Int) : Bool := decide (s = 1 ∨ s = 2)
def rightF (t : Term) (inn out : Int) (n : Int) : Bool :=
  sortF inn && sortF out && numbersF t && t.parts.all (fun p => rightP p n && decide (inn = 2 → p = wholeP p.at_)) && decide (inn = 2 → t.parts.length ≤ 1) && decide (out = 2 → plainT t = true)
theorem numbersF_iff {t : Term} : numbersF t = true ↔ smallN t.base = true ∧ smallN t.sum = true ∧ bitsF (outerT t) = true ∧ risingP t.parts = true ∧ t.parts.length ≤ 4 := by
  simp [numbersF, and_assoc]
theorem rightF_iff {t : Term} {inn out n : Int} : rightF t inn out n = true ↔ (inn = 1 ∨ inn = 2) ∧ (out = 1 ∨ out = 2) ∧ numbersF t = true ∧ (∀ p ∈ t.parts, rightP p n = true ∧ (inn = 2 → p = wholeP p.at_)) ∧ (inn = 2 → t.parts.length ≤ 1) ∧ (out = 2 → plainT t = true) := by
  simp only [rightF, sortF, Bool.and_eq_true, decide_eq_true_eq, List.all_eq_true, and_assoc]
/-! ### Does a term fit? -/
def symL : List Span := [⟨0, 1114111⟩]
theorem inSet_symL {x : Int} : inSet symL x ↔ 0 ≤ x ∧ x ≤ 1114111 := by
  simp only [inSet, symL, mem, List.mem_singleton, exists_eq_left]; omega
theorem meetF_sym {g : List Span} (hp : plain g = true) (hs : symS g) : meetF g symL = g :=
  plain_unique (meetF_plain _ _) hp fun x => by
    rw [mem_meetF, inSet_symL, inSet_plain hp]
    constructor
    · exact fun h => h.1
    · exact fun h => ⟨h, hs x h⟩
def goodG (gs : List (List Span)) : Prop := gs.length ≤ 4 ∧ ∀ g ∈ gs, plain g = true ∧ symS g ∧ g ≠ []
def imageT (t : Term) (gs : List (List Span)) : List Span := moveF (imgF (outerT t) (valuesF t gs)) t.base
def fitsG (t : Term) (dom : List Span) (gs : List (List Span)) : Bool := okV (valuesF t gs) && (minusF (imageT t gs) dom).isEmpty
theorem valuesF_plain (t : Term) (gs : List (List Span)) : plain (valuesF t gs) = true ∨ valuesF t gs = [⟨t.sum, t.sum⟩] := by
  unfold valuesF
  rcases List.eq_nil_or_concat (placesF t.parts) with h | ⟨l, a, h⟩
  · rw [h]; exact .inr rfl
  · rw [h, List.concat_eq_append, List.foldl_append]
    exact .inl (plusF_plain _ _)
theorem valuesF_plain' {t : Term} (h : smallN t.sum = true) (gs : List (List Span)) : plain (valuesF t gs) = true := by
  rcases valuesF_plain t gs with h1 | h1
  · exact h1
  · rw [h1]
    have := smallN_iff.1 h
    exact plainFrom_cons.2 ⟨by simp only; omega, rfl⟩
theorem innerP_some {t : Term} {gs : List (List Span)} (hg : goodG gs) (hr : ∀ p ∈ t.parts, rightP p gs.length = true) : ∃ z, innerP t gs z := by
  refine ⟨t.sum + sumV t.parts fun a => match gs[a.toNat]? with | some g => headLo g | none => 0, _, fun p hp => ?_, rfl⟩
  have h1 := rightP_iff.1 (hr p hp)
  have h2 : p.at_.toNat < gs.length := by omega
  have h3 := hg.2 gs[p.at_.toNat] (List.getElem_mem h2)
  refine ⟨gs[p.at_.toNat], List.getElem?_eq_getElem h2, ?_⟩
  rw [List.getElem?_eq_getElem h2]
  exact headLo_mem h3.1 h3.2.2
def fitsP (t : Term) (dom : List Span) (gs : List (List Span)) : Prop := ∀ z, innerP t gs z → (0 ≤ z ∧ z ≤ 1114111) ∧ mem dom (t.base + valF (outerT t) z)
theorem fitsG_iff {t : Term} {dom : List Span} {gs : List (List Span)} (hn : numbersF t = true) (hr : ∀ p ∈ t.parts, rightP p gs.length = true) (hg : goodG gs) (hd : plain dom = true) : fitsG t dom gs = true ↔ fitsP t dom gs := by
  obtain ⟨n1, n2, n3, n4, n5⟩ := numbersF_iff.1 hn
  have hv : ∀ z, mem (valuesF t gs) z ↔ innerP t gs z := fun z => mem_valuesF (fun p hp => by
    have := rightP_iff.1 (hr p hp)
    exact ⟨this.2.2, this.1, this.2.1⟩) n5 (fun g hgm => (hg.2 g hgm).2.1) (smallN_iff.1 n2)
  have hpl := valuesF_plain' n2 gs
  have hb := smallN_iff.1 n1
  obtain ⟨z0, hz0⟩ := innerP_some (t := t) hg hr
  have hne : valuesF t gs ≠ [] := by
    intro h
    have := (hv z0).2 hz0
    rw [h] at this
    exact mem_nil this
  unfold fitsG
  rw [Bool.and_eq_true, okV_iff hpl, List.isEmpty_iff, minusF_nil]
  have himg : (∀ z, innerP t gs z → 0 ≤ z ∧ z ≤ 1114111) → ∀ z, inSet (imageT t gs) z ↔ ∃ x, innerP t gs x ∧ z = t.base + valF (outerT t) x := by
    intro hall z
    unfold imageT
    rw [inSet_plain (moveF_plain _ _), mem_moveF (by omega), inSet_plain (imgF_plain _ _), mem_imgF n3]
    constructor
    · rintro ⟨_, x, ⟨h1, _⟩, h2⟩
      exact ⟨x, (hv x).1 h1.2, by omega⟩
    · rintro ⟨x, h1, rfl⟩
      have h2 := hall x h1
      have h3 := valF_nonneg (outerT t) x
      have h4 := valF_le n3 x
      exact ⟨by omega, x, ⟨⟨by omega, (hv x).2 h1⟩, by omega, by omega⟩, by omega⟩
  constructor
  · rintro ⟨⟨_, h1⟩, h2⟩ z hz
    have hall : ∀ z, innerP t gs z → 0 ≤ z ∧ z ≤ 1114111 := fun z hz => h1 z ((hv z).2 hz)
    refine ⟨hall z hz, ?_⟩
    exact (inSet_plain hd).1 (h2 _ ((himg hall _).2 ⟨z, hz, rfl⟩))
  · intro h
    have hall : ∀ z, innerP t gs z → 0 ≤ z ∧ z ≤ 1114111 := fun z hz => (h z hz).1
    refine ⟨⟨hne, fun z hz => hall z ((hv z).1 hz)⟩, fun z hz => ?_⟩
    obtain ⟨x, h1, rfl⟩ := (himg hall z).1 hz
    exact (inSet_plain hd).2 (h x h1).2
end Go.Um
