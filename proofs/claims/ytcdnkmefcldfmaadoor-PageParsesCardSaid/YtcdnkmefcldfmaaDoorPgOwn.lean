/-
  A row that the call owns, whose elements read as something that lies elsewhere. No program is named here.
-/
import Derived.Test.YtcdnkmefcldfmaaDoorMem
namespace Go.Um
open Go.RowKit

/-- a block of elements of type t. -/
def Tag (t : TypeId) (w : World) (g : Nat) : Prop := ∃ cs fz, w.heap[g]? = some (.cells cs t fz)
theorem Tag.lt {t : TypeId} {w : World} {g : Nat} (h : Tag t w g) : g < w.heap.size := by
  obtain ⟨cs, fz, h⟩ := h
  rcases Nat.lt_or_ge g w.heap.size with h' | h'
  · exact h'
  · simp [Array.getElem?_eq_none h'] at h
theorem Tag.ne {t t' : TypeId} {w : World} {g g' : Nat} (h : Tag t w g) (h' : Tag t' w g') (hne : t ≠ t') : g ≠ g' := by
  rintro rfl
  obtain ⟨_, _, h1⟩ := h
  obtain ⟨_, _, h2⟩ := h'
  rw [h1] at h2
  injection h2 with h2
  injection h2 with _ h2
  exact hne h2
theorem Tag.keep {t : TypeId} {w w' : World} {g : Nat} (h : Tag t w g) (hk : w'.heap[g]? = w.heap[g]?) : Tag t w' g := by
  obtain ⟨cs, fz, h⟩ := h
  exact ⟨cs, fz, hk.trans h⟩

/-- a row of the call's own, element by element. -/
def OwnR {α : Type} (e : TypeId) (r : RepOf α) (w : World) (S : Nat → Prop) (base : Nat) (v : Value) (xs : List α) : Prop :=
  ∃ css : List (List Value), css.length = xs.length ∧ w.ownsRow base e r.width v xs.length css.flatten ∧ ∀ (i : Nat) (x : α) (cs : List Value), xs[i]? = some x → css[i]? = some cs → r.rel w S cs x

theorem flatten_at {m : Nat} (css : List (List Value)) (h : ∀ cs ∈ css, cs.length = m) : ∀ (i j : Nat) (cs : List Value) (v : Value), css[i]? = some cs → cs[j]? = some v → css.flatten[i * m + j]? = some v := by
  induction css with
  | nil => intro i j cs v h1; simp at h1
  | cons c css ih =>
    intro i j cs v h1 h2
    have hc := h c (List.mem_cons_self ..)
    cases i with
    | zero =>
      simp at h1
      subst h1
      rw [Nat.zero_mul, Nat.zero_add, List.flatten_cons, List.getElem?_append_left (List.getElem?_eq_some_iff.1 h2).1]
      exact h2
    | succ i =>
      rw [List.flatten_cons, List.getElem?_append_right (by rw [hc, Nat.add_mul]; omega), hc]
      rw [show (i + 1) * m + j - m = i * m + j by rw [Nat.add_mul]; omega]
      exact ih (fun x hx => h x (List.mem_cons_of_mem _ hx)) i j cs v (by simpa using h1) h2

section
variable {α : Type} {e : TypeId} {r : RepOf α} {w w' : World} {S S' : Nat → Prop} {base : Nat} {v : Value} {xs : List α}
theorem OwnR.nil : OwnR e r w S base (.slice none 0 0) [] := ⟨[], rfl, World.ownsRow_nil _ _ _ _, fun i x cs h => by simp at h⟩
theorem OwnR.rel (h : OwnR e r w S base v xs) (hS : ∀ b, S b → S' b) (hv : ∀ g, v.ownBlock = some g → S' g) : (listR r).rel w S' [v] xs := by
  obtain ⟨css, hl, hown, hel⟩ := h
  rcases hown.2 with ⟨rfl, hn⟩ | ⟨g, cap, cur, rfl, hb, hg, hnc, hcm, hcs, htake⟩
  · have : xs = [] := List.eq_nil_of_length_eq_zero hn
    subst this
    exact list_nil r w S'
  · refine ⟨_, _, _, rfl, rfl, hnc, hcm, .inr ⟨g, 0, rfl, hv g rfl, fun i x hi => ?_⟩⟩
    obtain ⟨cs, hcs'⟩ := at_lt (xs := css) (i := i) (by have := (List.getElem?_eq_some_iff.1 hi).1; omega)
    have hall : ∀ cs ∈ css, cs.length = r.width := by
      intro cs hc
      obtain ⟨k, hk, rfl⟩ := List.getElem_of_mem hc
      obtain ⟨y, hy⟩ := at_lt (xs := xs) (i := k) (by omega)
      exact r.len (hel k y _ hy (List.getElem?_eq_getElem hk))
    refine ⟨cs, r.mono (fun _ _ => rfl) hS (hel i x cs hi hcs'), fun j u hu => ?_⟩
    have hc := hown.cells (g := g) rfl (i * r.width + j) u (flatten_at css hall i j cs u hcs' hu)
    rw [show 0 + i * r.width + j = i * r.width + j by omega]
    have ha : (⟨g, 0, none⟩ : Addr).add (i * r.width + j) = ⟨g, i * r.width + j, none⟩ := by unfold Addr.add; split <;> simp_all
    rwa [ha] at hc
/-- what leaves the row and the elements' memory. -/
theorem OwnR.keep (h : OwnR e r w S base v xs) (hv : ∀ g, v.ownBlock = some g → w'.heap[g]? = w.heap[g]?) (hc : ∀ p : Addr, S p.block → w'.cell? p = w.cell? p) (hS : ∀ b, S b → S' b) : OwnR e r w' S' base v xs := by
  obtain ⟨css, hl, hown, hel⟩ := h
  refine ⟨css, hl, ⟨hown.1, ?_⟩, fun i x cs h1 h2 => r.mono hc hS (hel i x cs h1 h2)⟩
  rcases hown.2 with h2 | ⟨g, cap, cur, rfl, h3, h4, h5⟩
  · exact .inl h2
  · exact .inr ⟨g, cap, cur, rfl, h3, (hv g rfl).trans h4, h5⟩
/-- behind an append. -/
theorem OwnR.push {x : α} {cs : List Value} {css : List (List Value)} (hl : css.length = xs.length) (h : w.ownsRow base e r.width v (xs.length + 1) (css.flatten ++ cs)) (hel : ∀ (i : Nat) (x : α) (cs : List Value), xs[i]? = some x → css[i]? = some cs → r.rel w S cs x) (hx : r.rel w S cs x) :
    OwnR e r w S base v (xs ++ [x]) := by
  refine ⟨css ++ [cs], by simp [hl], by simpa using h, fun i y ds h1 h2 => ?_⟩
  rcases Nat.lt_or_ge i xs.length with h3 | h3
  · rw [List.getElem?_append_left h3] at h1
    rw [List.getElem?_append_left (by omega)] at h2
    exact hel i y ds h1 h2
  · rw [List.getElem?_append_right h3] at h1
    rw [List.getElem?_append_right (by omega)] at h2
    have : i = xs.length := by
      have := (List.getElem?_eq_some_iff.1 h1).1
      simp at this
      omega
    subst this
    rw [Nat.sub_self] at h1
    rw [hl, Nat.sub_self] at h2
    simp at h1 h2
    subst h1 h2
    exact hx
theorem OwnR.base' {base' : Nat} (h : OwnR e r w S base v xs) (hb : base' ≤ base) : OwnR e r w S base' v xs := by
  obtain ⟨css, hl, hown, hel⟩ := h
  exact ⟨css, hl, ownsRow_base hown hb, hel⟩
theorem own_tag {size n : Nat} {cs : List Value} (h : w.ownsRow base e size v n cs) : ∀ g, v.ownBlock = some g → Tag e w g ∧ base ≤ g := by
  intro g hg
  rcases h.2 with ⟨rfl, _⟩ | ⟨g', cap, cur, rfl, hb, hh, _⟩
  · simp [Value.ownBlock] at hg
  · have : g' = g := by simpa [Value.ownBlock] using hg
    subst this
    exact ⟨⟨_, _, hh⟩, hb⟩
theorem OwnR.tag (h : OwnR e r w S base v xs) : ∀ g, v.ownBlock = some g → Tag e w g ∧ base ≤ g := by
  obtain ⟨css, hl, hown, hel⟩ := h
  exact own_tag hown
end
theorem cell_of_heap_eq {w w' : World} {p : Addr} (h : w'.heap[p.block]? = w.heap[p.block]?) : w'.cell? p = w.cell? p := World.cell?_of_block h
end Go.Um
