/-
  A list copied whole by one append: its elements reach nothing. No program is named here.
-/
import Derived.Test.YtmkmikacfilbpaaGreatKOwn
namespace Go.Um
open Go.RowKit
def Flat {α : Type} (r : RepOf α) : Prop := ∀ (w w' : World) (S S' : Nat → Prop) (cs : List Value) (x : α), r.rel w S cs x → r.rel w' S' cs x
theorem span_flat : Flat spanR := fun _ _ _ _ _ _ h => h
theorem part_flat : Flat partR := fun _ _ _ _ _ _ h => h
theorem rows_news {α : Type} {r : RepOf α} {w : World} {S : Nat → Prop} {b : Nat} : ∀ {xs : List α} {o : Nat}, (∀ (i : Nat) (x : α), xs[i]? = some x → ∃ cs, r.rel w S cs x ∧ ∀ (j : Nat) (u : Value), cs[j]? = some u → w.cell? ⟨b, o + i * r.width + j, none⟩ = some u) →
    ∃ css, Rels r w S css xs ∧ css.flatten.length = xs.length * r.width ∧ ∀ (j : Nat) (u : Value), css.flatten[j]? = some u → w.cell? ⟨b, o + j, none⟩ = some u := by
  intro xs
  induction xs with
  | nil => intro o _; exact ⟨[], trivial, by simp, fun j u h => by simp at h⟩
  | cons x r' ih =>
    intro o h
    obtain ⟨cs, h1, h2⟩ := h 0 x rfl
    obtain ⟨css, q1, q3, q2⟩ := ih (o := o + r.width) (fun i y hy => by
      obtain ⟨ds, d1, d2⟩ := h (i + 1) y (by simpa using hy)
      exact ⟨ds, d1, fun j u hu => by have := d2 j u hu; rwa [show o + (i + 1) * r.width + j = o + r.width + i * r.width + j by rw [Nat.add_mul]; omega] at this⟩)
    refine ⟨cs :: css, ⟨h1, q1⟩, by rw [List.flatten_cons, List.length_append, q3, r.len h1, List.length_cons, Nat.add_mul]; omega, fun j u hu => ?_⟩
    rw [List.flatten_cons] at hu
    rcases Nat.lt_or_ge j cs.length with hj | hj
    · rw [List.getElem?_append_left hj] at hu
      have := h2 j u hu
      simpa using this
    · rw [List.getElem?_append_right hj] at hu
      have := q2 _ u hu
      rw [r.len h1] at this hj
      rwa [show o + r.width + (j - r.width) = o + j by omega] at this
theorem list_news {α : Type} {r : RepOf α} {w : World} {S : Nat → Prop} {b o n cap : Nat} {xs : List α} (h : (listR r).rel w S [.slice (some ⟨b, o, none⟩) n cap] xs) :
    ∃ css, Rels r w S css xs ∧ css.flatten.length = xs.length * r.width ∧ ∀ (j : Nat) (u : Value), css.flatten[j]? = some u → w.cell? ((⟨b, o, none⟩ : Addr).add j) = some u := by
  obtain ⟨css, h1, h3, h2⟩ := rows_news (r := r) (w := w) (S := S) (b := b) (o := o) (xs := xs) (fun i x hi => by
    obtain ⟨b', o', ds, hA, _, h4, h5⟩ := list_at h hi
    cases hA
    exact ⟨ds, h4, h5⟩)
  refine ⟨css, h1, h3, fun j u hu => ?_⟩
  have := h2 j u hu
  have ha : (⟨b, o, none⟩ : Addr).add j = ⟨b, o + j, none⟩ := by unfold Addr.add; split <;> simp_all
  rwa [ha]
theorem FL.cloned {α : Type} {e : TypeId} {r : RepOf α} {w w' : World} {S : Nat → Prop} {base : Nat} {v : Value} {xs : List α} {css : List (List Value)} (hf : Flat r) (h : Rels r w S css xs) (ho : w'.ownsRow base e r.width v xs.length css.flatten) : FL e r w' base base v xs :=
  ⟨css, h.len, ho, fun i x cs h1 h2 => hf _ _ _ _ _ _ (h.at i x cs h1 h2)⟩
end Go.Um
