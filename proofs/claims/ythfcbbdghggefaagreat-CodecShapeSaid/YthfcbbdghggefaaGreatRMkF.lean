/-
  Copies: slices.Clone of spans and of parts.
-/
import Derived.Test.YthfcbbdghggefaaGreatRMkD
import Derived.Test.YthfcbbdghggefaaGreatPj
import Derived.Lib.BufferMore
namespace Go.Proofs.YthfcbbdghggefaaGreat
open Go.RowKit Go.Um Go.Proofs
theorem append_all_cloneS {w : World} {S : Nat → Prop} {b o n c : Nat} {l : List Span} (h : (listR spanR).rel w S [.slice (some ⟨b, o, none⟩) n c] l) (hS : ∀ g, S g → g < w.heap.size) :
    ∃ css, Rels spanR w S css l ∧ css.flatten.length = l.length * 2 ∧ (∀ (j : Nat) (u : Value), css.flatten[j]? = some u → (w.alloc (.cells #[] 75)).cell? ((⟨b, o, none⟩ : Addr).add j) = some u) ∧ ∀ u ∈ css.flatten, u.oneCell' = true := by
  obtain ⟨css, h1, h2, h3⟩ := list_news h
  have hbl : l ≠ [] → b < w.heap.size := fun hne => by
    obtain ⟨x, hx⟩ := at_lt (xs := l) (i := 0) (List.length_pos_iff.2 hne)
    obtain ⟨b', o', _, hA, hb, _⟩ := list_at h hx
    cases hA
    exact hS _ hb
  refine ⟨css, h1, h2, fun j u hu => ?_, fun u hu => ?_⟩
  · have hne : l ≠ [] := by rintro rfl; rw [List.length_nil, Nat.zero_mul] at h2; rw [List.eq_nil_of_length_eq_zero h2] at hu; simp at hu
    have := h3 j u hu
    have ha : (⟨b, o, none⟩ : Addr).add j = ⟨b, o + j, none⟩ := by unfold Addr.add; split <;> simp_all
    rw [ha] at this ⊢
    rw [cellA _ _ _ _ (hbl hne)]
    exact this
  · obtain ⟨cs, hcs, hu2⟩ := List.mem_flatten.1 hu
    obtain ⟨i, hi⟩ := List.mem_iff_getElem?.1 hcs
    obtain ⟨x, hx⟩ := at_lt (xs := l) (i := i) (by rw [← h1.len]; exact (List.getElem?_eq_some_iff.1 hi).1)
    obtain ⟨rfl, _⟩ := h1.at i x cs hx hi
    simp [Span.cells] at hu2; rcases hu2 with rfl | rfl <;> rfl
end Go.Proofs.YthfcbbdghggefaaGreat
