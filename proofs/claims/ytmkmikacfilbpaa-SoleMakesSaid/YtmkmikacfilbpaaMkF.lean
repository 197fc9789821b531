/-
  Copies: slices.Clone of spans and of parts.
-/
import Derived.Test.YtmkmikacfilbpaaMkD
import Derived.Test.YtmkmikacfilbpaaOwnC
import Derived.Lib.BufferMore
namespace Go.Proofs.Ytmkmikacfilbpaa
open Go.RowKit Go.Um Go.Proofs
theorem append_all_cloneS {w : World} {S : Nat → Prop} {b o n c : Nat} {l : List Span} (h : (listR spanR).rel w S [.slice (some ⟨b, o, none⟩) n c] l) (hS : ∀ g, S g → g < w.heap.size) :
    ∃ css, Rels spanR w S css l ∧ css.flatten.length = l.length * 2 ∧ (∀ (j : Nat) (u : Value), css.flatten[j]? = some u → (w.alloc (.cells #[] 54)).cell? ((⟨b, o, none⟩ : Addr).add j) = some u) ∧ ∀ u ∈ css.flatten, u.oneCell' = true := by
  obtain ⟨css, h1, h2, h3⟩ := list_news h
  have hbl : l ≠ [] → b < w.heap.size := fun hne => by
    obtain ⟨x, hx⟩ := at_lt (xs := l) (i := 0) (List.length_pos_iff.2 hne)
    obtain ⟨b', o', _, hA, hb, _⟩ := list_at h hx
    cases hA
    exact hS _ hb
  refine ⟨css, h1, h2, fun j u hu => ?_, fun u hu => ?_⟩
  · have hne : l ≠ [] := by rintro rfl; rw [List.length_nil, Nat.zero_mul] at h2; rw [List.eq_nil_of_length_eq_zero h2] at hu; simp at hu
    have := h3 j u hu
    have ha : (⟨b, o, none⟩ : Addr).add j = ⟨b, o + j, none⟩ := by unfold Addr.add; split <;> simp_all
    rw [ha] at this ⊢
    rw [cellA _ _ _ _ (hbl hne)]
    exact this
  · obtain ⟨cs, hcs, hu2⟩ := List.mem_flatten.1 hu
    obtain ⟨i, hi⟩ := List.mem_iff_getElem?.1 hcs
    obtain ⟨x, hx⟩ := at_lt (xs := l) (i := i) (by rw [← h1.len]; exact (List.getElem?_eq_some_iff.1 hi).1)
    obtain ⟨rfl, _⟩ := h1.at i x cs hx hi
    simp [Span.cells] at hu2; rcases hu2 with rfl | rfl <;> rfl
set_option maxHeartbeats 1000000 in
set_option maxRecDepth 100000 in
theorem cloneS_calls (l : List Span) (v : Value) (w : World) (h : (listR spanR).rel w (upto w.heap.size) [v] l) (hne : l ≠ []) (hl : l.length ≤ 1000000) :
    Calls Try.prog 30 #[v] w fun e w' => ∃ u, e = .returned u ∧ (listR spanR).rel w' (Fresh w.heap.size w') [u] l ∧ Below w.heap.size w w' := by
  obtain ⟨A, c, rfl, hc, hm⟩ := list_form h
  obtain ⟨inf, hi0, hz0, hz1, hz2⟩ := info_parts info46
  obtain ⟨x, hx⟩ := at_lt (xs := l) (i := 0) (List.length_pos_iff.2 hne)
  obtain ⟨b, o, _, rfl, hb, _⟩ := list_at h hx
  obtain ⟨css, hr, hcl, hnews, hone⟩ := append_all_cloneS h (fun _ h => h)
  have hown : (w.alloc (.cells #[] 54)).ownsRow w.heap.size 54 2 (.slice (some ⟨w.heap.size, 0, none⟩) 0 0) 0 [] := World.ownsRow_lit w #[] 0 (Nat.le_refl _) (Nat.zero_le _) rfl
  have hB0 : Below w.heap.size w (w.alloc (.cells #[] 54)) := (Below.refl _ w).alloc (Nat.le_refl _) _
  have hnil : ∀ W : World, (binOp .eql 55 (.slice (some ⟨b, o, none⟩) l.length c) (.slice none 0 0)).run Try.prog W = .ok (.bool false) W := fun W => Lib.run_eql_slice_some_nil W ⟨b, o, none⟩ l.length c Try.underlying55
  clear hx
  go_enter Try.func30, Try.ntmps30
  go_wp2_with (at_builtin; refine Hid.out ?_)
  refine hid ?_
  show wpList _ _ _ _ _ _
  refine wpList_append_own _ (by rfl) _ _ 55 (by rfl) w.heap.size 54 inf _ 2 16 Try.underlying55 hi0 hz0 hz1 hz2 rfl (by decide) (.slice (some ⟨w.heap.size, 0, none⟩) 0 0) _ _ (by rfl) hown ⟨b, o, none⟩ l.length c css.flatten (by rfl) hcl hnews hone (by unfold maxLen; omega) (by omega) (by simp) ?_
  intro v' w3 hown3 hg3 hn3
  rw [Nat.zero_add, List.nil_append] at hown3
  have hF := FL.cloned (e := 54) (base := w.heap.size) (span_flat) hr hown3
  have hB3 := hB0.trans (below_grown hown hg3 (Nat.le_refl _) hB0.size)
  obtain ⟨A9, c9, rfl⟩ := hF.len
  clear hown3 hg3 hn3
  go_wp2_with fail
  go_ret
  exact ⟨_, rfl, hF.rel (Nat.le_refl _), hB3⟩
theorem append_all_cloneP {w : World} {S : Nat → Prop} {b o n c : Nat} {l : List Part} (h : (listR partR).rel w S [.slice (some ⟨b, o, none⟩) n c] l) (hS : ∀ g, S g → g < w.heap.size) :
    ∃ css, Rels partR w S css l ∧ css.flatten.length = l.length * 4 ∧ (∀ (j : Nat) (u : Value), css.flatten[j]? = some u → (w.alloc (.cells #[] 60)).cell? ((⟨b, o, none⟩ : Addr).add j) = some u) ∧ ∀ u ∈ css.flatten, u.oneCell' = true := by
  obtain ⟨css, h1, h2, h3⟩ := list_news h
  have hbl : l ≠ [] → b < w.heap.size := fun hne => by
    obtain ⟨x, hx⟩ := at_lt (xs := l) (i := 0) (List.length_pos_iff.2 hne)
    obtain ⟨b', o', _, hA, hb, _⟩ := list_at h hx
    cases hA
    exact hS _ hb
  refine ⟨css, h1, h2, fun j u hu => ?_, fun u hu => ?_⟩
  · have hne : l ≠ [] := by rintro rfl; rw [List.length_nil, Nat.zero_mul] at h2; rw [List.eq_nil_of_length_eq_zero h2] at hu; simp at hu
    have := h3 j u hu
    have ha : (⟨b, o, none⟩ : Addr).add j = ⟨b, o + j, none⟩ := by unfold Addr.add; split <;> simp_all
    rw [ha] at this ⊢
    rw [cellA _ _ _ _ (hbl hne)]
    exact this
  · obtain ⟨cs, hcs, hu2⟩ := List.mem_flatten.1 hu
    obtain ⟨i, hi⟩ := List.mem_iff_getElem?.1 hcs
    obtain ⟨x, hx⟩ := at_lt (xs := l) (i := i) (by rw [← h1.len]; exact (List.getElem?_eq_some_iff.1 hi).1)
    obtain ⟨rfl, _⟩ := h1.at i x cs hx hi
    simp [Part.cells] at hu2; rcases hu2 with rfl | rfl | rfl | rfl <;> rfl
set_option maxHeartbeats 1000000 in
set_option maxRecDepth 100000 in
theorem cloneP_calls (l : List Part) (v : Value) (w : World) (h : (listR partR).rel w (upto w.heap.size) [v] l) (hne : l ≠ []) (hl : l.length ≤ 1000000) :
    Calls Try.prog 31 #[v] w fun e w' => ∃ u, e = .returned u ∧ (listR partR).rel w' (Fresh w.heap.size w') [u] l ∧ Below w.heap.size w w' := by
  obtain ⟨A, c, rfl, hc, hm⟩ := list_form h
  obtain ⟨inf, hi0, hz0, hz1, hz2⟩ := info_parts infoPt
  obtain ⟨x, hx⟩ := at_lt (xs := l) (i := 0) (List.length_pos_iff.2 hne)
  obtain ⟨b, o, _, rfl, hb, _⟩ := list_at h hx
  obtain ⟨css, hr, hcl, hnews, hone⟩ := append_all_cloneP h (fun _ h => h)
  have hown : (w.alloc (.cells #[] 60)).ownsRow w.heap.size 60 4 (.slice (some ⟨w.heap.size, 0, none⟩) 0 0) 0 [] := World.ownsRow_lit w #[] 0 (Nat.le_refl _) (Nat.zero_le _) rfl
  have hB0 : Below w.heap.size w (w.alloc (.cells #[] 60)) := (Below.refl _ w).alloc (Nat.le_refl _) _
  have hnil : ∀ W : World, (binOp .eql 45 (.slice (some ⟨b, o, none⟩) l.length c) (.slice none 0 0)).run Try.prog W = .ok (.bool false) W := fun W => Lib.run_eql_slice_some_nil W ⟨b, o, none⟩ l.length c Try.underlying45
  clear hx
  go_enter Try.func31, Try.ntmps31
  go_wp2_with (at_builtin; refine Hid.out ?_)
  refine hid ?_
  show wpList _ _ _ _ _ _
  refine wpList_append_own _ (by rfl) _ _ 45 (by rfl) w.heap.size 60 inf _ 4 32 Try.underlying45 hi0 hz0 hz1 hz2 rfl (by decide) (.slice (some ⟨w.heap.size, 0, none⟩) 0 0) _ _ (by rfl) hown ⟨b, o, none⟩ l.length c css.flatten (by rfl) hcl hnews hone (by unfold maxLen; omega) (by omega) (by simp) ?_
  intro v' w3 hown3 hg3 hn3
  rw [Nat.zero_add, List.nil_append] at hown3
  have hF := FL.cloned (e := 60) (base := w.heap.size) (part_flat) hr hown3
  have hB3 := hB0.trans (below_grown hown hg3 (Nat.le_refl _) hB0.size)
  obtain ⟨A9, c9, rfl⟩ := hF.len
  clear hown3 hg3 hn3
  go_wp2_with fail
  go_ret
  exact ⟨_, rfl, hF.rel (Nat.le_refl _), hB3⟩
end Go.Proofs.Ytmkmikacfilbpaa
