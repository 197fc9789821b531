/-
  What is handed in as data reads as lists. No program is named here.
-/
import Derived.Test.YtcdnkmefcldfmaaDoorMem
import Derived.Deep.Slices
import Derived.Deep.Fields
import Derived.ChangeSame
namespace Go.Um
open Go.RowKit Go.ChangeShapes Go.WideShapes Go.Deep

section
variable {H : Type} {enc : TypeId × Value → H} {P : Program} {w : World} {base : Nat} {spare : Nat → Bool} {held : Bool}
theorem open_fields {e : TypeId} {fs : Array Field} {fuel : Nat} {cs : List Value} {x : DataW H × List MemPlace} (he : P.underlying e = some (.struct fs)) (hone : oneCellFields P fs = true) (hC : P.cellsOf e = fs.size)
    (h : DataW.trod enc P w base spare held fuel e cs = some x) : cs.length = fs.size ∧ ∃ n, ∀ (j : Nat) (f : Field), fs[j]? = some f → ∃ (v : Value) (y : DataW H × List MemPlace), cs[j]? = some v ∧ DataW.trod enc P w base spare held n f.type [v] = some y := by
  obtain ⟨ys, n', hn', hy, hlen, hyl, hf⟩ := DataW.trod_struct he h
  rw [hC] at hlen
  refine ⟨hlen, n', fun j f hj => ?_⟩
  obtain ⟨ho, hk⟩ := hone_of hone j f hj
  have hjl : j < fs.size := (Array.getElem?_eq_some_iff.1 hj).1
  have hv : cs[j]? = some (cs[j]'(by omega)) := List.getElem?_eq_getElem (by omega)
  have h1 := hf j f hj
  rw [ho, hk] at h1
  have hone' : (cs.drop j).take 1 = [cs[j]'(by omega)] := by
    rw [List.drop_eq_getElem_cons (by omega)]
    rfl
  rw [hone'] at h1
  have hys : ys[j]? = some (ys[j]'(by omega)) := List.getElem?_eq_getElem (by omega)
  exact ⟨_, _, hv, h1.trans hys⟩

theorem open_rep {α : Type} {r : RepOf α} {t e : TypeId} {fuel : Nat} {cs : List Value} {x : DataW H × List MemPlace} (ht : P.underlying t = some (.slice e)) (hC : P.cellsOf e = r.width) (hw : 0 < r.width)
    (hel : ∀ fuel cs x, DataW.trod enc P w base spare held fuel e cs = some x → ∃ y, r.rel w (upto w.heap.size) cs y)
    (h : DataW.trod enc P w base spare held fuel t cs = some x) : ∃ ys, (listR r).rel w (upto w.heap.size) cs ys := by
  rcases open_slice ht h with ⟨rfl, _⟩ | ⟨a, len, cap, m, n, D, Pl, rfl, hb, hl, hm, hmm, hx, hi⟩
  · exact ⟨[], list_nil r _ _⟩
  · have hlm : len ≤ m := by rw [hmm]; split <;> omega
    have hall : ∀ k, k ≤ len → ∃ ys : List α, ys.length = k ∧ ∀ (i : Nat) (y : α), ys[i]? = some y → ∃ ds, r.rel w (upto w.heap.size) ds y ∧ ∀ (j : Nat) (v : Value), ds[j]? = some v → w.cell? (a.add (i * r.width + j)) = some v := by
      intro k
      induction k with
      | zero => exact fun _ => ⟨[], rfl, fun i y hy => by simp at hy⟩
      | succ k ih =>
        intro hk
        obtain ⟨ys, hyl, hys⟩ := ih (by omega)
        obtain ⟨cs', hc, ht'⟩ := hi k (by omega)
        obtain ⟨y, hy⟩ := hel _ _ _ ht'
        rw [hC] at hc
        obtain ⟨_, hcl, hat⟩ := World.cells?_some hc
        refine ⟨ys ++ [y], by simp [hyl], fun i z hz => ?_⟩
        rcases Nat.lt_or_ge i ys.length with h1 | h1
        · rw [List.getElem?_append_left h1] at hz
          exact hys i z hz
        · rw [List.getElem?_append_right h1] at hz
          have : i = k := by
            have := (List.getElem?_eq_some_iff.1 hz).1
            simp at this
            omega
          subst this
          rw [hyl, Nat.sub_self] at hz
          simp at hz
          subst hz
          refine ⟨cs', hy, fun j v hv => ?_⟩
          have hj := (List.getElem?_eq_some_iff.1 hv).1
          rw [← Go.Deep.add_add, hat j (by omega), hv]
    obtain ⟨ys, hyl, hys⟩ := hall len (Nat.le_refl _)
    refine ⟨ys, some a, len, cap, rfl, hyl.symm, hl, hm, ?_⟩
    rcases Nat.eq_zero_or_pos len with h0 | h0
    · exact .inl h0
    · right
      obtain ⟨y, hy⟩ := at_lt (xs := ys) (i := 0) (by omega)
      obtain ⟨ds, hr, hd⟩ := hys 0 y hy
      have hdl := r.len hr
      have hc0 := hd 0 (ds[0]'(by omega)) (List.getElem?_eq_getElem (by omega))
      obtain ⟨b, o, spot⟩ := a
      have hspot : spot = none := by simpa [Addr.add] using World.cell?_spot hc0
      subst hspot
      have hadd : ∀ k, (⟨b, o, none⟩ : Addr).add k = ⟨b, o + k, none⟩ := fun k => by unfold Addr.add; split <;> simp_all
      refine ⟨b, o, rfl, ?_, fun i z hz => ?_⟩
      · have h1 : w.cell? ⟨b, o + (0 * r.width + 0), none⟩ = some (ds[0]'(by omega)) := by rw [← hadd]; exact hc0
        exact block_lt_of_cell h1
      · obtain ⟨ds, hr, hd⟩ := hys i z hz
        refine ⟨ds, hr, fun j v hv => ?_⟩
        have := hd j v hv
        rw [hadd] at this
        rw [Nat.add_assoc]
        exact this
end
end Go.Um
