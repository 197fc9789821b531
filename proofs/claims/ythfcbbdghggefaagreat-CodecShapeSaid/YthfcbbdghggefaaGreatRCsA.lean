/-
  Of any two rules and finals of what repairs at most one fits at any place of any bytes, plain Lean. No program is named here.
-/
import Derived.Test.YthfcbbdghggefaaGreatRCdB
import Derived.Test.YthfcbbdghggefaaGreatRCdD
namespace Go.Proofs.YthfcbbdghggefaaGreat
open Go.Proofs Go.Um Go.RowKit
def mayO (y : List Int) (o : Opt) : Bool := decide (o.src = 0) && fitL o.guards y && (!o.fin || decide (o.guards.length = y.length))
theorem count_one {α : Type} {p : α → Bool} : ∀ {l : List α}, (∀ (i j : Nat) (x y : α), l[i]? = some x → l[j]? = some y → p x = true → p y = true → i = j) → l.countP p ≤ 1
  | [], _ => by simp
  | a :: l, h => by
    rw [List.countP_cons]
    by_cases ha : p a = true
    · rw [if_pos ha, List.countP_eq_zero.2 fun x hx hpx => ?_]
      · exact Nat.le_refl _
      obtain ⟨j, hj⟩ := List.mem_iff_getElem?.1 hx
      have := h 0 (j + 1) a x rfl (by simpa using hj) ha hpx
      omega
    · rw [if_neg ha]
      exact count_one fun i j x y hi hj hx hy => by
        have := h (i + 1) (j + 1) x y (by simpa using hi) (by simpa using hj) hx hy
        omega
theorem mayO_iff {x : List Int} (hx : byteL x) {n : Nat} {o : Opt} (h : mayO (x.drop n) o = true) : mayF x n 0 o := by
  unfold mayO at h
  rw [Bool.and_eq_true, Bool.and_eq_true, decide_eq_true_eq] at h
  refine ⟨h.1.1, (fitsX_iff hx.sym _ _).2 h.1.2, fun hf => ?_⟩
  have h3 := h.2
  rw [hf] at h3
  simp at h3
  omega
theorem fin_iff {d : Desc} {p : Nat} {o : Opt} (h : (optsD d)[p]? = some o) : o.fin = true ↔ d.rules.length ≤ p := by
  unfold optsD at h
  by_cases hp : p < d.rules.length
  · rw [List.getElem?_append_left (by simpa using hp), List.getElem?_map] at h
    obtain ⟨r, _, rfl⟩ := Option.map_eq_some_iff.1 h
    simp [ruleOpt]
    omega
  · rw [List.getElem?_append_right (by simpa using hp), List.getElem?_map] at h
    obtain ⟨r, _, rfl⟩ := Option.map_eq_some_iff.1 h
    simp [finalOpt]
    omega
theorem one_fits {d : Desc} (h : outerS (optsD d) 0 (optsD d) = none) {x : List Int} (hx : byteL x) (n : Nat) : d.rules.countP (fun r => mayO (x.drop n) (ruleOpt r)) + d.finals.countP (fun f => mayO (x.drop n) (finalOpt f)) ≤ 1 := by
  have := count_one (l := optsD d) (p := mayO (x.drop n)) fun i j o r hi hj ho hr => sole_one h hi hj (mayO_iff hx ho) (mayO_iff hx hr) (fin_iff hi) (fin_iff hj)
  unfold optsD at this
  rw [List.countP_append, List.countP_map, List.countP_map] at this
  exact this
theorem count_snoc {α : Type} {p : α → Bool} {l : List α} {k : Nat} {x : α} (h : l[k]? = some x) : (l.take (k + 1)).countP p = (l.take k).countP p + (if p x then 1 else 0) := by
  rw [List.take_add_one, h, List.countP_append]
  simp [List.countP_cons]
end Go.Proofs.YthfcbbdghggefaaGreat
