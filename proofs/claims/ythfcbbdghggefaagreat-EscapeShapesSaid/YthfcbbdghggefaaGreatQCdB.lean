/-
  Bytes read scalar by scalar, and repaired: what stands at a place, and the rows of what decodes and repairs, plain Lean. No program is named here.
-/
import Derived.Test.YthfcbbdghggefaaGreatQCdA
namespace Go.Proofs.YthfcbbdghggefaaGreat
open Go.Proofs Go.Um Go.RowKit
def fitL : List (List Span) → List Int → Bool
  | [], _ => true
  | _ :: _, [] => false
  | g :: gs, z :: zs => hasB g z && fitL gs zs
def byteL (x : List Int) : Prop := ∀ z ∈ x, 0 ≤ z ∧ z ≤ 255
def symX (x : List Int) : Prop := ∀ z ∈ x, -1073741824 ≤ z ∧ z ≤ 1073741824
theorem byteL.sym {x : List Int} (h : byteL x) : symX x := fun z hz => by have := h z hz; omega
theorem byteL.drop {x : List Int} (h : byteL x) (n : Nat) : byteL (x.drop n) := fun z hz => h z (List.mem_of_mem_drop hz)
theorem fitL_iff : ∀ {gs : List (List Span)} {y : List Int}, symX y → (fitL gs y = true ↔ gs.length ≤ y.length ∧ ∀ (i : Nat) (g : List Span) (z : Int), gs[i]? = some g → y[i]? = some z → inSet g z)
  | [], y, _ => by simp [fitL]
  | g :: gs, [], _ => by simp [fitL]
  | g :: gs, z :: zs, h => by
    have hz := h z (by simp)
    have ih := fitL_iff (gs := gs) (y := zs) fun q hq => h q (by simp [hq])
    unfold fitL
    rw [Bool.and_eq_true, hasB_iff, ih]
    constructor
    · rintro ⟨h1, h2, h3⟩
      refine ⟨by simpa using h2, fun i g' z' hg' hz' => ?_⟩
      cases i with
      | zero =>
        simp at hg' hz'
        subst hg' hz'
        exact ⟨hz, h1⟩
      | succ i => exact h3 i g' z' (by simpa using hg') (by simpa using hz')
    · rintro ⟨h1, h2⟩
      exact ⟨(h2 0 g z (by simp) (by simp)).2, by simpa using h1, fun i g' z' hg' hz' => h2 (i + 1) g' z' (by simpa using hg') (by simpa using hz')⟩
theorem fitsX_iff {x : List Int} (hx : symX x) (gs : List (List Span)) (a : Nat) : fitsX x gs a ↔ fitL gs (x.drop a) = true := by
  rw [fitL_iff (fun z hz => hx z (List.mem_of_mem_drop hz))]
  unfold fitsX
  simp only [List.length_drop, List.getElem?_drop]
def tryF (y : List Int) (n : Nat) : Option (Int × Nat) := if n ≤ y.length then (scalF (y.take n)).map fun x => (x, n) else none
def firstF (y : List Int) : Option (Int × Nat) := (tryF y 1).or ((tryF y 2).or ((tryF y 3).or (tryF y 4)))
def mostF (y : List Int) : Nat := if 3 ≤ y.length ∧ begF (y.take 3) 4 = true then 3 else if 2 ≤ y.length ∧ (begF (y.take 2) 3 = true ∨ begF (y.take 2) 4 = true) then 2 else 1
def scanF (y : List Int) : Int × Nat × Bool := match firstF y with
  | some p => (p.1, p.2, true)
  | none => (65533, mostF y, false)
end Go.Proofs.YthfcbbdghggefaaGreat
