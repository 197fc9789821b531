/-
  A scalar's bytes, as the reference makes them.
-/
import Derived.Test.YthfcbbdghggefaaGreatRCdE
namespace Go.Proofs.YthfcbbdghggefaaGreat
open Go.RowKit Go.Um Go.Proofs
/-- a row of bytes that a call has made. -/
def OwnB (e : TypeId) (w : World) (base : Nat) (v : Value) (l : List Int) : Prop := w.ownsRow base e 1 v l.length (l.map (Value.int .u8)) ∧ ∀ x ∈ l, 0 ≤ x ∧ x ≤ 255
theorem OwnB.nil {e : TypeId} {w : World} {base : Nat} : OwnB e w base (.slice none 0 0) [] := ⟨World.ownsRow_nil _ _ _ _, fun x hx => by cases hx⟩
theorem flat_bytes (l : List Int) : l.map (Value.int .u8) = l.flatMap fun x => [Value.int .u8 x] := by
  induction l with
  | nil => rfl
  | cons x l ih => rw [List.map_cons, ih]; rfl
theorem OwnB.rel {e : TypeId} {w : World} {base : Nat} {v : Value} {l : List Int} {S : Nat → Prop} (h : OwnB e w base v l) (hS : ∀ g, v.ownBlock = some g → S g) : bytesR.rel w S [v] l :=
  own_list (r := byteR) (enc := fun x => [Value.int .u8 x]) (by have := h.1; rw [flat_bytes] at this; exact this) hS (fun x hx => ⟨rfl, rfl, h.2 x hx⟩)
end Go.Proofs.YthfcbbdghggefaaGreat
