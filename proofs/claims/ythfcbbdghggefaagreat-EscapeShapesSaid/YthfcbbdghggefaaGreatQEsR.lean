/-
  A region that draws its order, operation by operation: what each yields, whatever has come before it.
-/
import Derived.Test.YthfcbbdghggefaaGreatPa
namespace Go.Um
open Go.RowKit
def upd (val : Nat → Value) (i : Nat) (v : Value) : Nat → Value := fun j => bif Nat.beq j i then v else val j
/-- operation i waits for operation k. -/
def depB (ops : Array Oper) (i k : Nat) : Bool := match ops[i]? with
  | none => false
  | some o => o.after.any fun e => Nat.beq e.on k && Region.binds .any e
/-- each waits for those ahead of it in the text alone. -/
def ordB (ops : Array Oper) : Bool := (List.range ops.size).all fun i => match ops[i]? with
  | none => true
  | some o => o.after.all fun e => Nat.blt e.on i || !Region.binds .any e
section
variable {P : Program} {ops : Array Oper} {Q : Exit → Act → World → Prop}
/-- so many, chosen, all quiet. -/
theorem anyL_pick {md : Region.Mode} {S : World → Prop} {last : Nat} {lo : List Oper} (ks : List Nat) (hk : (ks.all fun k => Nat.blt k lo.length) = true) (hs : Region.noSelect lo.toArray = true) (hQ : ∀ c (t u : Array Value) ds w, Q (.panic c) ⟨t, ds⟩ w → Q (.panic c) ⟨u, ds⟩ w) {w : World} (hS : S w) {f F : Nat} {listed : Array Bool} {a : Act}
    (hF : F = f + ks.length) (hB : batchB md lo.toArray last listed ks = true)
    (h : wpQuiet P lo.toArray S (fun a' => anyL P md lo.toArray Q S last f (marked listed ks) a' w) (ks.filterMap (lo[·]?)) a) : anyL P md lo.toArray Q S last F listed a w := by
  subst hF
  refine anyL_batch (P := P) (md := md) (ops := lo.toArray) (Q := Q) (S := S) (last := last) hs hQ hS (f := f) ks _ listed a ?_ hB h
  clear h hB
  induction ks with
  | nil => rfl
  | cons k ks ih =>
    rw [List.all_cons, Bool.and_eq_true] at hk
    have h1 : k < lo.length := by simpa using hk.1
    rw [List.map_cons, ih hk.2, List.filterMap_cons, List.getElem?_eq_getElem h1]
    simp [h1]
end
end Go.Um
