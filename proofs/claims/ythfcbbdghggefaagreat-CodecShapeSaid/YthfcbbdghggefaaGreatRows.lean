/-
  No cell of these rows narrows 'for every input' (looked for: loops, veiled, ifaces, maps, wideKeys, modest, calm, conditions, laid).
  DERIVED. THE GIVEN ROWS OF THIS SEAT. 5 by the template 'for every input the law returns true; each argument reads behind the call as it read before'; 0 by the template 'total and deterministic' (their statements: YthfcbbdghggefaaGreatTotals.lean).
  GIVEN WITH THE SEED: the statements are not yours to turn. If you find one false, say at which input.
  Laid BY PROGRAM, IN A SANDBOX (cutbox-rows.mjs): the forced cells as the released guide's own fill.sh prints them over the translation 4d8cd1ed3ca67fa0… (all of the seat's roots in one cut). By AI agents, Wed Nov 11 2026. No macro, syntax, notation, axiom, sorry.
-/
import Derived.Test.YthfcbbdghggefaaGreatChecked
import GoSem.Claim
import GoSem.ClaimJoined
import GoSem.ClaimMapViews
import Derived.JoinedTies
import Derived.KernelRfl
namespace Go.Proofs.YthfcbbdghggefaaGreat
/- THE CELL 'sum', in the pinned program and in every row, IS THE sha256 OF THE DUMP (.gsa) THAT YthfcbbdghggefaaGreatProg.lean LOADS. Nothing in Lean hashes anything: it is a label: what it is worth is what the hold of that sum in a sandbox is worth. -/
noncomputable def Tryz.pinned : Pinned := { name := "ythfcbbdghggefaagreat", sum := "4d8cd1ed3ca67fa0b242f06b369b006170171e3a627b106fca543e1e9a7d368c", checked := Tryz.checked }
namespace Rows
def none {H : Type} : Left H := { results := [], args := [] }

/-- 'umlautlaw11.CodecRules': WHATEVER THE INPUT: true; the input reads as it did. -/
def codecRulesSpec : ChangeSpec := { name := "codecRules", fn := fun _ => fun
  | [d] => { results := [.lit (.bool true)], args := [d] }
  | _ => none }
def codecRulesRow : OpenClaim := { program := "ythfcbbdghggefaagreat", sum := "4d8cd1ed3ca67fa0b242f06b369b006170171e3a627b106fca543e1e9a7d368c", func := "umlaut/umlautlaw11.CodecRules", spec := "codecRules", unfollowed := true, recurses := true, apart := false }
def CodecRulesSaid : Prop := codecRulesRow.holds Tryz.pinned (OpenSpec.ofChange codecRulesSpec)

/-- ITS FALSE NEIGHBOUR: 'it returns false'. Refute it at one input. -/
def codecRulesWrong : ChangeSpec := { name := "codecRules", fn := fun _ => fun
  | [d] => { results := [.lit (.bool false)], args := [d] }
  | _ => none }
def CodecRulesWrongFalsely : Prop := codecRulesRow.holds Tryz.pinned (OpenSpec.ofChange codecRulesWrong)

/-- 'umlautlaw11.CodecShape': WHATEVER THE INPUT: true; the input reads as it did. -/
def codecShapeSpec : ChangeSpec := { name := "codecShape", fn := fun _ => fun
  | [d] => { results := [.lit (.bool true)], args := [d] }
  | _ => none }
def codecShapeRow : OpenClaim := { program := "ythfcbbdghggefaagreat", sum := "4d8cd1ed3ca67fa0b242f06b369b006170171e3a627b106fca543e1e9a7d368c", func := "umlaut/umlautlaw11.CodecShape", spec := "codecShape", unfollowed := true, recurses := true, apart := false }
def CodecShapeSaid : Prop := codecShapeRow.holds Tryz.pinned (OpenSpec.ofChange codecShapeSpec)

/-- ITS FALSE NEIGHBOUR: 'it returns false'. Refute it at one input. -/
def codecShapeWrong : ChangeSpec := { name := "codecShape", fn := fun _ => fun
  | [d] => { results := [.lit (.bool false)], args := [d] }
  | _ => none }
def CodecShapeWrongFalsely : Prop := codecShapeRow.holds Tryz.pinned (OpenSpec.ofChange codecShapeWrong)

/-- 'umlautlaw23.EscapeHarmless': WHATEVER THE INPUT: true; the input reads as it did. -/
def escapeHarmlessSpec : ChangeSpec := { name := "escapeHarmless", fn := fun _ => fun
  | [d] => { results := [.lit (.bool true)], args := [d] }
  | _ => none }
def escapeHarmlessRow : OpenClaim := { program := "ythfcbbdghggefaagreat", sum := "4d8cd1ed3ca67fa0b242f06b369b006170171e3a627b106fca543e1e9a7d368c", func := "umlaut/umlautlaw23.EscapeHarmless", spec := "escapeHarmless", unfollowed := true, recurses := true, apart := false }
def EscapeHarmlessSaid : Prop := escapeHarmlessRow.holds Tryz.pinned (OpenSpec.ofChange escapeHarmlessSpec)

/-- ITS FALSE NEIGHBOUR: 'it returns false'. Refute it at one input. -/
def escapeHarmlessWrong : ChangeSpec := { name := "escapeHarmless", fn := fun _ => fun
  | [d] => { results := [.lit (.bool false)], args := [d] }
  | _ => none }
def EscapeHarmlessWrongFalsely : Prop := escapeHarmlessRow.holds Tryz.pinned (OpenSpec.ofChange escapeHarmlessWrong)

/-- 'umlautlaw23.EscapeSymbols': WHATEVER THE INPUT: true; the input reads as it did. -/
def escapeSymbolsSpec : ChangeSpec := { name := "escapeSymbols", fn := fun _ => fun
  | [d1, d2] => { results := [.lit (.bool true)], args := [d1, d2] }
  | _ => none }
def escapeSymbolsRow : OpenClaim := { program := "ythfcbbdghggefaagreat", sum := "4d8cd1ed3ca67fa0b242f06b369b006170171e3a627b106fca543e1e9a7d368c", func := "umlaut/umlautlaw23.EscapeSymbols", spec := "escapeSymbols", unfollowed := true, recurses := true, apart := false }
def EscapeSymbolsSaid : Prop := escapeSymbolsRow.holds Tryz.pinned (OpenSpec.ofChange escapeSymbolsSpec)

/-- ITS FALSE NEIGHBOUR: 'it returns false'. Refute it at one input. -/
def escapeSymbolsWrong : ChangeSpec := { name := "escapeSymbols", fn := fun _ => fun
  | [d1, d2] => { results := [.lit (.bool false)], args := [d1, d2] }
  | _ => none }
def EscapeSymbolsWrongFalsely : Prop := escapeSymbolsRow.holds Tryz.pinned (OpenSpec.ofChange escapeSymbolsWrong)

/-- 'umlautlaw23.EscapeShapes': WHATEVER THE INPUT: true; the input reads as it did. -/
def escapeShapesSpec : ChangeSpec := { name := "escapeShapes", fn := fun _ => fun
  | [d] => { results := [.lit (.bool true)], args := [d] }
  | _ => none }
def escapeShapesRow : OpenClaim := { program := "ythfcbbdghggefaagreat", sum := "4d8cd1ed3ca67fa0b242f06b369b006170171e3a627b106fca543e1e9a7d368c", func := "umlaut/umlautlaw23.EscapeShapes", spec := "escapeShapes", unfollowed := true, recurses := true, apart := false }
def EscapeShapesSaid : Prop := escapeShapesRow.holds Tryz.pinned (OpenSpec.ofChange escapeShapesSpec)

/-- ITS FALSE NEIGHBOUR: 'it returns false'. Refute it at one input. -/
def escapeShapesWrong : ChangeSpec := { name := "escapeShapes", fn := fun _ => fun
  | [d] => { results := [.lit (.bool false)], args := [d] }
  | _ => none }
def EscapeShapesWrongFalsely : Prop := escapeShapesRow.holds Tryz.pinned (OpenSpec.ofChange escapeShapesWrong)

/- THE SECOND FORM. 'bulk': how many values and letters a reading holds, each counted each time it is reached (what is shared counts as often as it is met; a slice's spare places count too). A statement '..UptoSaid' is the law's where the arguments, and the package variables that the reading takes, are together of bulk at most 1048576: NARROWER than '..Said'. Prove '..Said' where nothing that the law and all that it calls make is longer than what came in: it says more and counts as full. Else prove '..UptoSaid'. A law counts once. -/
mutual
def uptoBulk {H : Type} : DataW H → Nat
  | .lit (.string bytes) => bytes.length + 1
  | .lit _ => 1
  | .nil => 1
  | .ptr d => uptoBulk d + 1
  | .slice elems spare => uptoBulkAll elems + uptoBulkAll spare + 1
  | .agg parts => uptoBulkAll parts + 1
  | .iface _ d => uptoBulk d + 1
  | .map entries => uptoBulkEntries entries + 1
  | .held _ => 1
def uptoBulkAll {H : Type} : List (DataW H) → Nat
  | [] => 0
  | d :: r => uptoBulk d + uptoBulkAll r
def uptoBulkEntries {H : Type} : List (Lit × DataW H) → Nat
  | [] => 0
  | x :: r => uptoBulkEntry x + uptoBulkEntries r
def uptoBulkEntry {H : Type} : Lit × DataW H → Nat
  | (.string bytes, d) => bytes.length + uptoBulk d + 1
  | (_, d) => uptoBulk d + 1
 end
def uptoSmall : (H : Type) → List (DataW H) → Bool := fun _ ds => decide (uptoBulkAll ds ≤ 1048576)
def OpenSpec.upto (s : _root_.Go.ChangeSpec) : _root_.Go.OpenSpec := { _root_.Go.OpenSpec.ofChange s with cond := some uptoSmall }

/-- 'umlautlaw11.CodecRules', WHERE WHAT IT READS IS OF BULK AT MOST 1048576: true; the input reads as it did. -/
def codecRulesUptoRow : OpenClaim := { program := "ythfcbbdghggefaagreat", sum := "4d8cd1ed3ca67fa0b242f06b369b006170171e3a627b106fca543e1e9a7d368c", func := "umlaut/umlautlaw11.CodecRules", spec := "codecRules", unfollowed := true, recurses := true, apart := false, narrowed := true }
def CodecRulesUptoSaid : Prop := codecRulesUptoRow.holds Tryz.pinned (OpenSpec.upto codecRulesSpec)

/-- 'umlautlaw11.CodecShape', WHERE WHAT IT READS IS OF BULK AT MOST 1048576: true; the input reads as it did. -/
def codecShapeUptoRow : OpenClaim := { program := "ythfcbbdghggefaagreat", sum := "4d8cd1ed3ca67fa0b242f06b369b006170171e3a627b106fca543e1e9a7d368c", func := "umlaut/umlautlaw11.CodecShape", spec := "codecShape", unfollowed := true, recurses := true, apart := false, narrowed := true }
def CodecShapeUptoSaid : Prop := codecShapeUptoRow.holds Tryz.pinned (OpenSpec.upto codecShapeSpec)

/-- 'umlautlaw23.EscapeHarmless', WHERE WHAT IT READS IS OF BULK AT MOST 1048576: true; the input reads as it did. -/
def escapeHarmlessUptoRow : OpenClaim := { program := "ythfcbbdghggefaagreat", sum := "4d8cd1ed3ca67fa0b242f06b369b006170171e3a627b106fca543e1e9a7d368c", func := "umlaut/umlautlaw23.EscapeHarmless", spec := "escapeHarmless", unfollowed := true, recurses := true, apart := false, narrowed := true }
def EscapeHarmlessUptoSaid : Prop := escapeHarmlessUptoRow.holds Tryz.pinned (OpenSpec.upto escapeHarmlessSpec)

/-- 'umlautlaw23.EscapeSymbols', WHERE WHAT IT READS IS OF BULK AT MOST 1048576: true; the input reads as it did. -/
def escapeSymbolsUptoRow : OpenClaim := { program := "ythfcbbdghggefaagreat", sum := "4d8cd1ed3ca67fa0b242f06b369b006170171e3a627b106fca543e1e9a7d368c", func := "umlaut/umlautlaw23.EscapeSymbols", spec := "escapeSymbols", unfollowed := true, recurses := true, apart := false, narrowed := true }
def EscapeSymbolsUptoSaid : Prop := escapeSymbolsUptoRow.holds Tryz.pinned (OpenSpec.upto escapeSymbolsSpec)

/-- 'umlautlaw23.EscapeShapes', WHERE WHAT IT READS IS OF BULK AT MOST 1048576: true; the input reads as it did. -/
def escapeShapesUptoRow : OpenClaim := { program := "ythfcbbdghggefaagreat", sum := "4d8cd1ed3ca67fa0b242f06b369b006170171e3a627b106fca543e1e9a7d368c", func := "umlaut/umlautlaw23.EscapeShapes", spec := "escapeShapes", unfollowed := true, recurses := true, apart := false, narrowed := true }
def EscapeShapesUptoSaid : Prop := escapeShapesUptoRow.holds Tryz.pinned (OpenSpec.upto escapeShapesSpec)

end Rows
end Go.Proofs.YthfcbbdghggefaaGreat
