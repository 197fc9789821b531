/-
  No cell of these rows narrows 'for every input' (looked for: loops, veiled, ifaces, maps, wideKeys, modest, calm, conditions, laid).
  DERIVED. THE GIVEN ROWS OF THIS SEAT. 7 by the template 'for every input the law returns true; each argument reads behind the call as it read before'; 0 by the template 'total and deterministic' (their statements: YtofcjmjokokajaaGreatTotals.lean).
  GIVEN WITH THE SEED: the statements are not yours to turn. If you find one false, say at which input.
  Laid BY PROGRAM, IN A SANDBOX (cutbox-rows.mjs): the forced cells as the released guide's own fill.sh prints them over the translation 042fcf95beebb83b… (all of the seat's roots in one cut). By AI agents, Wed Nov 11 2026. No macro, syntax, notation, axiom, sorry.
-/
import Derived.Test.YtofcjmjokokajaaGreatChecked
import GoSem.Claim
import GoSem.ClaimJoined
import GoSem.ClaimMapViews
import Derived.JoinedTies
import Derived.KernelRfl
namespace Go.Proofs.YtofcjmjokokajaaGreat
/- THE CELL 'sum', in the pinned program and in every row, IS THE sha256 OF THE DUMP (.gsa) THAT YtofcjmjokokajaaGreatProg.lean LOADS. Nothing in Lean hashes anything: it is a label: what it is worth is what the hold of that sum in a sandbox is worth. -/
noncomputable def Tryz.pinned : Pinned := { name := "ytofcjmjokokajaagreat", sum := "042fcf95beebb83bcd45ca5b8a55c71bab7dc6a44bde2fdf7de31854c37b0527", checked := Tryz.checked }
namespace Rows
def none {H : Type} : Left H := { results := [], args := [] }

/-- 'umlautlaw11.CodecRules': WHATEVER THE INPUT: true; the input reads as it did. -/
def codecRulesSpec : ChangeSpec := { name := "codecRules", fn := fun _ => fun
  | [d] => { results := [.lit (.bool true)], args := [d] }
  | _ => none }
def codecRulesRow : OpenClaim := { program := "ytofcjmjokokajaagreat", sum := "042fcf95beebb83bcd45ca5b8a55c71bab7dc6a44bde2fdf7de31854c37b0527", func := "umlaut/umlautlaw11.CodecRules", spec := "codecRules", unfollowed := true, recurses := true, plainKeys := false, apart := false }
def CodecRulesSaid : Prop := codecRulesRow.holds Tryz.pinned (OpenSpec.ofChange codecRulesSpec)

/-- ITS FALSE NEIGHBOUR: 'it returns false'. Refute it at one input. -/
def codecRulesWrong : ChangeSpec := { name := "codecRules", fn := fun _ => fun
  | [d] => { results := [.lit (.bool false)], args := [d] }
  | _ => none }
def CodecRulesWrongFalsely : Prop := codecRulesRow.holds Tryz.pinned (OpenSpec.ofChange codecRulesWrong)

/-- 'umlautlaw27.ShipCleans': WHATEVER THE INPUT: true; the input reads as it did. -/
def shipCleansSpec : ChangeSpec := { name := "shipCleans", fn := fun _ => fun
  | [d1, d2] => { results := [.lit (.bool true)], args := [d1, d2] }
  | _ => none }
def shipCleansRow : OpenClaim := { program := "ytofcjmjokokajaagreat", sum := "042fcf95beebb83bcd45ca5b8a55c71bab7dc6a44bde2fdf7de31854c37b0527", func := "umlaut/umlautlaw27.ShipCleans", spec := "shipCleans", unfollowed := true, recurses := true, plainKeys := false, apart := false }
def ShipCleansSaid : Prop := shipCleansRow.holds Tryz.pinned (OpenSpec.ofChange shipCleansSpec)

/-- ITS FALSE NEIGHBOUR: 'it returns false'. Refute it at one input. -/
def shipCleansWrong : ChangeSpec := { name := "shipCleans", fn := fun _ => fun
  | [d1, d2] => { results := [.lit (.bool false)], args := [d1, d2] }
  | _ => none }
def ShipCleansWrongFalsely : Prop := shipCleansRow.holds Tryz.pinned (OpenSpec.ofChange shipCleansWrong)

/-- 'umlautlaw27.ShipTables': WHATEVER THE INPUT: true; the input reads as it did. -/
def shipTablesSpec : ChangeSpec := { name := "shipTables", fn := fun _ => fun
  | [d] => { results := [.lit (.bool true)], args := [d] }
  | _ => none }
def shipTablesRow : OpenClaim := { program := "ytofcjmjokokajaagreat", sum := "042fcf95beebb83bcd45ca5b8a55c71bab7dc6a44bde2fdf7de31854c37b0527", func := "umlaut/umlautlaw27.ShipTables", spec := "shipTables", unfollowed := true, recurses := true, plainKeys := false, apart := false }
def ShipTablesSaid : Prop := shipTablesRow.holds Tryz.pinned (OpenSpec.ofChange shipTablesSpec)

/-- ITS FALSE NEIGHBOUR: 'it returns false'. Refute it at one input. -/
def shipTablesWrong : ChangeSpec := { name := "shipTables", fn := fun _ => fun
  | [d] => { results := [.lit (.bool false)], args := [d] }
  | _ => none }
def ShipTablesWrongFalsely : Prop := shipTablesRow.holds Tryz.pinned (OpenSpec.ofChange shipTablesWrong)

/-- 'umlautlaw27.ShipBack': WHATEVER THE INPUT: true; the input reads as it did. -/
def shipBackSpec : ChangeSpec := { name := "shipBack", fn := fun _ => fun
  | [d] => { results := [.lit (.bool true)], args := [d] }
  | _ => none }
def shipBackRow : OpenClaim := { program := "ytofcjmjokokajaagreat", sum := "042fcf95beebb83bcd45ca5b8a55c71bab7dc6a44bde2fdf7de31854c37b0527", func := "umlaut/umlautlaw27.ShipBack", spec := "shipBack", unfollowed := true, recurses := true, plainKeys := false, apart := false }
def ShipBackSaid : Prop := shipBackRow.holds Tryz.pinned (OpenSpec.ofChange shipBackSpec)

/-- ITS FALSE NEIGHBOUR: 'it returns false'. Refute it at one input. -/
def shipBackWrong : ChangeSpec := { name := "shipBack", fn := fun _ => fun
  | [d] => { results := [.lit (.bool false)], args := [d] }
  | _ => none }
def ShipBackWrongFalsely : Prop := shipBackRow.holds Tryz.pinned (OpenSpec.ofChange shipBackWrong)

/-- 'umlautlaw27.ShipStreams': WHATEVER THE INPUT: true; the input reads as it did. -/
def shipStreamsSpec : ChangeSpec := { name := "shipStreams", fn := fun _ => fun
  | [d1, d2] => { results := [.lit (.bool true)], args := [d1, d2] }
  | _ => none }
def shipStreamsRow : OpenClaim := { program := "ytofcjmjokokajaagreat", sum := "042fcf95beebb83bcd45ca5b8a55c71bab7dc6a44bde2fdf7de31854c37b0527", func := "umlaut/umlautlaw27.ShipStreams", spec := "shipStreams", unfollowed := true, recurses := true, plainKeys := false, apart := false }
def ShipStreamsSaid : Prop := shipStreamsRow.holds Tryz.pinned (OpenSpec.ofChange shipStreamsSpec)

/-- ITS FALSE NEIGHBOUR: 'it returns false'. Refute it at one input. -/
def shipStreamsWrong : ChangeSpec := { name := "shipStreams", fn := fun _ => fun
  | [d1, d2] => { results := [.lit (.bool false)], args := [d1, d2] }
  | _ => none }
def ShipStreamsWrongFalsely : Prop := shipStreamsRow.holds Tryz.pinned (OpenSpec.ofChange shipStreamsWrong)

/-- 'umlautlaw27.ShipDirect': WHATEVER THE INPUT: true; the input reads as it did. -/
def shipDirectSpec : ChangeSpec := { name := "shipDirect", fn := fun _ => fun
  | [d1, d2] => { results := [.lit (.bool true)], args := [d1, d2] }
  | _ => none }
def shipDirectRow : OpenClaim := { program := "ytofcjmjokokajaagreat", sum := "042fcf95beebb83bcd45ca5b8a55c71bab7dc6a44bde2fdf7de31854c37b0527", func := "umlaut/umlautlaw27.ShipDirect", spec := "shipDirect", unfollowed := true, recurses := true, plainKeys := false, apart := false }
def ShipDirectSaid : Prop := shipDirectRow.holds Tryz.pinned (OpenSpec.ofChange shipDirectSpec)

/-- ITS FALSE NEIGHBOUR: 'it returns false'. Refute it at one input. -/
def shipDirectWrong : ChangeSpec := { name := "shipDirect", fn := fun _ => fun
  | [d1, d2] => { results := [.lit (.bool false)], args := [d1, d2] }
  | _ => none }
def ShipDirectWrongFalsely : Prop := shipDirectRow.holds Tryz.pinned (OpenSpec.ofChange shipDirectWrong)

/-- 'umlautlaw27.ShipMachines': WHATEVER THE INPUT: true; the input reads as it did. -/
def shipMachinesSpec : ChangeSpec := { name := "shipMachines", fn := fun _ => fun
  | [d1, d2] => { results := [.lit (.bool true)], args := [d1, d2] }
  | _ => none }
def shipMachinesRow : OpenClaim := { program := "ytofcjmjokokajaagreat", sum := "042fcf95beebb83bcd45ca5b8a55c71bab7dc6a44bde2fdf7de31854c37b0527", func := "umlaut/umlautlaw27.ShipMachines", spec := "shipMachines", unfollowed := true, recurses := true, plainKeys := false, apart := false }
def ShipMachinesSaid : Prop := shipMachinesRow.holds Tryz.pinned (OpenSpec.ofChange shipMachinesSpec)

/-- ITS FALSE NEIGHBOUR: 'it returns false'. Refute it at one input. -/
def shipMachinesWrong : ChangeSpec := { name := "shipMachines", fn := fun _ => fun
  | [d1, d2] => { results := [.lit (.bool false)], args := [d1, d2] }
  | _ => none }
def ShipMachinesWrongFalsely : Prop := shipMachinesRow.holds Tryz.pinned (OpenSpec.ofChange shipMachinesWrong)

/- THE SECOND FORM. 'bulk': how many values and letters a reading holds, each counted each time it is reached (what is shared counts as often as it is met; a slice's spare places count too). A statement '..UptoSaid' is the law's where the arguments, and the package variables that the reading takes, are together of bulk at most 1048576: NARROWER than '..Said'. Prove '..Said' where nothing that the law and all that it calls make is longer than what came in: it says more and counts as full. Else prove '..UptoSaid'. A law counts once. -/
mutual
def uptoBulk {H : Type} : DataW H → Nat
  | .lit (.string bytes) => bytes.length + 1
  | .lit _ => 1
  | .nil => 1
  | .ptr d => uptoBulk d + 1
  | .slice elems spare => uptoBulkAll elems + uptoBulkAll spare + 1
  | .agg parts => uptoBulkAll parts + 1
  | .iface _ d => uptoBulk d + 1
  | .map entries => uptoBulkEntries entries + 1
  | .held _ => 1
def uptoBulkAll {H : Type} : List (DataW H) → Nat
  | [] => 0
  | d :: r => uptoBulk d + uptoBulkAll r
def uptoBulkEntries {H : Type} : List (Lit × DataW H) → Nat
  | [] => 0
  | x :: r => uptoBulkEntry x + uptoBulkEntries r
def uptoBulkEntry {H : Type} : Lit × DataW H → Nat
  | (.string bytes, d) => bytes.length + uptoBulk d + 1
  | (_, d) => uptoBulk d + 1
 end
def uptoSmall : (H : Type) → List (DataW H) → Bool := fun _ ds => decide (uptoBulkAll ds ≤ 1048576)
def OpenSpec.upto (s : _root_.Go.ChangeSpec) : _root_.Go.OpenSpec := { _root_.Go.OpenSpec.ofChange s with cond := some uptoSmall }

/-- 'umlautlaw11.CodecRules', WHERE WHAT IT READS IS OF BULK AT MOST 1048576: true; the input reads as it did. -/
def codecRulesUptoRow : OpenClaim := { program := "ytofcjmjokokajaagreat", sum := "042fcf95beebb83bcd45ca5b8a55c71bab7dc6a44bde2fdf7de31854c37b0527", func := "umlaut/umlautlaw11.CodecRules", spec := "codecRules", unfollowed := true, recurses := true, plainKeys := false, apart := false, narrowed := true }
def CodecRulesUptoSaid : Prop := codecRulesUptoRow.holds Tryz.pinned (OpenSpec.upto codecRulesSpec)

/-- 'umlautlaw27.ShipCleans', WHERE WHAT IT READS IS OF BULK AT MOST 1048576: true; the input reads as it did. -/
def shipCleansUptoRow : OpenClaim := { program := "ytofcjmjokokajaagreat", sum := "042fcf95beebb83bcd45ca5b8a55c71bab7dc6a44bde2fdf7de31854c37b0527", func := "umlaut/umlautlaw27.ShipCleans", spec := "shipCleans", unfollowed := true, recurses := true, plainKeys := false, apart := false, narrowed := true }
def ShipCleansUptoSaid : Prop := shipCleansUptoRow.holds Tryz.pinned (OpenSpec.upto shipCleansSpec)

/-- 'umlautlaw27.ShipTables', WHERE WHAT IT READS IS OF BULK AT MOST 1048576: true; the input reads as it did. -/
def shipTablesUptoRow : OpenClaim := { program := "ytofcjmjokokajaagreat", sum := "042fcf95beebb83bcd45ca5b8a55c71bab7dc6a44bde2fdf7de31854c37b0527", func := "umlaut/umlautlaw27.ShipTables", spec := "shipTables", unfollowed := true, recurses := true, plainKeys := false, apart := false, narrowed := true }
def ShipTablesUptoSaid : Prop := shipTablesUptoRow.holds Tryz.pinned (OpenSpec.upto shipTablesSpec)

/-- 'umlautlaw27.ShipBack', WHERE WHAT IT READS IS OF BULK AT MOST 1048576: true; the input reads as it did. -/
def shipBackUptoRow : OpenClaim := { program := "ytofcjmjokokajaagreat", sum := "042fcf95beebb83bcd45ca5b8a55c71bab7dc6a44bde2fdf7de31854c37b0527", func := "umlaut/umlautlaw27.ShipBack", spec := "shipBack", unfollowed := true, recurses := true, plainKeys := false, apart := false, narrowed := true }
def ShipBackUptoSaid : Prop := shipBackUptoRow.holds Tryz.pinned (OpenSpec.upto shipBackSpec)

/-- 'umlautlaw27.ShipStreams', WHERE WHAT IT READS IS OF BULK AT MOST 1048576: true; the input reads as it did. -/
def shipStreamsUptoRow : OpenClaim := { program := "ytofcjmjokokajaagreat", sum := "042fcf95beebb83bcd45ca5b8a55c71bab7dc6a44bde2fdf7de31854c37b0527", func := "umlaut/umlautlaw27.ShipStreams", spec := "shipStreams", unfollowed := true, recurses := true, plainKeys := false, apart := false, narrowed := true }
def ShipStreamsUptoSaid : Prop := shipStreamsUptoRow.holds Tryz.pinned (OpenSpec.upto shipStreamsSpec)

/-- 'umlautlaw27.ShipDirect', WHERE WHAT IT READS IS OF BULK AT MOST 1048576: true; the input reads as it did. -/
def shipDirectUptoRow : OpenClaim := { program := "ytofcjmjokokajaagreat", sum := "042fcf95beebb83bcd45ca5b8a55c71bab7dc6a44bde2fdf7de31854c37b0527", func := "umlaut/umlautlaw27.ShipDirect", spec := "shipDirect", unfollowed := true, recurses := true, plainKeys := false, apart := false, narrowed := true }
def ShipDirectUptoSaid : Prop := shipDirectUptoRow.holds Tryz.pinned (OpenSpec.upto shipDirectSpec)

/-- 'umlautlaw27.ShipMachines', WHERE WHAT IT READS IS OF BULK AT MOST 1048576: true; the input reads as it did. -/
def shipMachinesUptoRow : OpenClaim := { program := "ytofcjmjokokajaagreat", sum := "042fcf95beebb83bcd45ca5b8a55c71bab7dc6a44bde2fdf7de31854c37b0527", func := "umlaut/umlautlaw27.ShipMachines", spec := "shipMachines", unfollowed := true, recurses := true, plainKeys := false, apart := false, narrowed := true }
def ShipMachinesUptoSaid : Prop := shipMachinesUptoRow.holds Tryz.pinned (OpenSpec.upto shipMachinesSpec)

end Rows
end Go.Proofs.YtofcjmjokokajaaGreat
