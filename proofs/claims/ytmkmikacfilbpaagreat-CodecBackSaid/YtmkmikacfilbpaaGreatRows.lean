/-
  No cell of these rows narrows 'for every input' (looked for: loops, veiled, ifaces, maps, wideKeys, modest, calm, conditions, laid).
  DERIVED. THE GIVEN ROWS OF THIS SEAT. 11 by the template 'for every input the law returns true; each argument reads behind the call as it read before'; 0 by the template 'total and deterministic' (their statements: YtmkmikacfilbpaaGreatTotals.lean).
  GIVEN WITH THE SEED: the statements are not yours to turn. If you find one false, say at which input.
  Laid BY PROGRAM, IN A SANDBOX (cutbox-rows.mjs): the forced cells as the released guide's own fill.sh prints them over the translation a316ab604c4f26b2… (all of the seat's roots in one cut). By AI agents, Wed Nov 11 2026. No macro, syntax, notation, axiom, sorry.
-/
import Derived.Test.YtmkmikacfilbpaaGreatChecked
import GoSem.Claim
import GoSem.ClaimJoined
import GoSem.ClaimMapViews
import Derived.JoinedTies
import Derived.KernelRfl
namespace Go.Proofs.YtmkmikacfilbpaaGreat
/- THE CELL 'sum', in the pinned program and in every row, IS THE sha256 OF THE DUMP (.gsa) THAT YtmkmikacfilbpaaGreatProg.lean LOADS. Nothing in Lean hashes anything: it is a label: what it is worth is what the hold of that sum in a sandbox is worth. -/
noncomputable def Tryz.pinned : Pinned := { name := "ytmkmikacfilbpaagreat", sum := "a316ab604c4f26b26781b110b0a4f48b6198deb1e06a383253c03ab09f6817d7", checked := Tryz.checked }
namespace Rows
def none {H : Type} : Left H := { results := [], args := [] }

/-- 'umlautlaw16.SoleOnce': WHATEVER THE INPUT: true; the input reads as it did. -/
def soleOnceSpec : ChangeSpec := { name := "soleOnce", fn := fun _ => fun
  | [d1, d2] => { results := [.lit (.bool true)], args := [d1, d2] }
  | _ => none }
def soleOnceRow : OpenClaim := { program := "ytmkmikacfilbpaagreat", sum := "a316ab604c4f26b26781b110b0a4f48b6198deb1e06a383253c03ab09f6817d7", func := "umlaut/umlautlaw16.SoleOnce", spec := "soleOnce", unfollowed := true, recurses := true, apart := false }
def SoleOnceSaid : Prop := soleOnceRow.holds Tryz.pinned (OpenSpec.ofChange soleOnceSpec)

/-- ITS FALSE NEIGHBOUR: 'it returns false'. Refute it at one input. -/
def soleOnceWrong : ChangeSpec := { name := "soleOnce", fn := fun _ => fun
  | [d1, d2] => { results := [.lit (.bool false)], args := [d1, d2] }
  | _ => none }
def SoleOnceWrongFalsely : Prop := soleOnceRow.holds Tryz.pinned (OpenSpec.ofChange soleOnceWrong)

/-- 'umlautlaw11.CodecStrict': WHATEVER THE INPUT: true; the input reads as it did. -/
def codecStrictSpec : ChangeSpec := { name := "codecStrict", fn := fun _ => fun
  | [d] => { results := [.lit (.bool true)], args := [d] }
  | _ => none }
def codecStrictRow : OpenClaim := { program := "ytmkmikacfilbpaagreat", sum := "a316ab604c4f26b26781b110b0a4f48b6198deb1e06a383253c03ab09f6817d7", func := "umlaut/umlautlaw11.CodecStrict", spec := "codecStrict", unfollowed := true, recurses := true, apart := false }
def CodecStrictSaid : Prop := codecStrictRow.holds Tryz.pinned (OpenSpec.ofChange codecStrictSpec)

/-- ITS FALSE NEIGHBOUR: 'it returns false'. Refute it at one input. -/
def codecStrictWrong : ChangeSpec := { name := "codecStrict", fn := fun _ => fun
  | [d] => { results := [.lit (.bool false)], args := [d] }
  | _ => none }
def CodecStrictWrongFalsely : Prop := codecStrictRow.holds Tryz.pinned (OpenSpec.ofChange codecStrictWrong)

/-- 'umlautlaw11.CodecRepairs': WHATEVER THE INPUT: true; the input reads as it did. -/
def codecRepairsSpec : ChangeSpec := { name := "codecRepairs", fn := fun _ => fun
  | [d] => { results := [.lit (.bool true)], args := [d] }
  | _ => none }
def codecRepairsRow : OpenClaim := { program := "ytmkmikacfilbpaagreat", sum := "a316ab604c4f26b26781b110b0a4f48b6198deb1e06a383253c03ab09f6817d7", func := "umlaut/umlautlaw11.CodecRepairs", spec := "codecRepairs", unfollowed := true, recurses := true, apart := false }
def CodecRepairsSaid : Prop := codecRepairsRow.holds Tryz.pinned (OpenSpec.ofChange codecRepairsSpec)

/-- ITS FALSE NEIGHBOUR: 'it returns false'. Refute it at one input. -/
def codecRepairsWrong : ChangeSpec := { name := "codecRepairs", fn := fun _ => fun
  | [d] => { results := [.lit (.bool false)], args := [d] }
  | _ => none }
def CodecRepairsWrongFalsely : Prop := codecRepairsRow.holds Tryz.pinned (OpenSpec.ofChange codecRepairsWrong)

/-- 'umlautlaw23.EscapeUrl': WHATEVER THE INPUT: true; the input reads as it did. -/
def escapeUrlSpec : ChangeSpec := { name := "escapeUrl", fn := fun _ => fun
  | [d] => { results := [.lit (.bool true)], args := [d] }
  | _ => none }
def escapeUrlRow : OpenClaim := { program := "ytmkmikacfilbpaagreat", sum := "a316ab604c4f26b26781b110b0a4f48b6198deb1e06a383253c03ab09f6817d7", func := "umlaut/umlautlaw23.EscapeUrl", spec := "escapeUrl", unfollowed := true, recurses := true, apart := false }
def EscapeUrlSaid : Prop := escapeUrlRow.holds Tryz.pinned (OpenSpec.ofChange escapeUrlSpec)

/-- ITS FALSE NEIGHBOUR: 'it returns false'. Refute it at one input. -/
def escapeUrlWrong : ChangeSpec := { name := "escapeUrl", fn := fun _ => fun
  | [d] => { results := [.lit (.bool false)], args := [d] }
  | _ => none }
def EscapeUrlWrongFalsely : Prop := escapeUrlRow.holds Tryz.pinned (OpenSpec.ofChange escapeUrlWrong)

/-- 'umlautlaw23.EscapeUnurl': WHATEVER THE INPUT: true; the input reads as it did. -/
def escapeUnurlSpec : ChangeSpec := { name := "escapeUnurl", fn := fun _ => fun
  | [d] => { results := [.lit (.bool true)], args := [d] }
  | _ => none }
def escapeUnurlRow : OpenClaim := { program := "ytmkmikacfilbpaagreat", sum := "a316ab604c4f26b26781b110b0a4f48b6198deb1e06a383253c03ab09f6817d7", func := "umlaut/umlautlaw23.EscapeUnurl", spec := "escapeUnurl", unfollowed := true, recurses := true, apart := false }
def EscapeUnurlSaid : Prop := escapeUnurlRow.holds Tryz.pinned (OpenSpec.ofChange escapeUnurlSpec)

/-- ITS FALSE NEIGHBOUR: 'it returns false'. Refute it at one input. -/
def escapeUnurlWrong : ChangeSpec := { name := "escapeUnurl", fn := fun _ => fun
  | [d] => { results := [.lit (.bool false)], args := [d] }
  | _ => none }
def EscapeUnurlWrongFalsely : Prop := escapeUnurlRow.holds Tryz.pinned (OpenSpec.ofChange escapeUnurlWrong)

/-- 'umlautlaw23.EscapeBack': WHATEVER THE INPUT: true; the input reads as it did. -/
def escapeBackSpec : ChangeSpec := { name := "escapeBack", fn := fun _ => fun
  | [d] => { results := [.lit (.bool true)], args := [d] }
  | _ => none }
def escapeBackRow : OpenClaim := { program := "ytmkmikacfilbpaagreat", sum := "a316ab604c4f26b26781b110b0a4f48b6198deb1e06a383253c03ab09f6817d7", func := "umlaut/umlautlaw23.EscapeBack", spec := "escapeBack", unfollowed := true, recurses := true, apart := false }
def EscapeBackSaid : Prop := escapeBackRow.holds Tryz.pinned (OpenSpec.ofChange escapeBackSpec)

/-- ITS FALSE NEIGHBOUR: 'it returns false'. Refute it at one input. -/
def escapeBackWrong : ChangeSpec := { name := "escapeBack", fn := fun _ => fun
  | [d] => { results := [.lit (.bool false)], args := [d] }
  | _ => none }
def EscapeBackWrongFalsely : Prop := escapeBackRow.holds Tryz.pinned (OpenSpec.ofChange escapeBackWrong)

/-- 'umlautlaw11.CodecRules': WHATEVER THE INPUT: true; the input reads as it did. -/
def codecRulesSpec : ChangeSpec := { name := "codecRules", fn := fun _ => fun
  | [d] => { results := [.lit (.bool true)], args := [d] }
  | _ => none }
def codecRulesRow : OpenClaim := { program := "ytmkmikacfilbpaagreat", sum := "a316ab604c4f26b26781b110b0a4f48b6198deb1e06a383253c03ab09f6817d7", func := "umlaut/umlautlaw11.CodecRules", spec := "codecRules", unfollowed := true, recurses := true, apart := false }
def CodecRulesSaid : Prop := codecRulesRow.holds Tryz.pinned (OpenSpec.ofChange codecRulesSpec)

/-- ITS FALSE NEIGHBOUR: 'it returns false'. Refute it at one input. -/
def codecRulesWrong : ChangeSpec := { name := "codecRules", fn := fun _ => fun
  | [d] => { results := [.lit (.bool false)], args := [d] }
  | _ => none }
def CodecRulesWrongFalsely : Prop := codecRulesRow.holds Tryz.pinned (OpenSpec.ofChange codecRulesWrong)

/-- 'umlautlaw11.CodecEncodes': WHATEVER THE INPUT: true; the input reads as it did. -/
def codecEncodesSpec : ChangeSpec := { name := "codecEncodes", fn := fun _ => fun
  | [d] => { results := [.lit (.bool true)], args := [d] }
  | _ => none }
def codecEncodesRow : OpenClaim := { program := "ytmkmikacfilbpaagreat", sum := "a316ab604c4f26b26781b110b0a4f48b6198deb1e06a383253c03ab09f6817d7", func := "umlaut/umlautlaw11.CodecEncodes", spec := "codecEncodes", unfollowed := true, recurses := true, apart := false }
def CodecEncodesSaid : Prop := codecEncodesRow.holds Tryz.pinned (OpenSpec.ofChange codecEncodesSpec)

/-- ITS FALSE NEIGHBOUR: 'it returns false'. Refute it at one input. -/
def codecEncodesWrong : ChangeSpec := { name := "codecEncodes", fn := fun _ => fun
  | [d] => { results := [.lit (.bool false)], args := [d] }
  | _ => none }
def CodecEncodesWrongFalsely : Prop := codecEncodesRow.holds Tryz.pinned (OpenSpec.ofChange codecEncodesWrong)

/-- 'umlautlaw11.CodecShape': WHATEVER THE INPUT: true; the input reads as it did. -/
def codecShapeSpec : ChangeSpec := { name := "codecShape", fn := fun _ => fun
  | [d] => { results := [.lit (.bool true)], args := [d] }
  | _ => none }
def codecShapeRow : OpenClaim := { program := "ytmkmikacfilbpaagreat", sum := "a316ab604c4f26b26781b110b0a4f48b6198deb1e06a383253c03ab09f6817d7", func := "umlaut/umlautlaw11.CodecShape", spec := "codecShape", unfollowed := true, recurses := true, apart := false }
def CodecShapeSaid : Prop := codecShapeRow.holds Tryz.pinned (OpenSpec.ofChange codecShapeSpec)

/-- ITS FALSE NEIGHBOUR: 'it returns false'. Refute it at one input. -/
def codecShapeWrong : ChangeSpec := { name := "codecShape", fn := fun _ => fun
  | [d] => { results := [.lit (.bool false)], args := [d] }
  | _ => none }
def CodecShapeWrongFalsely : Prop := codecShapeRow.holds Tryz.pinned (OpenSpec.ofChange codecShapeWrong)

/-- 'umlautlaw23.EscapeHtml': WHATEVER THE INPUT: true; the input reads as it did. -/
def escapeHtmlSpec : ChangeSpec := { name := "escapeHtml", fn := fun _ => fun
  | [d] => { results := [.lit (.bool true)], args := [d] }
  | _ => none }
def escapeHtmlRow : OpenClaim := { program := "ytmkmikacfilbpaagreat", sum := "a316ab604c4f26b26781b110b0a4f48b6198deb1e06a383253c03ab09f6817d7", func := "umlaut/umlautlaw23.EscapeHtml", spec := "escapeHtml", unfollowed := true, recurses := true, apart := false }
def EscapeHtmlSaid : Prop := escapeHtmlRow.holds Tryz.pinned (OpenSpec.ofChange escapeHtmlSpec)

/-- ITS FALSE NEIGHBOUR: 'it returns false'. Refute it at one input. -/
def escapeHtmlWrong : ChangeSpec := { name := "escapeHtml", fn := fun _ => fun
  | [d] => { results := [.lit (.bool false)], args := [d] }
  | _ => none }
def EscapeHtmlWrongFalsely : Prop := escapeHtmlRow.holds Tryz.pinned (OpenSpec.ofChange escapeHtmlWrong)

/-- 'umlautlaw11.CodecBack': WHATEVER THE INPUT: true; the input reads as it did. -/
def codecBackSpec : ChangeSpec := { name := "codecBack", fn := fun _ => fun
  | [d1, d2] => { results := [.lit (.bool true)], args := [d1, d2] }
  | _ => none }
def codecBackRow : OpenClaim := { program := "ytmkmikacfilbpaagreat", sum := "a316ab604c4f26b26781b110b0a4f48b6198deb1e06a383253c03ab09f6817d7", func := "umlaut/umlautlaw11.CodecBack", spec := "codecBack", unfollowed := true, recurses := true, apart := false }
def CodecBackSaid : Prop := codecBackRow.holds Tryz.pinned (OpenSpec.ofChange codecBackSpec)

/-- ITS FALSE NEIGHBOUR: 'it returns false'. Refute it at one input. -/
def codecBackWrong : ChangeSpec := { name := "codecBack", fn := fun _ => fun
  | [d1, d2] => { results := [.lit (.bool false)], args := [d1, d2] }
  | _ => none }
def CodecBackWrongFalsely : Prop := codecBackRow.holds Tryz.pinned (OpenSpec.ofChange codecBackWrong)

/- THE SECOND FORM. 'bulk': how many values and letters a reading holds, each counted each time it is reached (what is shared counts as often as it is met; a slice's spare places count too). A statement '..UptoSaid' is the law's where the arguments, and the package variables that the reading takes, are together of bulk at most 1048576: NARROWER than '..Said'. Prove '..Said' where nothing that the law and all that it calls make is longer than what came in: it says more and counts as full. Else prove '..UptoSaid'. A law counts once. -/
mutual
def uptoBulk {H : Type} : DataW H → Nat
  | .lit (.string bytes) => bytes.length + 1
  | .lit _ => 1
  | .nil => 1
  | .ptr d => uptoBulk d + 1
  | .slice elems spare => uptoBulkAll elems + uptoBulkAll spare + 1
  | .agg parts => uptoBulkAll parts + 1
  | .iface _ d => uptoBulk d + 1
  | .map entries => uptoBulkEntries entries + 1
  | .held _ => 1
def uptoBulkAll {H : Type} : List (DataW H) → Nat
  | [] => 0
  | d :: r => uptoBulk d + uptoBulkAll r
def uptoBulkEntries {H : Type} : List (Lit × DataW H) → Nat
  | [] => 0
  | x :: r => uptoBulkEntry x + uptoBulkEntries r
def uptoBulkEntry {H : Type} : Lit × DataW H → Nat
  | (.string bytes, d) => bytes.length + uptoBulk d + 1
  | (_, d) => uptoBulk d + 1
 end
def uptoSmall : (H : Type) → List (DataW H) → Bool := fun _ ds => decide (uptoBulkAll ds ≤ 1048576)
def OpenSpec.upto (s : _root_.Go.ChangeSpec) : _root_.Go.OpenSpec := { _root_.Go.OpenSpec.ofChange s with cond := some uptoSmall }

/-- 'umlautlaw16.SoleOnce', WHERE WHAT IT READS IS OF BULK AT MOST 1048576: true; the input reads as it did. -/
def soleOnceUptoRow : OpenClaim := { program := "ytmkmikacfilbpaagreat", sum := "a316ab604c4f26b26781b110b0a4f48b6198deb1e06a383253c03ab09f6817d7", func := "umlaut/umlautlaw16.SoleOnce", spec := "soleOnce", unfollowed := true, recurses := true, apart := false, narrowed := true }
def SoleOnceUptoSaid : Prop := soleOnceUptoRow.holds Tryz.pinned (OpenSpec.upto soleOnceSpec)

/-- 'umlautlaw11.CodecStrict', WHERE WHAT IT READS IS OF BULK AT MOST 1048576: true; the input reads as it did. -/
def codecStrictUptoRow : OpenClaim := { program := "ytmkmikacfilbpaagreat", sum := "a316ab604c4f26b26781b110b0a4f48b6198deb1e06a383253c03ab09f6817d7", func := "umlaut/umlautlaw11.CodecStrict", spec := "codecStrict", unfollowed := true, recurses := true, apart := false, narrowed := true }
def CodecStrictUptoSaid : Prop := codecStrictUptoRow.holds Tryz.pinned (OpenSpec.upto codecStrictSpec)

/-- 'umlautlaw11.CodecRepairs', WHERE WHAT IT READS IS OF BULK AT MOST 1048576: true; the input reads as it did. -/
def codecRepairsUptoRow : OpenClaim := { program := "ytmkmikacfilbpaagreat", sum := "a316ab604c4f26b26781b110b0a4f48b6198deb1e06a383253c03ab09f6817d7", func := "umlaut/umlautlaw11.CodecRepairs", spec := "codecRepairs", unfollowed := true, recurses := true, apart := false, narrowed := true }
def CodecRepairsUptoSaid : Prop := codecRepairsUptoRow.holds Tryz.pinned (OpenSpec.upto codecRepairsSpec)

/-- 'umlautlaw23.EscapeUrl', WHERE WHAT IT READS IS OF BULK AT MOST 1048576: true; the input reads as it did. -/
def escapeUrlUptoRow : OpenClaim := { program := "ytmkmikacfilbpaagreat", sum := "a316ab604c4f26b26781b110b0a4f48b6198deb1e06a383253c03ab09f6817d7", func := "umlaut/umlautlaw23.EscapeUrl", spec := "escapeUrl", unfollowed := true, recurses := true, apart := false, narrowed := true }
def EscapeUrlUptoSaid : Prop := escapeUrlUptoRow.holds Tryz.pinned (OpenSpec.upto escapeUrlSpec)

/-- 'umlautlaw23.EscapeUnurl', WHERE WHAT IT READS IS OF BULK AT MOST 1048576: true; the input reads as it did. -/
def escapeUnurlUptoRow : OpenClaim := { program := "ytmkmikacfilbpaagreat", sum := "a316ab604c4f26b26781b110b0a4f48b6198deb1e06a383253c03ab09f6817d7", func := "umlaut/umlautlaw23.EscapeUnurl", spec := "escapeUnurl", unfollowed := true, recurses := true, apart := false, narrowed := true }
def EscapeUnurlUptoSaid : Prop := escapeUnurlUptoRow.holds Tryz.pinned (OpenSpec.upto escapeUnurlSpec)

/-- 'umlautlaw23.EscapeBack', WHERE WHAT IT READS IS OF BULK AT MOST 1048576: true; the input reads as it did. -/
def escapeBackUptoRow : OpenClaim := { program := "ytmkmikacfilbpaagreat", sum := "a316ab604c4f26b26781b110b0a4f48b6198deb1e06a383253c03ab09f6817d7", func := "umlaut/umlautlaw23.EscapeBack", spec := "escapeBack", unfollowed := true, recurses := true, apart := false, narrowed := true }
def EscapeBackUptoSaid : Prop := escapeBackUptoRow.holds Tryz.pinned (OpenSpec.upto escapeBackSpec)

/-- 'umlautlaw11.CodecRules', WHERE WHAT IT READS IS OF BULK AT MOST 1048576: true; the input reads as it did. -/
def codecRulesUptoRow : OpenClaim := { program := "ytmkmikacfilbpaagreat", sum := "a316ab604c4f26b26781b110b0a4f48b6198deb1e06a383253c03ab09f6817d7", func := "umlaut/umlautlaw11.CodecRules", spec := "codecRules", unfollowed := true, recurses := true, apart := false, narrowed := true }
def CodecRulesUptoSaid : Prop := codecRulesUptoRow.holds Tryz.pinned (OpenSpec.upto codecRulesSpec)

/-- 'umlautlaw11.CodecEncodes', WHERE WHAT IT READS IS OF BULK AT MOST 1048576: true; the input reads as it did. -/
def codecEncodesUptoRow : OpenClaim := { program := "ytmkmikacfilbpaagreat", sum := "a316ab604c4f26b26781b110b0a4f48b6198deb1e06a383253c03ab09f6817d7", func := "umlaut/umlautlaw11.CodecEncodes", spec := "codecEncodes", unfollowed := true, recurses := true, apart := false, narrowed := true }
def CodecEncodesUptoSaid : Prop := codecEncodesUptoRow.holds Tryz.pinned (OpenSpec.upto codecEncodesSpec)

/-- 'umlautlaw11.CodecShape', WHERE WHAT IT READS IS OF BULK AT MOST 1048576: true; the input reads as it did. -/
def codecShapeUptoRow : OpenClaim := { program := "ytmkmikacfilbpaagreat", sum := "a316ab604c4f26b26781b110b0a4f48b6198deb1e06a383253c03ab09f6817d7", func := "umlaut/umlautlaw11.CodecShape", spec := "codecShape", unfollowed := true, recurses := true, apart := false, narrowed := true }
def CodecShapeUptoSaid : Prop := codecShapeUptoRow.holds Tryz.pinned (OpenSpec.upto codecShapeSpec)

/-- 'umlautlaw23.EscapeHtml', WHERE WHAT IT READS IS OF BULK AT MOST 1048576: true; the input reads as it did. -/
def escapeHtmlUptoRow : OpenClaim := { program := "ytmkmikacfilbpaagreat", sum := "a316ab604c4f26b26781b110b0a4f48b6198deb1e06a383253c03ab09f6817d7", func := "umlaut/umlautlaw23.EscapeHtml", spec := "escapeHtml", unfollowed := true, recurses := true, apart := false, narrowed := true }
def EscapeHtmlUptoSaid : Prop := escapeHtmlUptoRow.holds Tryz.pinned (OpenSpec.upto escapeHtmlSpec)

/-- 'umlautlaw11.CodecBack', WHERE WHAT IT READS IS OF BULK AT MOST 1048576: true; the input reads as it did. -/
def codecBackUptoRow : OpenClaim := { program := "ytmkmikacfilbpaagreat", sum := "a316ab604c4f26b26781b110b0a4f48b6198deb1e06a383253c03ab09f6817d7", func := "umlaut/umlautlaw11.CodecBack", spec := "codecBack", unfollowed := true, recurses := true, apart := false, narrowed := true }
def CodecBackUptoSaid : Prop := codecBackUptoRow.holds Tryz.pinned (OpenSpec.upto codecBackSpec)

end Rows
end Go.Proofs.YtmkmikacfilbpaaGreat
