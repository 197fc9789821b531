/-
  The machine that escapes scalars, plain Lean: what it relates any scalars to. No program is named here.
-/
import Derived.Test.YthfcbbdghggefaaGreatQEsA
namespace Go.Proofs.YthfcbbdghggefaaGreat
open Go.Proofs Go.Um Go.RowKit
def entF (z : Int) : List Int := if z = 38 then [38, 97, 109, 112, 59] else if z = 60 then [38, 108, 116, 59] else if z = 62 then [38, 103, 116, 59] else if z = 34 then [38, 113, 117, 111, 116, 59] else if z = 39 then [38, 35, 51, 57, 59] else []
def escF (z : Int) : List Int := if entF z = [] then [z] else entF z
def htmlF (x : List Int) : List Int := x.flatMap escF
def fiveP : List Int := [38, 60, 62, 34, 39]
def restH : List Span := fiveP.foldl (fun s z => minusF s [⟨z, z⟩]) (domF 2)
def entR (z : Int) : Rule := ⟨0, 0, [[⟨z, z⟩]], 1, (entF z).map constT⟩
def htmlD : Desc := ⟨2, 2, 1, 0, fiveP.map entR ++ [⟨0, 0, [restH], 1, [copyT 0 0]⟩], [⟨0, [], []⟩]⟩
theorem restH_eq : restH = [⟨0, 33⟩, ⟨35, 37⟩, ⟨40, 59⟩, ⟨61, 61⟩, ⟨63, 55295⟩, ⟨57344, 1114111⟩] := by decide +kernel
theorem where_html : (whereF htmlD).1 = 0 := by decide +kernel
theorem sole_html : outerS (optsD htmlD) 0 (optsD htmlD) = none := by decide +kernel
theorem html_rule (z : Int) (hz : scalP z) : htmlD.rules.any (oneRule z (escF z)) = true := by
  by_cases h5 : z ∈ fiveP
  · have h : fiveP.all (fun z => htmlD.rules.any (oneRule z (escF z))) = true := by decide +kernel
    exact List.all_eq_true.1 h z h5
  · have he : escF z = [z] := by
      simp only [fiveP, List.mem_cons, List.not_mem_nil, or_false, not_or] at h5
      unfold escF entF
      rw [if_neg h5.1, if_neg h5.2.1, if_neg h5.2.2.1, if_neg h5.2.2.2.1, if_neg h5.2.2.2.2, if_pos rfl]
    rw [he]
    unfold htmlD
    rw [List.any_append]
    refine Bool.or_eq_true_iff.2 (.inr ?_)
    simp only [fiveP, List.mem_cons, List.not_mem_nil, or_false, not_or] at h5
    unfold scalP at hz
    rw [restH_eq]
    simp [oneRule, hasB, writesV, copyT, tvalF, valF, outerT, sumV, pw]
    omega
theorem html_of {x : List Int} (hx : ∀ z ∈ x, scalP z) : ∀ (y : List Int) (a : Nat), y = x.drop a → a ≤ x.length → Run htmlD x a 0 (htmlF y)
  | [], a, ha, hal => by
    have hl : x.length - a = 0 := by rw [← List.length_drop, ← ha]; rfl
    exact .fin ⟨0, [], []⟩ (by simp [htmlD]) rfl (by simpa using hl.symm) ⟨by simp, by simp⟩ rfl
  | z :: y, a, ha, hal => by
    have hxs : symX x := fun q hq => by have := hx q hq; unfold scalP at this; omega
    have hz := hx z (List.mem_of_mem_drop (ha ▸ (by simp) : z ∈ x.drop a))
    have hl : (z :: y).length = x.length - a := by rw [ha, List.length_drop]
    exact run_one hxs (html_rule z hz) ha.symm (html_of hx y (a + 1) (by rw [← List.drop_drop, ← ha]; rfl) (by simp at hl; omega))
theorem html_run {x : List Int} (hx : ∀ z ∈ x, scalP z) : Run htmlD x 0 0 (htmlF x) := html_of hx x 0 (by simp) (Nat.zero_le _)
end Go.Proofs.YthfcbbdghggefaaGreat
