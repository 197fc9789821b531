/-
  The descriptions that decode, repair and encode UTF-8, and the one that writes what it reads. No program is named here.
-/
import Derived.Test.YthfcbbdghggefaaGreatPb
namespace Go.Proofs.YthfcbbdghggefaaGreat
open Go.Proofs Go.Um Go.RowKit
def tailP : List Span := [⟨128, 191⟩]
def rowP (lo hi lo2 hi2 : Int) (more : Nat) : List (List Span) := [⟨lo, hi⟩] :: [⟨lo2, hi2⟩] :: List.replicate more tailP
def rowsP : List (List (List Span)) := [[[⟨0, 127⟩]], rowP 194 223 128 191 0, rowP 224 224 160 191 1, rowP 225 236 128 191 1, rowP 237 237 128 159 1, rowP 238 239 128 191 1, rowP 240 240 144 191 2, rowP 241 243 128 191 2, rowP 244 244 128 143 2]
def copyT (a b : Int) : Term := ⟨0, 0, 21, 0, b, [⟨a, 0, 21, 0⟩]⟩
def constT (x : Int) : Term := ⟨0, 0, 21, 0, x, []⟩
def scalarT (n : Nat) : Term := if n = 1 then copyT 0 0 else ⟨0, 0, 21, 0, 0, (List.range (n - 1)).map (fun k => ⟨((n - 1 - k : Nat) : Int), 0, 6, 6 * (k : Int)⟩) ++ [⟨0, 0, 7 - (n : Int), 6 * ((n : Int) - 1)⟩]⟩
def strictD : Desc := ⟨1, 2, 1, 0, rowsP.map fun g => ⟨0, 0, g, g.length, [scalarT g.length]⟩, [⟨0, [], []⟩]⟩
def badT : List Term := [constT 65533]
def allB : List Span := [⟨0, 255⟩]
/-- what a row does when it is cut short, or goes on wrongly. -/
def brokeR (g : List (List Span)) : List Rule := (List.range (g.length - 1)).map fun k => ⟨0, 0, g.take (k + 1) ++ [minusF allB (g.getD (k + 1) [])], (k : Int) + 1, badT⟩
def brokeE (g : List (List Span)) : List Final := (List.range (g.length - 1)).map fun k => ⟨0, g.take (k + 1), badT⟩
def firstP : List Span := rowsP.foldl (fun f g => minusF f (g.getD 0 [])) allB
def repairD : Desc := ⟨1, 2, 1, 0, strictD.rules ++ rowsP.flatMap brokeR ++ [⟨0, 0, [firstP], 1, badT⟩], strictD.finals ++ rowsP.flatMap brokeE⟩
end Go.Proofs.YthfcbbdghggefaaGreat
