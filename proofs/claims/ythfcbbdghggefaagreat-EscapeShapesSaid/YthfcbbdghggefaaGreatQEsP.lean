/-
  What the machines that escape bytes are to write, plain Lean. No program is named here.
-/
import Derived.Test.YthfcbbdghggefaaGreatPa
namespace Go.Proofs.YthfcbbdghggefaaGreat
open Go.Proofs Go.Um Go.RowKit
def plainP : List Span := [⟨45, 46⟩, ⟨48, 57⟩, ⟨65, 90⟩, ⟨95, 95⟩, ⟨97, 122⟩, ⟨126, 126⟩]
def plainB (b : Int) : Bool := hasB plainP b
def digF (n : Int) : Int := if n < 10 then 48 + n else 55 + n
def urlB (b : Int) : List Int := if plainB b then [b] else [37, digF (b / 16), digF (b % 16)]
def urlF (x : List Int) : List Int := x.flatMap urlB
def hexV (b : Int) : Int := if 48 ≤ b ∧ b ≤ 57 then b - 48 else if 65 ≤ b ∧ b ≤ 70 then b - 55 else if 97 ≤ b ∧ b ≤ 102 then b - 87 else -1
def unurlF : List Int → List Int
  | a :: b :: c :: t => if a = 37 ∧ 0 ≤ hexV b ∧ 0 ≤ hexV c then (16 * hexV b + hexV c) :: unurlF t else a :: unurlF (b :: c :: t)
  | l => l
theorem all_bytes {p : Int → Bool} (h : (List.range 256).all (fun n => p (n : Int)) = true) (z : Int) (hz : 0 ≤ z ∧ z ≤ 255) : p z = true := by
  have := List.all_eq_true.1 h z.toNat (List.mem_range.2 (by omega))
  rw [show ((z.toNat : Nat) : Int) = z by omega] at this
  exact this
theorem urlB_len (z : Int) : (urlB z).length ≤ 3 := by unfold urlB; split <;> simp
theorem urlF_len (x : List Int) : (urlF x).length ≤ 3 * x.length := by
  unfold urlF
  induction x with
  | nil => simp
  | cons z x ih =>
    have := urlB_len z
    rw [List.flatMap_cons, List.length_append, List.length_cons]
    omega
end Go.Proofs.YthfcbbdghggefaaGreat
