/-
  What is written of symbols, as the reference has it: Html.
-/
import Derived.Test.YthfcbbdghggefaaGreatQEsG
namespace Go.Proofs.YthfcbbdghggefaaGreat
open Go.RowKit Go.Um Go.Proofs
theorem htmlF_len (x : List Int) : (htmlF x).length ≤ 6 * x.length := by
  unfold htmlF
  induction x with
  | nil => simp
  | cons z x ih =>
    have := esc_len z
    rw [List.flatMap_cons, List.length_append, List.length_cons]
    omega
end Go.Proofs.YthfcbbdghggefaaGreat
