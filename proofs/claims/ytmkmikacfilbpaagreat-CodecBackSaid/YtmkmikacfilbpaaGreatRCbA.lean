/-
  What is encoded decodes, plain Lean. No program is named here.
-/
import Derived.Test.YtmkmikacfilbpaaGreatRCdD
namespace Go.Proofs.YtmkmikacfilbpaaGreat
open Go.Proofs Go.Um Go.RowKit
theorem first_enc {z : Int} (hz : scalP z) (t : List Int) : firstF (bytesF z ++ t) = some (z, (bytesF z).length) := by
  have h0 := hz
  unfold scalP at hz
  unfold bytesF
  rw [if_neg (by simpa using h0)]
  by_cases h1 : z < 128
  · rw [if_pos h1]
    exact first_1 ⟨hz.1, by omega⟩
  rw [if_neg h1]
  by_cases h2 : z < 2048
  · rw [if_pos h2]
    have := first_2 (a := 192 + z / 64) (b := 128 + z % 64) (t := t) ⟨by omega, by omega⟩ ⟨by omega, by omega⟩
    rw [show ((192 + z / 64) - 192) * 64 + ((128 + z % 64) - 128) = z by omega] at this
    exact this
  rw [if_neg h2]
  by_cases h3 : z < 65536
  · rw [if_pos h3]
    have := first_3 (a := 224 + z / 4096) (b := 128 + z / 64 % 64) (c := 128 + z % 64) (t := t) ⟨by omega, by omega⟩ ⟨by omega, by omega⟩ ⟨by omega, by omega⟩ (by omega) (by omega)
    rw [show ((224 + z / 4096) - 224) * 4096 + ((128 + z / 64 % 64) - 128) * 64 + ((128 + z % 64) - 128) = z by omega] at this
    exact this
  · rw [if_neg h3]
    have := first_4 (a := 240 + z / 262144) (b := 128 + z / 4096 % 64) (c := 128 + z / 64 % 64) (d := 128 + z % 64) (t := t) ⟨by omega, by omega⟩ ⟨by omega, by omega⟩ ⟨by omega, by omega⟩ ⟨by omega, by omega⟩ (by omega) (by omega)
    rw [show ((240 + z / 262144) - 240) * 262144 + ((128 + z / 4096 % 64) - 128) * 4096 + ((128 + z / 64 % 64) - 128) * 64 + ((128 + z % 64) - 128) = z by omega] at this
    exact this
theorem bytesF_byte {z : Int} : byteL (bytesF z) := by
  intro q hq
  unfold bytesF scalP at hq
  repeat' split at hq
  all_goals first | (simp at hq; done) | (simp at hq; omega)
theorem enc_byte (x : List Int) : byteL (encF x) := fun q hq => by
  obtain ⟨z, _, h⟩ := List.mem_flatMap.1 hq
  exact bytesF_byte q h
theorem rep_enc : ∀ {x : List Int}, (∀ z ∈ x, scalP z) → Rep (encF x) x true
  | [], _ => .nil
  | z :: x, hx => by
    have hz := hx z (by simp)
    have hs : scanF (encF (z :: x)) = (z, (bytesF z).length, true) := by
      unfold encF scanF
      rw [List.flatMap_cons, first_enc hz]
    have hne : bytesF z ≠ [] := fun he => by
      have := first_enc hz []
      rw [he] at this
      simp [firstF, tryF] at this
    have h := Rep.cons (y := encF (z :: x)) (w := x) (h := true) (by unfold encF; rw [List.flatMap_cons]; simp [hne]) (by
      rw [hs]
      show Rep ((encF (z :: x)).drop (bytesF z).length) x true
      unfold encF
      rw [List.flatMap_cons, List.drop_left]
      exact rep_enc fun q hq => hx q (by simp [hq]))
    rw [hs] at h
    exact h
end Go.Proofs.YtmkmikacfilbpaaGreat
