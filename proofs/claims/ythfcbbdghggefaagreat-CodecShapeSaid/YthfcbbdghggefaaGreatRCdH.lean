/-
  The scalar whose bytes these are, as the reference finds it.
-/
import Derived.Test.YthfcbbdghggefaaGreatRCdG
import Derived.Test.YthfcbbdghggefaaGreatRCdD
import Derived.Laws.BytesArg
namespace Go.Proofs.YthfcbbdghggefaaGreat
open Go.RowKit Go.Um Go.Proofs
theorem byte_at {w : World} {S : Nat → Prop} {A : Option Addr} {n cap : Nat} {xs : List Int} {x : Int} {i : Nat} (h : bytesR.rel w S [.slice A n cap] xs) (hx : xs[i]? = some x) :
    ∃ b o, A = some ⟨b, o, none⟩ ∧ S b ∧ w.cell? ⟨b, o + i, none⟩ = some (.int .u8 x) ∧ 0 ≤ x ∧ x ≤ 255 := by
  obtain ⟨b, o, v, h1, h2, ⟨h3, h4⟩, h5⟩ := list_at1 rfl h hx
  injection h3 with h3 _
  subst h3
  exact ⟨b, o, h1, h2, by simpa [byteR] using h5, h4.1, h4.2⟩
end Go.Proofs.YthfcbbdghggefaaGreat
