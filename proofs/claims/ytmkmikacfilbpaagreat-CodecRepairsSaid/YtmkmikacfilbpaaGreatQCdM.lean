/-
  What stands at a place, as the reference finds it.
-/
import Derived.Test.YtmkmikacfilbpaaGreatQCdI
import Derived.Test.YtmkmikacfilbpaaGreatQCdJ
namespace Go.Proofs.YtmkmikacfilbpaaGreat
open Go.RowKit Go.Um Go.Proofs
theorem bytes_sub {w : World} {S : Nat → Prop} {G O cap at_ n : Nat} {b : List Int} (h : bytesR.rel w S [.slice (some ⟨G, O, none⟩) b.length cap] b) (hn : at_ + n ≤ b.length) : bytesR.rel w S [.slice (some ⟨G, O + at_, none⟩) n (cap - at_)] ((b.drop at_).take n) := by
  obtain ⟨A, m, cp, e, hm, hc, hx, h5⟩ := h
  injection e with e _
  injection e with e1 e2 e3
  subst e1 e2 e3
  refine ⟨_, n, cap - at_, rfl, by rw [List.length_take, List.length_drop]; omega, by omega, by unfold maxLen at hx ⊢; omega, ?_⟩
  rcases h5 with h5 | ⟨g, o, h5, h6, h7⟩
  · exact .inl (by omega)
  · injection h5 with h5
    injection h5 with q1 q2
    subst q1 q2
    refine .inr ⟨G, O + at_, rfl, h6, fun i x hx => ?_⟩
    have hi : i < n := by have := (List.getElem?_eq_some_iff.1 hx).1; rw [List.length_take] at this; omega
    rw [List.getElem?_take, if_pos hi, List.getElem?_drop] at hx
    obtain ⟨ds, k1, k2⟩ := h7 _ x hx
    refine ⟨ds, k1, fun j v hv => ?_⟩
    have := k2 j v hv
    rw [show O + at_ + i * byteR.width + j = O + (at_ + i) * byteR.width + j by show O + at_ + i * 1 + j = O + (at_ + i) * 1 + j; omega]
    exact this
/-- the reference's scalar at any one to four bytes. -/
theorem rscal_calls (l : List Int) (h1 : 1 ≤ l.length) (h4 : l.length ≤ 4) (v : Value) (w : World) (h : bytesR.rel w (upto w.heap.size) [v] l) :
    Calls Tryz.prog 98 #[v] w fun e w' => e = .returned (.tuple #[.int .i32 ((scalF l).getD 0), .bool (scalF l).isSome]) ∧ Below w.heap.size w w' := by
  match l, h1, h4, h with
  | [a], _, _, h => exact rscal1 a v w h
  | [a, b], _, _, h => exact rscal2 a b v w h
  | [a, b, c], _, _, h => exact rscal3 a b c v w h
  | [a, b, c, d], _, _, h => exact rscal4 a b c d v w h
theorem rbeg_calls (l : List Int) (n : Nat) (h1 : 2 ≤ l.length) (h2 : l.length < n) (h4 : n ≤ 4) (v : Value) (w : World) (h : bytesR.rel w (upto w.heap.size) [v] l) :
    Calls Tryz.prog 99 #[v, .int .i64 n] w fun e w' => e = .returned (.bool (begF l n)) ∧ Below w.heap.size w w' := by
  match l, h1, h2, h with
  | [a, b], _, h2, h =>
    simp at h2
    obtain rfl | rfl : n = 3 ∨ n = 4 := by omega
    · exact rbeg23 a b v w h
    · exact rbeg24 a b v w h
  | [a, b, c], _, h2, h =>
    simp at h2
    obtain rfl : n = 4 := by omega
    exact rbeg34 a b c v w h
  | a :: b :: c :: d :: t, _, h2, _ => exact absurd h2 (by simp; omega)
end Go.Proofs.YtmkmikacfilbpaaGreat
