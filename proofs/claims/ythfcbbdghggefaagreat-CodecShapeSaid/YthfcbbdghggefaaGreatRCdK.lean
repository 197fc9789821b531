/-
  What run.Outputs answers for a sole description: the one word that it relates the input to, or nothing.
-/
import Derived.Test.YthfcbbdghggefaaGreatPm
import Derived.Test.YthfcbbdghggefaaGreatRCdD
namespace Go.Proofs.YthfcbbdghggefaaGreat
open Go.Proofs Go.Um Go.RowKit
section
variable {d : Desc} {x : List Int} {most : Int} {w w' : World} {e : Ending}
theorem sole_many (h : outerS (optsD d) 0 (optsD d) = none) {n : Nat} (hn : 1 ≤ n) : ¬ TooMany d x n := by
  rintro ⟨a, s, ls, _, h2, h3, h4⟩
  match ls, h2, h3, h4 with
  | [], _, _, h4 => simp at h4
  | [_], _, _, h4 => simp at h4; omega
  | p :: q :: r, h2, h3, _ =>
    have e := run_once h (h2 p (by simp)) (h2 q (by simp))
    have := (List.pairwise_cons.1 h3).1 q (by simp)
    rw [e, cmpW_refl] at this
    omega
theorem words_one (h : outerS (optsD d) 0 (optsD d) = none) {s : Int} {n : Nat} {ls : List (List Int)} (hw : WordsOf d x 0 s n ls) {y : List Int} (hy : Run d x 0 s y) : ls = [y] := by
  obtain ⟨h1, h2, _⟩ := hw
  have hm := (h1 y).2 hy
  match ls, h1, h2, hm with
  | [z], h1, _, hm => simp at hm; rw [hm]
  | p :: q :: r, h1, h2, _ =>
    exfalso
    have e := run_once h ((h1 p).1 (by simp)) ((h1 q).1 (by simp))
    have := (List.pairwise_cons.1 h2).1 q (by simp)
    rw [e, cmpW_refl] at this
    omega
theorem asks_ok (hw : (whereF d).1 = 0) (hx : x.length ≤ 1024) (hd : x.all (hasB (domF d.inn)) = true) (hm : 1 ≤ most) : asksF d x most = 0 := by
  unfold asksF asksC
  rw [if_pos hw, if_pos hx, if_pos hd, if_pos rfl, if_neg (by omega)]
/-- exactly the words of `ls`. -/
def Answers (w : World) (ls : List (List Int)) (e : Ending) (w' : World) : Prop := Below w.heap.size w w' ∧ ∃ A c, e = .returned (.tuple #[.slice A ls.length c, .int .i64 0]) ∧ (listR nwordR).rel w' (Fresh w.heap.size w') [.slice A ls.length c] ls
theorem out_one (hs : outerS (optsD d) 0 (optsD d) = none) (hw : (whereF d).1 = 0) (hx : x.length ≤ 1024) (hd : x.all (hasB (domF d.inn)) = true) (hm : 1 ≤ most) {y : List Int} (hy : Run d x 0 d.start y) (h : OutPost d x most w e w') : Answers w [y] e w' := by
  have h0 := asks_ok (most := most) hw hx hd hm
  rcases h.2 with h1 | h1 | ⟨_, _, u, ls, rfl, hr, hws⟩
  · exact absurd h0 h1.1
  · exact absurd h1.2.2 (sole_many hs (by omega))
  · obtain rfl := words_one hs hws hy
    obtain ⟨A, c, rfl, _, _⟩ := list_form hr
    exact ⟨h.1, A, c, rfl, hr⟩
end
theorem bytes_dom {x : List Int} (h : byteL x) : x.all (hasB (domF 1)) = true := List.all_eq_true.2 fun z hz => by
  have := h z hz
  rw [hasB_iff]
  exact ⟨⟨0, 255⟩, by simp [domF], this.1, this.2⟩
end Go.Proofs.YthfcbbdghggefaaGreat
