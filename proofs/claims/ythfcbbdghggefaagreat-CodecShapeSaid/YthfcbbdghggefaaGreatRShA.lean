/-
  The program's desc.Width, for any description.
-/
import Derived.Test.YthfcbbdghggefaaGreatPh
namespace Go.Proofs.YthfcbbdghggefaaGreat
open Go.Proofs Go.Um Go.RowKit
def widthF (l : List Rule) : Nat := l.foldl (fun n r => max n r.guards.length) 0
theorem widthF_snoc {l : List Rule} {k : Nat} {x : Rule} (hx : l[k]? = some x) : widthF (l.take (k + 1)) = max (widthF (l.take k)) x.guards.length := by
  rw [take_snoc hx]
  unfold widthF
  rw [List.foldl_append]
  rfl
set_option maxHeartbeats 1000000 in
set_option maxRecDepth 100000 in
theorem Width_calls (d : Desc) (v u : Value) (w : World) (hv : (listR ruleR).rel w (upto w.heap.size) [v] d.rules) (hu : (listR finalR).rel w (upto w.heap.size) [u] d.finals) :
    Calls Tryz.prog 21 #[.agg #[.int .i64 d.inn, .int .i64 d.out, .int .i64 d.states, .int .i64 d.start, v, u]] w fun e w' => e = .returned (.int .i64 (widthF d.rules)) ∧ Below w.heap.size w w' := by
  obtain ⟨A1, c1, rfl, hc1, hm1⟩ := list_form hv
  obtain ⟨A2, c2, rfl, hc2, hm2⟩ := list_form hu
  unfold maxLen at hm1 hm2
  have hX0 := heap_alloc_new w (.cells #[.int .i64 d.inn, .int .i64 d.out, .int .i64 d.states, .int .i64 d.start, .slice A1 d.rules.length c1, .slice A2 d.finals.length c2] 27)
  obtain ⟨p0, p1, p2, p3, p4, p5⟩ := six hX0
  have HV := hid hv
  clear hu hv hX0
  go_enter Tryz.func21, Tryz.ntmps21
  go_wp2_with fail
  go_loopw [3, 9] (fun vn vi wr => ∃ k : Nat, k ≤ d.rules.length ∧ vi = .int .i64 k ∧ vn = .int .i64 (widthF (d.rules.take k)) ∧ widthF (d.rules.take k) ≤ 9223372036854775807 ∧ Below w.heap.size w wr) (fun _ vi _ => d.rules.length - (intOf vi).toNat)
  case atStart => exact ⟨0, Nat.zero_le _, rfl, rfl, Nat.zero_le _, (Below.refl _ w).alloc (Nat.le_refl _) _⟩
  case round =>
    obtain ⟨k, hk, rfl, rfl, hwd, hB⟩ := hrel
    obtain ⟨N, hN⟩ : ∃ N, N = widthF (d.rules.take k) := ⟨_, rfl⟩
    rw [← hN] at hwd ⊢
    by_cases hlt : k < d.rules.length
    · obtain ⟨⟨sx, dx, gx, ex, ox⟩, hx⟩ := at_lt hlt
      obtain ⟨b, o, y, z, rfl, hb, q1, q2, q3, q4, q5, _, hy, hz⟩ := rule_at HV.out hx
      obtain ⟨A3, c3, rfl, hg2, hg3⟩ := list_form hy
      obtain ⟨A4, c4, rfl, _, _⟩ := list_form hz
      replace q1 := (hB.cell (p := ⟨b, o + k * 5, none⟩) hb).trans q1
      replace q2 := (hB.cell (p := ⟨b, o + k * 5 + 1, none⟩) hb).trans q2
      replace q3 := (hB.cell (p := ⟨b, o + k * 5 + 2, none⟩) hb).trans q3
      replace q4 := (hB.cell (p := ⟨b, o + k * 5 + 3, none⟩) hb).trans q4
      replace q5 := (hB.cell (p := ⟨b, o + k * 5 + 4, none⟩) hb).trans q5
      dsimp only at q1 q2 q3 q4 q5 hg2 hg3
      unfold maxLen at hg3
      have hlt' : (k : Int) < d.rules.length := by omega
      have hbs : b < wr.heap.size := Nat.lt_of_lt_of_le hb hB.size
      have HS := hid (widthF_snoc hx)
      rw [← hN] at HS
      have HB := hid hB
      clear hx hB hy hz hN
      go_wp2_with fail
      refine ⟨⟨k + 1, by omega, by go_num, by rw [HS.out]; dsimp only; congr 1; omega, by rw [HS.out]; dsimp only; omega, HB.out.alloc HB.out.size _⟩, ?_⟩
      simp [intOf]
      omega
    · obtain rfl : k = d.rules.length := by omega
      have hlt' : ¬ (d.rules.length : Int) < d.rules.length := by omega
      have HE : Hid (N = widthF d.rules) := hid (by rw [hN, List.take_length])
      have HB := hid hB
      clear hB hN
      go_wp2_with fail
      go_ret
      exact ⟨by rw [← HE.out]; rfl, HB.out⟩
end Go.Proofs.YthfcbbdghggefaaGreat
