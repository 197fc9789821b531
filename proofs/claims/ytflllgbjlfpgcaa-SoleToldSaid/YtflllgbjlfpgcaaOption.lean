import Derived.Test.YtflllgbjlfpgcaaAwake

namespace Go.Proofs.Ytflllgbjlfpgcaa
open Go.RowKit Go.Um

theorem optsD_low {d : Desc} {i : Nat} {o : Opt} (h : (optsD d)[i]? = some o) (hi : i < d.rules.length) : ∃ r, d.rules[i]? = some r ∧ o = ruleOpt r := by
  unfold optsD at h
  rw [List.getElem?_append_left (by simpa using hi), List.getElem?_map] at h
  cases hr : d.rules[i]? with
  | none => rw [hr] at h; cases h
  | some r => rw [hr] at h; simp at h; exact ⟨r, rfl, h.symm⟩
theorem optsD_high {d : Desc} {i : Nat} {o : Opt} (h : (optsD d)[i]? = some o) (hi : d.rules.length ≤ i) : ∃ f, d.finals[i - d.rules.length]? = some f ∧ o = finalOpt f := by
  unfold optsD at h
  rw [List.getElem?_append_right (by simpa using hi), List.getElem?_map, List.length_map] at h
  cases hr : d.finals[i - d.rules.length]? with
  | none => rw [hr] at h; cases h
  | some r => rw [hr] at h; simp at h; exact ⟨r, rfl, h.symm⟩

set_option maxHeartbeats 1000000 in
theorem option_calls (d : Desc) (v u : Value) (w : World) (hv : (listR ruleR).rel w (upto w.heap.size) [v] d.rules) (hu : (listR finalR).rel w (upto w.heap.size) [u] d.finals) (a1 a2 a3 a4 : Int) (i : Nat) (o : Opt) (ho : (optsD d)[i]? = some o) (hil : i ≤ 9000000000) :
    Calls Try.prog 11 #[.agg #[.int .i64 a1, .int .i64 a2, .int .i64 a3, .int .i64 a4, v, u], .int .i64 i] w fun e w' => ∃ y, e = .returned (.tuple #[.int .i64 o.src, y]) ∧ (listR spansR).rel w (upto w.heap.size) [y] o.guards ∧ Below w.heap.size w w' := by
  obtain ⟨A1, c1, rfl, hc1, hm1⟩ := list_form hv
  obtain ⟨A2, c2, rfl, hc2, hm2⟩ := list_form hu
  unfold maxLen at hm1 hm2
  by_cases hlt : i < d.rules.length
  · obtain ⟨r, hr, rfl⟩ := optsD_low ho hlt
    obtain ⟨b, o', y, z, rfl, hb, q1, q2, q3, q4, q5, q6, hy, hz⟩ := rule_at hv hr
    have hlt' : (i : Int) < d.rules.length := by omega
    have hb' : b < w.heap.size := hb
    have k1 : ∀ O, (w.alloc O).cell? ⟨b, o' + i * 5, none⟩ = some (.int .i64 r.src) := fun O => (((Below.refl w.heap.size w).alloc (Nat.le_refl _) O).cell (p := ⟨b, o' + i * 5, none⟩) hb').trans q1
    have k3 : ∀ O, (w.alloc O).cell? ⟨b, o' + i * 5 + 2, none⟩ = some y := fun O => (((Below.refl w.heap.size w).alloc (Nat.le_refl _) O).cell (p := ⟨b, o' + i * 5 + 2, none⟩) hb').trans q3
    have HY := hid hy
    clear hv hu ho hr q1 q2 q3 q4 q5 q6 hy hz
    go_enter Try.func11, Try.ntmps11
    go_wp2_with fail
    go_quiet (fail)
    go_wp2_with fail
    go_ret2
    exact ⟨_, rfl, HY.out, below_drewN ((Below.refl _ _).alloc (Nat.le_refl _) _) _⟩
  · obtain ⟨r, hr, rfl⟩ := optsD_high ho (by omega)
    obtain ⟨b, o', y, z, rfl, hb, q1, q2, q3, q6, hy, hz⟩ := final_at hu hr
    obtain ⟨A3, c3, rfl, _, _⟩ := list_form hy
    obtain ⟨A4, c4, rfl, _, _⟩ := list_form hz
    have hjl := (List.getElem?_eq_some_iff.1 hr).1
    obtain ⟨j, hj⟩ : ∃ j, j = i - d.rules.length := ⟨_, rfl⟩
    rw [← hj] at q1 q2 q3 hr hjl
    have hij : (i : Int) - (d.rules.length : Int) = (j : Int) := by omega
    have hlt' : ¬ (i : Int) < d.rules.length := by omega
    have hjl' : (j : Int) < d.finals.length := by omega
    have hb' : b < w.heap.size := hb
    have k1 : ∀ O, (w.alloc O).cell? ⟨b, o' + j * 3, none⟩ = some (.int .i64 r.src) := fun O => (((Below.refl w.heap.size w).alloc (Nat.le_refl _) O).cell (p := ⟨b, o' + j * 3, none⟩) hb').trans q1
    have k2 : ∀ O, (w.alloc O).cell? ⟨b, o' + j * 3 + 1, none⟩ = some (.slice A3 r.guards.length c3) := fun O => (((Below.refl w.heap.size w).alloc (Nat.le_refl _) O).cell (p := ⟨b, o' + j * 3 + 1, none⟩) hb').trans q2
    have k3 : ∀ O, (w.alloc O).cell? ⟨b, o' + j * 3 + 2, none⟩ = some (.slice A4 r.out.length c4) := fun O => (((Below.refl w.heap.size w).alloc (Nat.le_refl _) O).cell (p := ⟨b, o' + j * 3 + 2, none⟩) hb').trans q3
    have HY := hid hy
    have HJ := hid hj
    have hi1 : (i : Int) ≤ 9000000000 := by omega
    have hn1 : (d.rules.length : Int) ≤ i := by omega
    clear hv hu ho hr q1 q2 q3 q6 hy hz hj hlt
    go_enter Try.func11, Try.ntmps11
    go_wp2_with fail
    go_quiet (fail)
    go_wp2_with fail
    go_ret2
    refine ⟨_, rfl, HY.out, ?_⟩
    exact below_drewN (((Below.refl _ _).alloc (Nat.le_refl _) _).alloc (by simp) _) _
end Go.Proofs.Ytflllgbjlfpgcaa
