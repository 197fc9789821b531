/-
  A sequence's scalar: utf.value.
-/
import Derived.Test.YtmkmikacfilbpaaGreatRCdH
import Derived.Test.YtmkmikacfilbpaaGreatRCdE
import Derived.Test.YtmkmikacfilbpaaGreatPe
import Derived.Test.YtmkmikacfilbpaaGreatRCbA
import Derived.Laws.BitsLemmas
namespace Go.Proofs.YtmkmikacfilbpaaGreat
open Go.RowKit Go.Um Go.Proofs
set_option maxHeartbeats 1000000 in
set_option maxRecDepth 100000 in
theorem value1_calls (a : Int) (ha : 0 ≤ a ∧ a ≤ 127) (v : Value) (w : World) (h : bytesR.rel w (upto w.heap.size) [v] [a]) :
    Calls Tryz.prog 112 #[v] w fun e w' => e = .returned (.int .i32 (a)) ∧ Below w.heap.size w w' := by
  obtain ⟨A, cp, rfl, hcp, hm⟩ := list_form h
  unfold maxLen at hm
  obtain ⟨G, O, rfl, hG, c0, _⟩ := byte_at (i := 0) (x := a) h rfl
  simp only [List.length_cons, List.length_nil, Nat.zero_add, Nat.add_zero] at hcp hm c0 ⊢
  clear h
  go_enter Tryz.func112, Tryz.ntmps112
  go_wp2_with fail
  go_ret
  exact ⟨rfl, ⟨rfl, rfl, rfl, Nat.le_refl _, fun _ _ => rfl⟩⟩
set_option maxHeartbeats 1000000 in
set_option maxRecDepth 100000 in
theorem value2_calls (a b : Int) (ha : 194 ≤ a ∧ a ≤ 223) (hb : 128 ≤ b ∧ b ≤ 191) (v : Value) (w : World) (h : bytesR.rel w (upto w.heap.size) [v] [a, b]) :
    Calls Tryz.prog 112 #[v] w fun e w' => e = .returned (.int .i32 ((a - 192) * 64 + (b - 128))) ∧ Below w.heap.size w w' := by
  obtain ⟨A, cp, rfl, hcp, hm⟩ := list_form h
  unfold maxLen at hm
  obtain ⟨G, O, rfl, hG, c0, _⟩ := byte_at (i := 0) (x := a) h rfl
  obtain ⟨_, _, he, _, c1, _⟩ := byte_at (i := 1) (x := b) h rfl
  cases he
  simp only [List.length_cons, List.length_nil, Nat.zero_add, Nat.add_zero, Nat.reduceAdd] at hcp hm c0 c1 ⊢
  clear h
  have hA : bits .and .i32 a 31 = a - 192 := by
    have := bits_mask .i32 31 (by decide) wraps_i32 5 (by decide) a (by omega) (by omega)
    have h2 : a % 32 = a - 192 := by omega
    exact this.trans h2
  have hMb : bits .and .i32 b 63 = b - 128 := by
    have := bits_mask .i32 31 (by decide) wraps_i32 6 (by decide) b (by omega) (by omega)
    have h2 : b % 64 = b - 128 := by omega
    exact this.trans h2
  go_enter Tryz.func112, Tryz.ntmps112
  go_wp2_with fail
  go_quiet (fail)
  go_wp2_with fail
  refine wp_loop_rounds 2 ?_
  rw [rounds_succ]
  go_wp2_with fail
  rw [rounds_succ]
  go_wp2_with fail
  go_ret
  exact ⟨rfl, ⟨rfl, rfl, rfl, Nat.le_refl _, fun _ _ => rfl⟩⟩
set_option maxHeartbeats 1000000 in
set_option maxRecDepth 100000 in
theorem value3_calls (a b c : Int) (ha : 224 ≤ a ∧ a ≤ 239) (hb : 128 ≤ b ∧ b ≤ 191) (hc : 128 ≤ c ∧ c ≤ 191) (v : Value) (w : World) (h : bytesR.rel w (upto w.heap.size) [v] [a, b, c]) :
    Calls Tryz.prog 112 #[v] w fun e w' => e = .returned (.int .i32 (((a - 224) * 64 + (b - 128)) * 64 + (c - 128))) ∧ Below w.heap.size w w' := by
  obtain ⟨A, cp, rfl, hcp, hm⟩ := list_form h
  unfold maxLen at hm
  obtain ⟨G, O, rfl, hG, c0, _⟩ := byte_at (i := 0) (x := a) h rfl
  obtain ⟨_, _, he, _, c1, _⟩ := byte_at (i := 1) (x := b) h rfl
  cases he
  obtain ⟨_, _, he, _, c2, _⟩ := byte_at (i := 2) (x := c) h rfl
  cases he
  simp only [List.length_cons, List.length_nil, Nat.zero_add, Nat.add_zero, Nat.reduceAdd] at hcp hm c0 c1 c2 ⊢
  clear h
  have hA : bits .and .i32 a 15 = a - 224 := by
    have := bits_mask .i32 31 (by decide) wraps_i32 4 (by decide) a (by omega) (by omega)
    have h2 : a % 16 = a - 224 := by omega
    exact this.trans h2
  have hMb : bits .and .i32 b 63 = b - 128 := by
    have := bits_mask .i32 31 (by decide) wraps_i32 6 (by decide) b (by omega) (by omega)
    have h2 : b % 64 = b - 128 := by omega
    exact this.trans h2
  have hMc : bits .and .i32 c 63 = c - 128 := by
    have := bits_mask .i32 31 (by decide) wraps_i32 6 (by decide) c (by omega) (by omega)
    have h2 : c % 64 = c - 128 := by omega
    exact this.trans h2
  go_enter Tryz.func112, Tryz.ntmps112
  go_wp2_with fail
  go_quiet (fail)
  go_wp2_with fail
  refine wp_loop_rounds 3 ?_
  rw [rounds_succ]
  go_wp2_with fail
  rw [rounds_succ]
  go_wp2_with fail
  rw [rounds_succ]
  go_wp2_with fail
  go_ret
  exact ⟨rfl, ⟨rfl, rfl, rfl, Nat.le_refl _, fun _ _ => rfl⟩⟩
set_option maxHeartbeats 1000000 in
set_option maxRecDepth 100000 in
theorem value4_calls (a b c d : Int) (ha : 240 ≤ a ∧ a ≤ 244) (hb : 128 ≤ b ∧ b ≤ 191) (hc : 128 ≤ c ∧ c ≤ 191) (hd : 128 ≤ d ∧ d ≤ 191) (v : Value) (w : World) (h : bytesR.rel w (upto w.heap.size) [v] [a, b, c, d]) :
    Calls Tryz.prog 112 #[v] w fun e w' => e = .returned (.int .i32 ((((a - 240) * 64 + (b - 128)) * 64 + (c - 128)) * 64 + (d - 128))) ∧ Below w.heap.size w w' := by
  obtain ⟨A, cp, rfl, hcp, hm⟩ := list_form h
  unfold maxLen at hm
  obtain ⟨G, O, rfl, hG, c0, _⟩ := byte_at (i := 0) (x := a) h rfl
  obtain ⟨_, _, he, _, c1, _⟩ := byte_at (i := 1) (x := b) h rfl
  cases he
  obtain ⟨_, _, he, _, c2, _⟩ := byte_at (i := 2) (x := c) h rfl
  cases he
  obtain ⟨_, _, he, _, c3, _⟩ := byte_at (i := 3) (x := d) h rfl
  cases he
  simp only [List.length_cons, List.length_nil, Nat.zero_add, Nat.add_zero, Nat.reduceAdd] at hcp hm c0 c1 c2 c3 ⊢
  clear h
  have hA : bits .and .i32 a 7 = a - 240 := by
    have := bits_mask .i32 31 (by decide) wraps_i32 3 (by decide) a (by omega) (by omega)
    have h2 : a % 8 = a - 240 := by omega
    exact this.trans h2
  have hMb : bits .and .i32 b 63 = b - 128 := by
    have := bits_mask .i32 31 (by decide) wraps_i32 6 (by decide) b (by omega) (by omega)
    have h2 : b % 64 = b - 128 := by omega
    exact this.trans h2
  have hMc : bits .and .i32 c 63 = c - 128 := by
    have := bits_mask .i32 31 (by decide) wraps_i32 6 (by decide) c (by omega) (by omega)
    have h2 : c % 64 = c - 128 := by omega
    exact this.trans h2
  have hMd : bits .and .i32 d 63 = d - 128 := by
    have := bits_mask .i32 31 (by decide) wraps_i32 6 (by decide) d (by omega) (by omega)
    have h2 : d % 64 = d - 128 := by omega
    exact this.trans h2
  go_enter Tryz.func112, Tryz.ntmps112
  go_wp2_with fail
  go_quiet (fail)
  go_wp2_with fail
  refine wp_loop_rounds 4 ?_
  rw [rounds_succ]
  go_wp2_with fail
  rw [rounds_succ]
  go_wp2_with fail
  rw [rounds_succ]
  go_wp2_with fail
  rw [rounds_succ]
  go_wp2_with fail
  go_ret
  exact ⟨rfl, ⟨rfl, rfl, rfl, Nat.le_refl _, fun _ _ => rfl⟩⟩
end Go.Proofs.YtmkmikacfilbpaaGreat
