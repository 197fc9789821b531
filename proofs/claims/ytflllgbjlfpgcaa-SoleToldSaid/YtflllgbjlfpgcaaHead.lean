import Derived.Test.YtflllgbjlfpgcaaClash

namespace Go.Proofs.Ytflllgbjlfpgcaa
open Go.RowKit Go.Um

set_option maxHeartbeats 1000000 in
theorem writes_nil (v g r f : Value) (a1 a2 a3 a4 : Int) (w : World) (hv : (listR termR).rel w (upto w.heap.size) [v] []) :
    Calls Try.prog 32 #[.agg #[.int .i64 a1, .int .i64 a2, .int .i64 a3, .int .i64 a4, r, f], v, g] w fun e w' => e = .returned (.bool true) ∧ Below w.heap.size w w' := by
  obtain ⟨A, c, rfl, hc, hm⟩ := list_form hv
  clear hv
  go_enter Try.func32, Try.ntmps32
  go_wp2_with fail
  refine wp_loop_rounds 1 ?_
  rw [rounds_succ]
  go_wp2_with fail
  go_ret
  exact ⟨rfl, (Below.refl _ _).alloc (Nat.le_refl _) _⟩

theorem box6 {w W : World} {x0 x1 x2 x3 x4 x5 : Value} {t : TypeId} (hB : Below (w.heap.size + 1) (w.alloc (.cells #[x0, x1, x2, x3, x4, x5] t)) W) :
    W.cell? ⟨w.heap.size, 0, none⟩ = some x0 ∧ W.cell? ⟨w.heap.size, 1, none⟩ = some x1 ∧ W.cell? ⟨w.heap.size, 2, none⟩ = some x2 ∧ W.cell? ⟨w.heap.size, 3, none⟩ = some x3 ∧ W.cell? ⟨w.heap.size, 4, none⟩ = some x4 ∧ W.cell? ⟨w.heap.size, 5, none⟩ = some x5 :=
  ⟨(hB.cell (p := ⟨w.heap.size, 0, none⟩) (by simp)).trans (by go_simp), (hB.cell (p := ⟨w.heap.size, 1, none⟩) (by simp)).trans (by go_simp), (hB.cell (p := ⟨w.heap.size, 2, none⟩) (by simp)).trans (by go_simp),
   (hB.cell (p := ⟨w.heap.size, 3, none⟩) (by simp)).trans (by go_simp), (hB.cell (p := ⟨w.heap.size, 4, none⟩) (by simp)).trans (by go_simp), (hB.cell (p := ⟨w.heap.size, 5, none⟩) (by simp)).trans (by go_simp)⟩
theorem box65 {w W : World} {x0 x1 x2 x3 x4 x5 y0 y1 y2 y3 y4 : Value} {t t' : TypeId} (hB : Below (w.heap.size + 2) ((w.alloc (.cells #[x0, x1, x2, x3, x4, x5] t)).alloc (.cells #[y0, y1, y2, y3, y4] t')) W) :
    (W.cell? ⟨w.heap.size, 0, none⟩ = some x0 ∧ W.cell? ⟨w.heap.size, 1, none⟩ = some x1 ∧ W.cell? ⟨w.heap.size, 2, none⟩ = some x2 ∧ W.cell? ⟨w.heap.size, 3, none⟩ = some x3 ∧ W.cell? ⟨w.heap.size, 4, none⟩ = some x4 ∧ W.cell? ⟨w.heap.size, 5, none⟩ = some x5) ∧ (W.cell? ⟨w.heap.size + 1, 0, none⟩ = some y0 ∧ W.cell? ⟨w.heap.size + 1, 1, none⟩ = some y1 ∧ W.cell? ⟨w.heap.size + 1, 2, none⟩ = some y2 ∧ W.cell? ⟨w.heap.size + 1, 3, none⟩ = some y3 ∧ W.cell? ⟨w.heap.size + 1, 4, none⟩ = some y4) :=
  ⟨⟨(hB.cell (p := ⟨w.heap.size, 0, none⟩) (by simp)).trans (by go_simp), (hB.cell (p := ⟨w.heap.size, 1, none⟩) (by simp)).trans (by go_simp), (hB.cell (p := ⟨w.heap.size, 2, none⟩) (by simp)).trans (by go_simp), (hB.cell (p := ⟨w.heap.size, 3, none⟩) (by simp)).trans (by go_simp), (hB.cell (p := ⟨w.heap.size, 4, none⟩) (by simp)).trans (by go_simp), (hB.cell (p := ⟨w.heap.size, 5, none⟩) (by simp)).trans (by go_simp)⟩, ⟨(hB.cell (p := ⟨w.heap.size + 1, 0, none⟩) (by simp)).trans (by go_simp), (hB.cell (p := ⟨w.heap.size + 1, 1, none⟩) (by simp)).trans (by go_simp), (hB.cell (p := ⟨w.heap.size + 1, 2, none⟩) (by simp)).trans (by go_simp), (hB.cell (p := ⟨w.heap.size + 1, 3, none⟩) (by simp)).trans (by go_simp), (hB.cell (p := ⟨w.heap.size + 1, 4, none⟩) (by simp)).trans (by go_simp)⟩⟩
theorem low {B B' : Nat} {a b : World} (h : Below B' a b) (hB : B ≤ B') : Below B a b := h.mono hB

set_option maxHeartbeats 1000000 in
theorem head_true (d : Desc) (v u : Value) (w : World) (hv : (listR ruleR).rel w (upto w.heap.size) [v] d.rules) (hu : (listR finalR).rel w (upto w.heap.size) [u] d.finals) (h1 : 0 < (domF d.inn).length) (h2 : 0 < (domF d.out).length) (h3 : 1 ≤ d.states) (h4 : d.states ≤ 1024) (h5 : stateF d.states d.start = true)
    (h6 : d.rules.length ≤ 4096) (h7 : d.finals.length ≤ 4096) :
    Calls Try.prog 28 #[.agg #[.int .i64 d.inn, .int .i64 d.out, .int .i64 d.states, .int .i64 d.start, v, u]] w fun e w' => e = .returned (.bool true) ∧ Below w.heap.size w w' := by
  obtain ⟨A1, c1, rfl, hc1, hm1⟩ := list_form hv
  obtain ⟨A2, c2, rfl, hc2, hm2⟩ := list_form hu
  have hd1 := hid fun W => Domain_calls d.inn W
  have hd2 := hid fun W => Domain_calls d.out W
  have hs := hid fun W => state_calls d.inn d.out d.states d.start (.slice A1 d.rules.length c1) (.slice A2 d.finals.length c2) d.start W
  have e1 : (0 : Int) < ((domF d.inn).length : Int) := by omega
  have e2 : (0 : Int) < ((domF d.out).length : Int) := by omega
  have e6 : (d.rules.length : Int) ≤ 4096 := by omega
  have e7 : (d.finals.length : Int) ≤ 4096 := by omega
  rw [h5] at hs
  have hn1 := h1
  clear hv hu h5 h6 h7
  go_enter Try.func28, Try.ntmps28
  go_wp2_with fail
  refine (hd1.out _).mono ?_
  rintro e w1 ⟨x, rfl, ho, hB⟩
  obtain ⟨A, c, rfl, _, _⟩ := list_form ho.rel
  clear ho
  have hB1 : Below (w.heap.size + 1) (w.alloc (.cells #[.int .i64 d.inn, .int .i64 d.out, .int .i64 d.states, .int .i64 d.start, .slice A1 d.rules.length c1, .slice A2 d.finals.length c2] 26)) w1 := low hB (by simp)
  obtain ⟨p0, p1, p2, p3, p4, p5⟩ := box6 hB1
  go_wp2_with fail
  refine (hd2.out _).mono ?_
  rintro e w2 ⟨x, rfl, ho, hB2⟩
  obtain ⟨A', c', rfl, _, _⟩ := list_form ho.rel
  clear ho p0 p1 p2 p3 p4 p5
  have hs1 := hB1.size
  simp at hs1
  have hB3 := hB1.trans (low hB2 hs1)
  obtain ⟨p0, p1, p2, p3, p4, p5⟩ := box6 hB3
  go_wp2_with fail
  refine (hs.out _).mono ?_
  rintro e w3 ⟨rfl, hB4⟩
  clear p0 p1 p2 p3 p4 p5
  have hs2 := hB3.size
  simp at hs2
  have hB5 := hB3.trans (low hB4 hs2)
  obtain ⟨p0, p1, p2, p3, p4, p5⟩ := box6 hB5
  go_wp2_with fail
  go_ret
  exact ⟨rfl, ((Below.refl _ _).alloc (Nat.le_refl _) _).trans (low hB5 (by omega))⟩

set_option maxHeartbeats 1000000 in
theorem rule_true (d : Desc) (r : Rule) (v u g t : Value) (w : World) (hv : (listR ruleR).rel w (upto w.heap.size) [v] d.rules) (hu : (listR finalR).rel w (upto w.heap.size) [u] d.finals)
    (hg : (listR spansR).rel w (upto w.heap.size) [g] r.guards) (ht : (listR termR).rel w (upto w.heap.size) [t] []) (h1 : stateF d.states r.src = true) (h2 : stateF d.states r.dst = true) (h3 : guardsF d.inn r.guards = true)
    (h4 : 1 ≤ r.eat) (h5 : r.eat ≤ r.guards.length) :
    Calls Try.prog 29 #[.agg #[.int .i64 d.inn, .int .i64 d.out, .int .i64 d.states, .int .i64 d.start, v, u], .agg #[.int .i64 r.src, .int .i64 r.dst, g, .int .i64 r.eat, t]] w fun e w' => e = .returned (.bool true) ∧ Below w.heap.size w w' := by
  obtain ⟨A1, c1, rfl, hc1, hm1⟩ := list_form hv
  obtain ⟨A2, c2, rfl, hc2, hm2⟩ := list_form hu
  obtain ⟨A3, c3, rfl, hc3, hm3⟩ := list_form hg
  obtain ⟨A4, c4, rfl, hc4, hm4⟩ := list_form ht
  have hs1 := hid fun W => state_calls d.inn d.out d.states d.start (.slice A1 d.rules.length c1) (.slice A2 d.finals.length c2) r.src W
  have hs2 := hid fun W => state_calls d.inn d.out d.states d.start (.slice A1 d.rules.length c1) (.slice A2 d.finals.length c2) r.dst W
  rw [h1] at hs1
  rw [h2] at hs2
  have hgd := hid fun W (hW : Below w.heap.size w W) => h3 ▸ guards_calls d.inn r.guards _ W ((listR spansR).below hg hW hW.size)
  have hwr := hid fun W (hW : Below w.heap.size w W) => writes_nil (.slice A4 ([] : List Term).length c4) (.slice A3 r.guards.length c3) (.slice A1 d.rules.length c1) (.slice A2 d.finals.length c2) d.inn d.out d.states d.start W ((listR termR).below ht hW hW.size)
  have e1 : (1 : Int) ≤ (r.guards.length : Int) := by omega
  have e3 : min (r.guards.length : Int) 1 = 1 := by omega
  have e4 : ¬ r.eat < 1 := by omega
  have e5 : ¬ (r.guards.length : Int) < r.eat := by omega
  clear hv hu hg ht h1 h2 h3 h4 h5
  unfold maxLen at hm3
  go_enter Try.func29, Try.ntmps29
  have hB0 : ∀ W, Below (w.heap.size + 2) ((w.alloc (.cells #[.int .i64 d.inn, .int .i64 d.out, .int .i64 d.states, .int .i64 d.start, .slice A1 d.rules.length c1, .slice A2 d.finals.length c2] 26)).alloc (.cells #[.int .i64 r.src, .int .i64 r.dst, .slice A3 r.guards.length c3, .int .i64 r.eat, .slice A4 0 c4] 42)) W → Below w.heap.size w W := fun W h => (((Below.refl _ _).alloc (Nat.le_refl _) _).alloc (by simp) _).trans (low h (by omega))
  go_wp2_with fail
  refine (hs1.out _).mono ?_
  rintro e w1 ⟨rfl, hB⟩
  have hB1 : Below (w.heap.size + 2) ((w.alloc (.cells #[.int .i64 d.inn, .int .i64 d.out, .int .i64 d.states, .int .i64 d.start, .slice A1 d.rules.length c1, .slice A2 d.finals.length c2] 26)).alloc (.cells #[.int .i64 r.src, .int .i64 r.dst, .slice A3 r.guards.length c3, .int .i64 r.eat, .slice A4 0 c4] 42)) w1 := low hB (by simp)
  obtain ⟨⟨p0, p1, p2, p3, p4, p5⟩, ⟨q0, q1, q2, q3, q4⟩⟩ := box65 hB1
  have hz1 := hB1.size
  simp at hz1
  go_wp2_with fail
  refine (hs2.out _).mono ?_
  rintro e w2 ⟨rfl, hB⟩
  clear p0 p1 p2 p3 p4 p5 q0 q1 q2 q3 q4
  have hB2 := hB1.trans (low hB hz1)
  obtain ⟨⟨p0, p1, p2, p3, p4, p5⟩, ⟨q0, q1, q2, q3, q4⟩⟩ := box65 hB2
  have hz2 := hB2.size
  simp at hz2
  go_wp2_with fail
  refine (hgd.out _ (hB0 _ hB2)).mono ?_
  rintro e w3 ⟨rfl, hB⟩
  clear p0 p1 p2 p3 p4 p5 q0 q1 q2 q3 q4
  have hB3 := hB2.trans (low hB hz2)
  obtain ⟨⟨p0, p1, p2, p3, p4, p5⟩, ⟨q0, q1, q2, q3, q4⟩⟩ := box65 hB3
  have hz3 := hB3.size
  simp at hz3
  go_wp2_with fail
  refine (hwr.out _ (hB0 _ hB3)).mono ?_
  rintro e w4 ⟨rfl, hB⟩
  have hB4 := hB3.trans (low hB hz3)
  clear p0 p1 p2 p3 p4 p5 q0 q1 q2 q3 q4
  go_wp2_with fail
  go_ret
  exact ⟨rfl, hB0 _ hB4⟩
end Go.Proofs.Ytflllgbjlfpgcaa
