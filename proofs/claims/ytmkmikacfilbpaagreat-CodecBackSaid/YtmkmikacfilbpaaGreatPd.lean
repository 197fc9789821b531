/-
  
-/
import Derived.Test.YtmkmikacfilbpaaGreatPc
namespace Go.Proofs.YtmkmikacfilbpaaGreat
open Go.RowKit Go.Um

set_option maxHeartbeats 1000000 in
theorem writes_nil (v g r f : Value) (a1 a2 a3 a4 : Int) (w : World) (hv : (listR termR).rel w (upto w.heap.size) [v] []) :
    Calls Tryz.prog 109 #[.agg #[.int .i64 a1, .int .i64 a2, .int .i64 a3, .int .i64 a4, r, f], v, g] w fun e w' => e = .returned (.bool true) ∧ Below w.heap.size w w' := by
  obtain ⟨A, c, rfl, hc, hm⟩ := list_form hv
  clear hv
  go_enter Tryz.func109, Tryz.ntmps109
  go_wp2_with fail
  refine wp_loop_rounds 1 ?_
  rw [rounds_succ]
  go_wp2_with fail
  go_ret
  exact ⟨rfl, (Below.refl _ _).alloc (Nat.le_refl _) _⟩

theorem box6 {w W : World} {x0 x1 x2 x3 x4 x5 : Value} {t : TypeId} (hB : Below (w.heap.size + 1) (w.alloc (.cells #[x0, x1, x2, x3, x4, x5] t)) W) :
    W.cell? ⟨w.heap.size, 0, none⟩ = some x0 ∧ W.cell? ⟨w.heap.size, 1, none⟩ = some x1 ∧ W.cell? ⟨w.heap.size, 2, none⟩ = some x2 ∧ W.cell? ⟨w.heap.size, 3, none⟩ = some x3 ∧ W.cell? ⟨w.heap.size, 4, none⟩ = some x4 ∧ W.cell? ⟨w.heap.size, 5, none⟩ = some x5 :=
  ⟨(hB.cell (p := ⟨w.heap.size, 0, none⟩) (by simp)).trans (by go_simp), (hB.cell (p := ⟨w.heap.size, 1, none⟩) (by simp)).trans (by go_simp), (hB.cell (p := ⟨w.heap.size, 2, none⟩) (by simp)).trans (by go_simp),
   (hB.cell (p := ⟨w.heap.size, 3, none⟩) (by simp)).trans (by go_simp), (hB.cell (p := ⟨w.heap.size, 4, none⟩) (by simp)).trans (by go_simp), (hB.cell (p := ⟨w.heap.size, 5, none⟩) (by simp)).trans (by go_simp)⟩
theorem box65 {w W : World} {x0 x1 x2 x3 x4 x5 y0 y1 y2 y3 y4 : Value} {t t' : TypeId} (hB : Below (w.heap.size + 2) ((w.alloc (.cells #[x0, x1, x2, x3, x4, x5] t)).alloc (.cells #[y0, y1, y2, y3, y4] t')) W) :
    (W.cell? ⟨w.heap.size, 0, none⟩ = some x0 ∧ W.cell? ⟨w.heap.size, 1, none⟩ = some x1 ∧ W.cell? ⟨w.heap.size, 2, none⟩ = some x2 ∧ W.cell? ⟨w.heap.size, 3, none⟩ = some x3 ∧ W.cell? ⟨w.heap.size, 4, none⟩ = some x4 ∧ W.cell? ⟨w.heap.size, 5, none⟩ = some x5) ∧ (W.cell? ⟨w.heap.size + 1, 0, none⟩ = some y0 ∧ W.cell? ⟨w.heap.size + 1, 1, none⟩ = some y1 ∧ W.cell? ⟨w.heap.size + 1, 2, none⟩ = some y2 ∧ W.cell? ⟨w.heap.size + 1, 3, none⟩ = some y3 ∧ W.cell? ⟨w.heap.size + 1, 4, none⟩ = some y4) :=
  ⟨⟨(hB.cell (p := ⟨w.heap.size, 0, none⟩) (by simp)).trans (by go_simp), (hB.cell (p := ⟨w.heap.size, 1, none⟩) (by simp)).trans (by go_simp), (hB.cell (p := ⟨w.heap.size, 2, none⟩) (by simp)).trans (by go_simp), (hB.cell (p := ⟨w.heap.size, 3, none⟩) (by simp)).trans (by go_simp), (hB.cell (p := ⟨w.heap.size, 4, none⟩) (by simp)).trans (by go_simp), (hB.cell (p := ⟨w.heap.size, 5, none⟩) (by simp)).trans (by go_simp)⟩, ⟨(hB.cell (p := ⟨w.heap.size + 1, 0, none⟩) (by simp)).trans (by go_simp), (hB.cell (p := ⟨w.heap.size + 1, 1, none⟩) (by simp)).trans (by go_simp), (hB.cell (p := ⟨w.heap.size + 1, 2, none⟩) (by simp)).trans (by go_simp), (hB.cell (p := ⟨w.heap.size + 1, 3, none⟩) (by simp)).trans (by go_simp), (hB.cell (p := ⟨w.heap.size + 1, 4, none⟩) (by simp)).trans (by go_simp)⟩⟩
theorem low {B B' : Nat} {a b : World} (h : Below B' a b) (hB : B ≤ B') : Below B a b := h.mono hB

set_option maxHeartbeats 1000000 in
theorem head_true (d : Desc) (v u : Value) (w : World) (hv : (listR ruleR).rel w (upto w.heap.size) [v] d.rules) (hu : (listR finalR).rel w (upto w.heap.size) [u] d.finals) (h1 : 0 < (domF d.inn).length) (h2 : 0 < (domF d.out).length) (h3 : 1 ≤ d.states) (h4 : d.states ≤ 1024) (h5 : stateF d.states d.start = true)
    (h6 : d.rules.length ≤ 4096) (h7 : d.finals.length ≤ 4096) :
    Calls Tryz.prog 105 #[.agg #[.int .i64 d.inn, .int .i64 d.out, .int .i64 d.states, .int .i64 d.start, v, u]] w fun e w' => e = .returned (.bool true) ∧ Below w.heap.size w w' := by
  obtain ⟨A1, c1, rfl, hc1, hm1⟩ := list_form hv
  obtain ⟨A2, c2, rfl, hc2, hm2⟩ := list_form hu
  have hd1 := hid fun W => Domain_calls d.inn W
  have hd2 := hid fun W => Domain_calls d.out W
  have hs := hid fun W => state_calls d.inn d.out d.states d.start (.slice A1 d.rules.length c1) (.slice A2 d.finals.length c2) d.start W
  have e1 : (0 : Int) < ((domF d.inn).length : Int) := by omega
  have e2 : (0 : Int) < ((domF d.out).length : Int) := by omega
  have e6 : (d.rules.length : Int) ≤ 4096 := by omega
  have e7 : (d.finals.length : Int) ≤ 4096 := by omega
  rw [h5] at hs
  have hn1 := h1
  clear hv hu h5 h6 h7
  go_enter Tryz.func105, Tryz.ntmps105
  go_wp2_with fail
  refine (hd1.out _).mono ?_
  rintro e w1 ⟨x, rfl, ho, hB⟩
  obtain ⟨A, c, rfl, _, _⟩ := list_form ho.rel
  clear ho
  have hB1 : Below (w.heap.size + 1) (w.alloc (.cells #[.int .i64 d.inn, .int .i64 d.out, .int .i64 d.states, .int .i64 d.start, .slice A1 d.rules.length c1, .slice A2 d.finals.length c2] 26)) w1 := low hB (by simp)
  obtain ⟨p0, p1, p2, p3, p4, p5⟩ := box6 hB1
  go_wp2_with fail
  refine (hd2.out _).mono ?_
  rintro e w2 ⟨x, rfl, ho, hB2⟩
  obtain ⟨A', c', rfl, _, _⟩ := list_form ho.rel
  clear ho p0 p1 p2 p3 p4 p5
  have hs1 := hB1.size
  simp at hs1
  have hB3 := hB1.trans (low hB2 hs1)
  obtain ⟨p0, p1, p2, p3, p4, p5⟩ := box6 hB3
  go_wp2_with fail
  refine (hs.out _).mono ?_
  rintro e w3 ⟨rfl, hB4⟩
  clear p0 p1 p2 p3 p4 p5
  have hs2 := hB3.size
  simp at hs2
  have hB5 := hB3.trans (low hB4 hs2)
  obtain ⟨p0, p1, p2, p3, p4, p5⟩ := box6 hB5
  go_wp2_with fail
  go_ret
  exact ⟨rfl, ((Below.refl _ _).alloc (Nat.le_refl _) _).trans (low hB5 (by omega))⟩

set_option maxHeartbeats 1000000 in
theorem rule_true (d : Desc) (r : Rule) (v u g t : Value) (w : World) (hv : (listR ruleR).rel w (upto w.heap.size) [v] d.rules) (hu : (listR finalR).rel w (upto w.heap.size) [u] d.finals)
    (hg : (listR spansR).rel w (upto w.heap.size) [g] r.guards) (ht : (listR termR).rel w (upto w.heap.size) [t] []) (h1 : stateF d.states r.src = true) (h2 : stateF d.states r.dst = true) (h3 : guardsF d.inn r.guards = true)
    (h4 : 1 ≤ r.eat) (h5 : r.eat ≤ r.guards.length) :
    Calls Tryz.prog 106 #[.agg #[.int .i64 d.inn, .int .i64 d.out, .int .i64 d.states, .int .i64 d.start, v, u], .agg #[.int .i64 r.src, .int .i64 r.dst, g, .int .i64 r.eat, t]] w fun e w' => e = .returned (.bool true) ∧ Below w.heap.size w w' := by
  obtain ⟨A1, c1, rfl, hc1, hm1⟩ := list_form hv
  obtain ⟨A2, c2, rfl, hc2, hm2⟩ := list_form hu
  obtain ⟨A3, c3, rfl, hc3, hm3⟩ := list_form hg
  obtain ⟨A4, c4, rfl, hc4, hm4⟩ := list_form ht
  have hs1 := hid fun W => state_calls d.inn d.out d.states d.start (.slice A1 d.rules.length c1) (.slice A2 d.finals.length c2) r.src W
  have hs2 := hid fun W => state_calls d.inn d.out d.states d.start (.slice A1 d.rules.length c1) (.slice A2 d.finals.length c2) r.dst W
  rw [h1] at hs1
  rw [h2] at hs2
  have hgd := hid fun W (hW : Below w.heap.size w W) => h3 ▸ guards_calls d.inn r.guards _ W ((listR spansR).below hg hW hW.size)
  have hwr := hid fun W (hW : Below w.heap.size w W) => writes_nil (.slice A4 ([] : List Term).length c4) (.slice A3 r.guards.length c3) (.slice A1 d.rules.length c1) (.slice A2 d.finals.length c2) d.inn d.out d.states d.start W ((listR termR).below ht hW hW.size)
  have e1 : (1 : Int) ≤ (r.guards.length : Int) := by omega
  have e3 : min (r.guards.length : Int) 1 = 1 := by omega
  have e4 : ¬ r.eat < 1 := by omega
  have e5 : ¬ (r.guards.length : Int) < r.eat := by omega
  clear hv hu hg ht h1 h2 h3 h4 h5
  unfold maxLen at hm3
  go_enter Tryz.func106, Tryz.ntmps106
  have hB0 : ∀ W, Below (w.heap.size + 2) ((w.alloc (.cells #[.int .i64 d.inn, .int .i64 d.out, .int .i64 d.states, .int .i64 d.start, .slice A1 d.rules.length c1, .slice A2 d.finals.length c2] 26)).alloc (.cells #[.int .i64 r.src, .int .i64 r.dst, .slice A3 r.guards.length c3, .int .i64 r.eat, .slice A4 0 c4] 56)) W → Below w.heap.size w W := fun W h => (((Below.refl _ _).alloc (Nat.le_refl _) _).alloc (by simp) _).trans (low h (by omega))
  go_wp2_with fail
  refine (hs1.out _).mono ?_
  rintro e w1 ⟨rfl, hB⟩
  have hB1 : Below (w.heap.size + 2) ((w.alloc (.cells #[.int .i64 d.inn, .int .i64 d.out, .int .i64 d.states, .int .i64 d.start, .slice A1 d.rules.length c1, .slice A2 d.finals.length c2] 26)).alloc (.cells #[.int .i64 r.src, .int .i64 r.dst, .slice A3 r.guards.length c3, .int .i64 r.eat, .slice A4 0 c4] 56)) w1 := low hB (by simp)
  obtain ⟨⟨p0, p1, p2, p3, p4, p5⟩, ⟨q0, q1, q2, q3, q4⟩⟩ := box65 hB1
  have hz1 := hB1.size
  simp at hz1
  go_wp2_with fail
  refine (hs2.out _).mono ?_
  rintro e w2 ⟨rfl, hB⟩
  clear p0 p1 p2 p3 p4 p5 q0 q1 q2 q3 q4
  have hB2 := hB1.trans (low hB hz1)
  obtain ⟨⟨p0, p1, p2, p3, p4, p5⟩, ⟨q0, q1, q2, q3, q4⟩⟩ := box65 hB2
  have hz2 := hB2.size
  simp at hz2
  go_wp2_with fail
  refine (hgd.out _ (hB0 _ hB2)).mono ?_
  rintro e w3 ⟨rfl, hB⟩
  clear p0 p1 p2 p3 p4 p5 q0 q1 q2 q3 q4
  have hB3 := hB2.trans (low hB hz2)
  obtain ⟨⟨p0, p1, p2, p3, p4, p5⟩, ⟨q0, q1, q2, q3, q4⟩⟩ := box65 hB3
  have hz3 := hB3.size
  simp at hz3
  go_wp2_with fail
  refine (hwr.out _ (hB0 _ hB3)).mono ?_
  rintro e w4 ⟨rfl, hB⟩
  have hB4 := hB3.trans (low hB hz3)
  clear p0 p1 p2 p3 p4 p5 q0 q1 q2 q3 q4
  go_wp2_with fail
  go_ret
  exact ⟨rfl, hB0 _ hB4⟩
end Go.Proofs.YtmkmikacfilbpaaGreat
namespace Go.Proofs.YtmkmikacfilbpaaGreat
open Go.RowKit Go.Um

theorem madeOne' {z : Array Value} {x : Value} (h : z = #[x]) : madeCells z (1 * 1) = #[x] := by
  subst h
  have e : Array.range 1 = #[0] := by decide
  simp [madeCells, e]
theorem info51 : (Tryz.prog.info? 73).map (fun i => (i.zero, i.size, i.bytes)) = some (some (.slice none 0 0), 1, 24) := by kernel_rfl
set_option maxHeartbeats 1000000 in
set_option maxRecDepth 100000 in
theorem cycle_one (gs : List (List Span)) (a1 a2 a4 src dst eat : Int) (v u : Value) (w : World) (hv : (listR ruleR).rel w (upto w.heap.size) [v] [⟨src, dst, gs, eat, []⟩]) (hu : (listR finalR).rel w (upto w.heap.size) [u] []) (hg : gs ≠ []) :
    Calls Tryz.prog 110 #[.agg #[.int .i64 a1, .int .i64 a2, .int .i64 1, .int .i64 a4, v, u]] w fun e w' => e = .returned (.bool false) ∧ Below w.heap.size w w' := by
  obtain ⟨A1, c1, rfl, hc1, hm1⟩ := list_form hv
  obtain ⟨A2, c2, rfl, hc2, hm2⟩ := list_form hu
  obtain ⟨b, o, y, z, rfl, hb, q1, q2, q3, q4, q5, q6, hy, hz⟩ := rule_at (i := 0) hv rfl
  obtain ⟨A3, c3, rfl, _, _⟩ := list_form hy
  obtain ⟨A4, c4, rfl, _, _⟩ := list_form hz
  have hb' : b < w.heap.size := hb
  have hl : ((gs.length : Int) == 0) = false := by
    have : gs.length ≠ 0 := fun h => hg (List.eq_nil_of_length_eq_zero h)
    simp; exact hg
  clear hv hu hy hz hg
  have k1 : w.cell? ⟨b, o, none⟩ = some (.int .i64 src) := by simpa using q1
  have k2 : w.cell? ⟨b, o + 1, none⟩ = some (.int .i64 dst) := by simpa using q2
  have k3 : w.cell? ⟨b, o + 2, none⟩ = some (.slice A3 gs.length c3) := by simpa using q3
  have k4 : w.cell? ⟨b, o + 3, none⟩ = some (.int .i64 eat) := by simpa using q4
  have k5 : w.cell? ⟨b, o + 4, none⟩ = some (.slice A4 ([] : List Term).length c4) := by simpa using q5
  have past : ∀ (p : Addr) (o1 o2 o3 : Obj), p.block < w.heap.size → (((w.alloc o1).alloc o2).alloc o3).cell? p = w.cell? p := fun p o1 o2 o3 h => ((((Below.refl w.heap.size w).alloc (Nat.le_refl _) o1).alloc (by simp) o2).alloc (by simp; omega) o3).cell h
  replace k1 : ∀ (o1 o2 o3 : Obj), (((w.alloc o1).alloc o2).alloc o3).cell? ⟨b, o, none⟩ = some (.int .i64 src) := fun _ _ _ => (past _ _ _ _ hb').trans k1
  replace k2 : ∀ (o1 o2 o3 : Obj), (((w.alloc o1).alloc o2).alloc o3).cell? ⟨b, o + 1, none⟩ = some (.int .i64 dst) := fun _ _ _ => (past _ _ _ _ hb').trans k2
  replace k3 : ∀ (o1 o2 o3 : Obj), (((w.alloc o1).alloc o2).alloc o3).cell? ⟨b, o + 2, none⟩ = some (.slice A3 gs.length c3) := fun _ _ _ => (past _ _ _ _ hb').trans k3
  replace k4 : ∀ (o1 o2 o3 : Obj), (((w.alloc o1).alloc o2).alloc o3).cell? ⟨b, o + 3, none⟩ = some (.int .i64 eat) := fun _ _ _ => (past _ _ _ _ hb').trans k4
  replace k5 : ∀ (o1 o2 o3 : Obj), (((w.alloc o1).alloc o2).alloc o3).cell? ⟨b, o + 4, none⟩ = some (.slice A4 ([] : List Term).length c4) := fun _ _ _ => (past _ _ _ _ hb').trans k5
  clear q1 q2 q3 q4 q5 past
  have hmk1 : ∀ W : World, (Instr.makeSlice 72 (.int .i64 1) (.int .i64 1)).run Tryz.prog W = .ok (.slice (some ⟨W.heap.size, 0, none⟩) 1 1) (W.alloc (.cells #[.slice none 0 0] 73)) := by
    obtain ⟨inf, hi0, hz0, hz1, hz2⟩ := info_parts info51
    intro W
    have := make_rowN (P := Tryz.prog) 72 73 inf (.slice none 0 0) Tryz.underlying72 hi0 hz0 .i64 .i64 1 1 (by decide) (by omega) (by decide) W
    rw [hz1] at this
    rw [madeOne' (z := (Value.slice none 0 0).cells) (x := .slice none 0 0) rfl] at this
    simpa using this
  have hmk2 : ∀ W : World, (Instr.makeSlice 73 (.int .i64 1) (.int .i64 1)).run Tryz.prog W = .ok (.slice (some ⟨W.heap.size, 0, none⟩) 1 1) (W.alloc (.cells #[.int .i64 0] 3)) := by
    obtain ⟨inf, hi0, hz0, hz1, hz2⟩ := info_parts info3
    intro W
    have := make_rowN (P := Tryz.prog) 73 3 inf (.int .i64 0) Tryz.underlying73 hi0 hz0 .i64 .i64 1 1 (by decide) (by omega) (by decide) W
    rw [hz1] at this
    rw [madeOne' (z := (Value.int .i64 0).cells) (x := .int .i64 0) rfl] at this
    simpa using this
  go_enter Tryz.func110, Tryz.ntmps110
  go_wp2_with fail
  refine wp_loop_rounds 2 ?_
  rw [rounds_succ]
  go_wp2_with fail
  rw [rounds_succ]
  go_wp2_with fail
  refine wp_loop_rounds 2 ?_
  rw [rounds_succ]
  go_wp2_with (at_builtin; refine Hid.out ?_)
  refine hid ?_
  obtain ⟨inf, hi0, hz0, hz1, hz2⟩ := info_parts info3
  refine wpList_append_own _ rfl _ _ 73 rfl (w.heap.size + 3) 3 inf (.int .i64 0) 1 8 Tryz.underlying73 hi0 hz0 hz1 hz2 rfl (by decide) _ _ _ rfl (World.ownsRow_nil _ _ _ _) ⟨w.heap.size + 4, 0, none⟩ 1 1 [.int .i64 0] rfl rfl
    (news_at (cs := #[_]) (by simp)) (ints_oneCell .i64 [0]) (by decide) (by decide) (by simp) ?_
  intro v' w5 hown hg hn
  have hB5 := below_grown (B := w.heap.size + 3) (World.ownsRow_nil _ _ 3 1) hg (Nat.le_refl _) (by simp)
  have f1 := (hB5.cell (p := ⟨w.heap.size, 2, none⟩) (by simp)).trans (show _ = some (.int .i64 1) by go_simp)
  have f2 := (hB5.cell (p := ⟨w.heap.size + 1, 0, none⟩) (by simp)).trans (show _ = some (.slice none 0 0) by go_simp)
  obtain ⟨g', cap, rfl⟩ := own_form hown (by decide)
  have f3 : w5.cell? ⟨g', 0, none⟩ = some (.int .i64 0) := by simpa [Addr.add] using hown.cells (g := g') rfl 0 (.int .i64 0) rfl
  have hcap : 1 ≤ cap := by
    obtain ⟨A, c, h1, h2, _⟩ := list_form (intsR (zs := [0]) ⟨by simpa using hown, by simp; decide⟩)
    simp at h1
    obtain ⟨_, rfl⟩ := h1
    exact h2
  have hBw : Below w.heap.size w w5 := ((((((Below.refl w.heap.size w).alloc (Nat.le_refl _) _).alloc (by simp) _).alloc (by simp; omega) _).alloc (by simp; omega) _).alloc (by simp; omega) _).trans (low hB5 (by omega))
  clear hB5 hown hg hn
  go_wp2_with fail
  rw [rounds_succ]
  go_wp2_with fail
  refine wp_loop_rounds 2 ?_
  rw [rounds_succ]
  go_wp2_with fail
  all_goals
    refine wp_loop_rounds 1 ?_
    rw [rounds_succ]
    go_wp2_with fail
    rw [rounds_succ]
    go_wp2_with fail
    go_ret
    exact ⟨rfl, hBw⟩

def oneD (gs : List (List Span)) : Desc := ⟨1, 1, 1, 0, [⟨0, 0, gs, 1, []⟩], []⟩
set_option maxHeartbeats 1000000 in
set_option maxRecDepth 100000 in
theorem Where_one (gs : List (List Span)) (v u : Value) (w : World) (hv : (listR ruleR).rel w (upto w.heap.size) [v] [⟨0, 0, gs, 1, []⟩]) (hu : (listR finalR).rel w (upto w.heap.size) [u] []) (hgs : guardsF 1 gs = true) (hg : gs ≠ []) :
    Calls Tryz.prog 78 #[.agg #[.int .i64 1, .int .i64 1, .int .i64 1, .int .i64 0, v, u]] w fun e w' => e = .returned (.tuple #[.int .i64 0, .int .i64 0]) ∧ Below w.heap.size w w' := by
  obtain ⟨A1, c1, rfl, hc1, hm1⟩ := list_form hv
  obtain ⟨A2, c2, rfl, hc2, hm2⟩ := list_form hu
  have hgl : 1 ≤ gs.length := by cases gs with | nil => exact absurd rfl hg | cons => simp
  have hh := hid fun W (hW : Below w.heap.size w W) => head_true (oneD gs) _ _ W ((listR ruleR).below hv hW hW.size) ((listR finalR).below hu hW hW.size) (show 0 < (domF 1).length by decide) (show 0 < (domF 1).length by decide) (show (1 : Int) ≤ 1 by decide) (show (1 : Int) ≤ 1024 by decide) (show stateF 1 0 = true by decide) (by simp [oneD]) (by simp [oneD])
  have hcy := hid fun W (hW : Below w.heap.size w W) => cycle_one gs 1 1 0 0 0 1 _ _ W ((listR ruleR).below hv hW hW.size) ((listR finalR).below hu hW hW.size) hg
  obtain ⟨b, o, y, z, rfl, hb, q1, q2, q3, q4, q5, q6, hy, hz⟩ := rule_at (i := 0) hv rfl
  dsimp only at q1 q2 q3 q4 q5 hy hz
  obtain ⟨A3, c3, rfl, _, _⟩ := list_form hy
  obtain ⟨A4, c4, rfl, _, _⟩ := list_form hz
  have hru := hid fun W (hW : Below w.heap.size w W) => rule_true (oneD gs) ⟨0, 0, gs, 1, []⟩ _ _ _ _ W ((listR ruleR).below hv hW hW.size) ((listR finalR).below hu hW hW.size) ((listR spansR).below hy hW hW.size) ((listR termR).below hz hW hW.size) (show stateF 1 0 = true by decide) (show stateF 1 0 = true by decide) hgs (show (1 : Int) ≤ 1 by decide) (show (1 : Int) ≤ (gs.length : Int) by omega)
  have hb' : b < w.heap.size := hb
  have k1 : w.cell? ⟨b, o, none⟩ = some (.int .i64 0) := by simpa using q1
  have k2 : w.cell? ⟨b, o + 1, none⟩ = some (.int .i64 0) := by simpa using q2
  have k3 : w.cell? ⟨b, o + 2, none⟩ = some (.slice A3 gs.length c3) := by simpa using q3
  have k4 : w.cell? ⟨b, o + 3, none⟩ = some (.int .i64 1) := by simpa using q4
  have k5 : w.cell? ⟨b, o + 4, none⟩ = some (.slice A4 ([] : List Term).length c4) := by simpa using q5
  have hB0 : ∀ O W, Below (w.heap.size + 1) (w.alloc O) W → Below w.heap.size w W := fun O W h => ((Below.refl _ _).alloc (Nat.le_refl _) _).trans (low h (by omega))
  clear hv hu q1 q2 q3 q4 q5 q6 hy hz hgs hg
  go_enter Tryz.func78, Tryz.ntmps78
  go_wp2_with fail
  refine (hh.out _ ((Below.refl _ _).alloc (Nat.le_refl _) _)).mono ?_
  rintro e w1 ⟨rfl, hB⟩
  have hB1 : Below (w.heap.size + 1) (w.alloc (.cells #[.int .i64 1, .int .i64 1, .int .i64 1, .int .i64 0, .slice (some ⟨b, o, none⟩) 1 c1, .slice A2 0 c2] 26)) w1 := low hB (by simp)
  obtain ⟨p0, p1, p2, p3, p4, p5⟩ := box6 hB1
  have hz1 := hB1.size
  simp at hz1
  have hBw := hB0 _ _ hB1
  replace k1 := (hBw.cell (p := ⟨b, o, none⟩) hb').trans k1
  replace k2 := (hBw.cell (p := ⟨b, o + 1, none⟩) hb').trans k2
  replace k3 := (hBw.cell (p := ⟨b, o + 2, none⟩) hb').trans k3
  replace k4 := (hBw.cell (p := ⟨b, o + 3, none⟩) hb').trans k4
  replace k5 := (hBw.cell (p := ⟨b, o + 4, none⟩) hb').trans k5
  go_wp2_with fail
  refine wp_loop_rounds 2 ?_
  rw [rounds_succ]
  have P := fun O => box6 (hB1.alloc hz1 O)
  have r0 := fun O => (P O).1
  have r1 := fun O => (P O).2.1
  have r2 := fun O => (P O).2.2.1
  have r3 := fun O => (P O).2.2.2.1
  have r4 := fun O => (P O).2.2.2.2.1
  have r5 := fun O => (P O).2.2.2.2.2
  clear P
  go_wp2_with fail
  refine (hru.out _ (hBw.alloc hBw.size _)).mono ?_
  rintro e w2 ⟨rfl, hB⟩
  have hB2 : Below (w.heap.size + 1) (w.alloc (.cells #[.int .i64 1, .int .i64 1, .int .i64 1, .int .i64 0, .slice (some ⟨b, o, none⟩) 1 c1, .slice A2 0 c2] 26)) w2 := (hB1.alloc hz1 _).trans (low hB (by simp; omega))
  clear p0 p1 p2 p3 p4 p5 r0 r1 r2 r3 r4 r5
  obtain ⟨p0, p1, p2, p3, p4, p5⟩ := box6 hB2
  have hz2 := hB2.size
  simp at hz2
  go_wp2_with fail
  rw [rounds_succ]
  go_wp2_with fail
  refine wp_loop_rounds 1 ?_
  rw [rounds_succ]
  go_wp2_with fail
  refine (hcy.out _ (hB0 _ _ hB2)).mono ?_
  rintro e w3 ⟨rfl, hB⟩
  have hB3 := hB2.trans (low hB hz2)
  go_wp2_with fail
  go_ret2
  exact ⟨rfl, hB0 _ _ hB3⟩

set_option maxHeartbeats 1000000 in
theorem Check_one (gs : List (List Span)) (v u : Value) (w : World) (hv : (listR ruleR).rel w (upto w.heap.size) [v] [⟨0, 0, gs, 1, []⟩]) (hu : (listR finalR).rel w (upto w.heap.size) [u] []) (hgs : guardsF 1 gs = true) (hg : gs ≠ []) :
    Calls Tryz.prog 34 #[.agg #[.int .i64 1, .int .i64 1, .int .i64 1, .int .i64 0, v, u]] w fun e w' => e = .returned (.int .i64 0) ∧ Below w.heap.size w w' := by
  have hw := hid fun W (hW : Below w.heap.size w W) => Where_one gs v u W ((listR ruleR).below hv hW hW.size) ((listR finalR).below hu hW hW.size) hgs hg
  obtain ⟨A1, c1, rfl, hc1, hm1⟩ := list_form hv
  obtain ⟨A2, c2, rfl, hc2, hm2⟩ := list_form hu
  clear hv hu hgs hg
  go_enter Tryz.func34, Tryz.ntmps34
  go_wp2_with fail
  refine (hw.out _ ((Below.refl _ _).alloc (Nat.le_refl _) _)).mono ?_
  rintro e w1 ⟨rfl, hB⟩
  have hBw := ((Below.refl w.heap.size w).alloc (Nat.le_refl _) _).trans (low hB (by simp))
  go_wp2_with fail
  go_ret
  exact ⟨rfl, hBw⟩

set_option maxHeartbeats 1000000 in
theorem Sole_one (gs : List (List Span)) (v u : Value) (w : World) (hv : (listR ruleR).rel w (upto w.heap.size) [v] [⟨0, 0, gs, 1, []⟩]) (hu : (listR finalR).rel w (upto w.heap.size) [u] []) (hgs : guardsF 1 gs = true) (hg : gs ≠ []) (hgl : ∀ g ∈ gs, g.length ≤ 1073741824) :
    Calls Tryz.prog 16 #[.agg #[.int .i64 1, .int .i64 1, .int .i64 1, .int .i64 0, v, u]] w fun e w' => e = .returned (.tuple #[.bool true, .int .i64 0]) ∧ Below w.heap.size w w' := by
  have hw := hid fun W (hW : Below w.heap.size w W) => Check_one gs v u W ((listR ruleR).below hv hW hW.size) ((listR finalR).below hu hW hW.size) hgs hg
  have hcl := hid fun W (hW : Below w.heap.size w W) => Clash_calls (oneD gs) v u W ((listR ruleR).below hv hW hW.size) ((listR finalR).below hu hW hW.size) 1 1 1 0 (by simp [oneD]) (by simp [oneD]) (by simpa [oneD, optsD, ruleOpt] using hgl)
  have hres : clashS (optsD (oneD gs)) = .tuple #[.int .i64 0, .int .i64 0, .bool false] := by
    simp [clashS, optsD, oneD, ruleOpt, outerS, idxO, innerS, pairF]
  rw [hres] at hcl
  obtain ⟨A1, c1, rfl, hc1, hm1⟩ := list_form hv
  obtain ⟨A2, c2, rfl, hc2, hm2⟩ := list_form hu
  clear hv hu hgs hg hres hgl
  go_enter Tryz.func16, Tryz.ntmps16
  go_wp2_with fail
  refine (hw.out _ ((Below.refl _ _).alloc (Nat.le_refl _) _)).mono ?_
  rintro e w1 ⟨rfl, hB⟩
  have hB1 : Below (w.heap.size + 1) (w.alloc (.cells #[.int .i64 1, .int .i64 1, .int .i64 1, .int .i64 0, .slice A1 1 c1, .slice A2 0 c2] 26)) w1 := low hB (by simp)
  obtain ⟨p0, p1, p2, p3, p4, p5⟩ := box6 hB1
  have hBw := ((Below.refl w.heap.size w).alloc (Nat.le_refl _) _).trans (low hB1 (by omega))
  go_wp2_with fail
  refine (hcl.out _ hBw).mono ?_
  rintro e w2 ⟨rfl, hB⟩
  go_wp2_with fail
  go_ret2
  exact ⟨rfl, hBw.trans (low hB hBw.size)⟩
end Go.Proofs.YtmkmikacfilbpaaGreat
namespace Go.Proofs.YtmkmikacfilbpaaGreat
open Go.RowKit Go.Um

theorem list_one {α : Type} {r : RepOf α} {w : World} {S : Nat → Prop} {b o c : Nat} {x : α} {ds : List Value} (h1 : 1 ≤ c) (hc : c ≤ maxLen) (hS : S b) (hr : r.rel w S ds x)
    (hcells : ∀ (j : Nat) (v : Value), ds[j]? = some v → w.cell? ⟨b, o + j, none⟩ = some v) : (listR r).rel w S [.slice (some ⟨b, o, none⟩) 1 c] [x] := by
  refine ⟨_, _, _, rfl, rfl, h1, hc, .inr ⟨b, o, rfl, hS, fun i y hi => ?_⟩⟩
  match i, hi with
  | 0, hi =>
    simp at hi
    subst hi
    exact ⟨ds, hr, fun j v hv => by simpa using hcells j v hv⟩
theorem list_two {α : Type} {r : RepOf α} {w : World} {S : Nat → Prop} {b o c : Nat} {x y : α} {ds es : List Value} (h1 : 2 ≤ c) (hc : c ≤ maxLen) (hS : S b) (hr : r.rel w S ds x) (hr2 : r.rel w S es y)
    (hcells : ∀ (j : Nat) (v : Value), ds[j]? = some v → w.cell? ⟨b, o + j, none⟩ = some v) (hcells2 : ∀ (j : Nat) (v : Value), es[j]? = some v → w.cell? ⟨b, o + r.width + j, none⟩ = some v) : (listR r).rel w S [.slice (some ⟨b, o, none⟩) 2 c] [x, y] := by
  refine ⟨_, _, _, rfl, rfl, h1, hc, .inr ⟨b, o, rfl, hS, fun i z hi => ?_⟩⟩
  match i, hi with
  | 0, hi =>
    simp at hi
    subst hi
    exact ⟨ds, hr, fun j v hv => by simpa using hcells j v hv⟩
  | 1, hi =>
    simp at hi
    subst hi
    exact ⟨es, hr2, fun j v hv => by simpa using hcells2 j v hv⟩

def ga : List Span := [⟨97, 99⟩]
def gc : List Span := [⟨99, 99⟩]
theorem ga_c : (meetF ga gc).isEmpty = false := by
  have h : mem (meetF ga gc) 99 := mem_meetF.2 ⟨⟨by decide, ⟨97, 99⟩, by simp [ga], by decide⟩, ⟨by decide, ⟨99, 99⟩, by simp [gc], by decide⟩⟩
  cases h2 : meetF ga gc with
  | nil => rw [h2] at h; obtain ⟨s, hs, _⟩ := h; cases hs
  | cons a b => rfl
theorem awake_clash : clashS (optsD ⟨1, 1, 1, 0, [⟨0, 0, [ga], 1, []⟩, ⟨0, 0, [gc, gc], 1, []⟩], []⟩) = .tuple #[.int .i64 0, .int .i64 1, .bool true] := by
  have h : clashF ⟨0, [ga], false⟩ ⟨0, [gc, gc], false⟩ = true := by simp [clashF, meetG, ga_c]
  have hi : idxO [⟨0, [ga], false⟩, ⟨0, [gc, gc], false⟩] 2 0 = [0, 1] := by decide
  simp [clashS, optsD, ruleOpt, outerS, hi, innerS, pairF, h]
theorem guards_cc : guardsF 1 [gc, gc] = true := by
  have h : minusF gc (domF 1) = [] := minusF_nil.2 (by
    rintro z ⟨hz, s, hs, h1, h2⟩
    simp [gc] at hs
    subst hs
    simp only at h1 h2
    exact ⟨hz, ⟨0, 255⟩, by simp [domF], by simp only; omega, by simp only; omega⟩)
  have h2 : guardOk 1 gc = true := by
    have : plain gc = true := by decide
    simp [guardOk, this, h]
    simp [gc]
  simp [guardsF, h2]

theorem awake_rel {W : World} {b0 b1 b2 b3 b4 : Nat} (n0 : b0 < W.heap.size) (n1 : b1 < W.heap.size) (n2 : b2 < W.heap.size) (n3 : b3 < W.heap.size) (n4 : b4 < W.heap.size)
    (h0 : ∀ (j : Nat) (v : Value), [Value.int .i64 97, .int .i64 99][j]? = some v → W.cell? ⟨b0, 0 + j, none⟩ = some v)
    (h1 : ∀ (j : Nat) (v : Value), [Value.int .i64 99, .int .i64 99][j]? = some v → W.cell? ⟨b1, 0 + j, none⟩ = some v)
    (h2 : ∀ (j : Nat) (v : Value), [Value.slice (some ⟨b0, 0, none⟩) 1 1][j]? = some v → W.cell? ⟨b2, 0 + j, none⟩ = some v)
    (h3 : ∀ (j : Nat) (v : Value), [Value.slice (some ⟨b1, 0, none⟩) 1 1, .slice (some ⟨b1, 0, none⟩) 1 1][j]? = some v → W.cell? ⟨b3, 0 + j, none⟩ = some v)
    (h4 : ∀ (j : Nat) (v : Value), [Value.int .i64 0, .int .i64 0, .slice (some ⟨b2, 0, none⟩) 1 1, .int .i64 1, .slice none 0 0, .int .i64 0, .int .i64 0, .slice (some ⟨b3, 0, none⟩) 2 2, .int .i64 1, .slice none 0 0][j]? = some v → W.cell? ⟨b4, 0 + j, none⟩ = some v) :
    (listR ruleR).rel W (upto W.heap.size) [.slice (some ⟨b4, 0, none⟩) 2 2] [⟨0, 0, [ga], 1, []⟩, ⟨0, 0, [gc, gc], 1, []⟩] ∧ (listR ruleR).rel W (upto W.heap.size) [.slice (some ⟨b4, 5, none⟩) 1 1] [⟨0, 0, [gc, gc], 1, []⟩] := by
  have g0 : spansR.rel W (upto W.heap.size) [.slice (some ⟨b0, 0, none⟩) 1 1] ga := list_one (r := spanR) (by decide) (by decide) n0 (ds := [.int .i64 97, .int .i64 99]) ⟨rfl, I64.of (by decide) (by decide), I64.of (by decide) (by decide)⟩ h0
  have g1 : spansR.rel W (upto W.heap.size) [.slice (some ⟨b1, 0, none⟩) 1 1] gc := list_one (r := spanR) (by decide) (by decide) n1 (ds := [.int .i64 99, .int .i64 99]) ⟨rfl, I64.of (by decide) (by decide), I64.of (by decide) (by decide)⟩ h1
  have g2 : (listR spansR).rel W (upto W.heap.size) [.slice (some ⟨b2, 0, none⟩) 1 1] [ga] := list_one (by decide) (by decide) n2 g0 h2
  have g3 : (listR spansR).rel W (upto W.heap.size) [.slice (some ⟨b3, 0, none⟩) 2 2] [gc, gc] := list_two (by decide) (by decide) n3 g1 g1 (fun j v hv => h3 j v (by match j, hv with | 0, hv => exact hv)) (fun j v hv => by
    have h5 := h3 (1 + j) v (by match j, hv with | 0, hv => exact hv)
    have e : 0 + (1 + j) = 0 + spansR.width + j := by show 0 + (1 + j) = 0 + 1 + j; omega
    rw [e] at h5; exact h5)
  have gt : (listR termR).rel W (upto W.heap.size) [.slice none 0 0] [] := list_nil termR _ _
  have e0 : ruleR.rel W (upto W.heap.size) [.int .i64 0, .int .i64 0, .slice (some ⟨b2, 0, none⟩) 1 1, .int .i64 1, .slice none 0 0] ⟨0, 0, [ga], 1, []⟩ := ⟨_, _, rfl, ⟨I64.of (by decide) (by decide), I64.of (by decide) (by decide), I64.of (by decide) (by decide)⟩, g2, gt⟩
  have e1 : ruleR.rel W (upto W.heap.size) [.int .i64 0, .int .i64 0, .slice (some ⟨b3, 0, none⟩) 2 2, .int .i64 1, .slice none 0 0] ⟨0, 0, [gc, gc], 1, []⟩ := ⟨_, _, rfl, ⟨I64.of (by decide) (by decide), I64.of (by decide) (by decide), I64.of (by decide) (by decide)⟩, g3, gt⟩
  have hlo : ∀ (j : Nat) (v : Value), [Value.int .i64 0, .int .i64 0, .slice (some ⟨b2, 0, none⟩) 1 1, .int .i64 1, .slice none 0 0][j]? = some v → W.cell? ⟨b4, 0 + j, none⟩ = some v := fun j v hv => h4 j v (by
    match j, hv with | 0, hv => exact hv | 1, hv => exact hv | 2, hv => exact hv | 3, hv => exact hv | 4, hv => exact hv)
  have hhi : ∀ (j : Nat) (v : Value), [Value.int .i64 0, .int .i64 0, .slice (some ⟨b3, 0, none⟩) 2 2, .int .i64 1, .slice none 0 0][j]? = some v → W.cell? ⟨b4, 5 + j, none⟩ = some v := fun j v hv => by
    have := h4 (5 + j) v (by match j, hv with | 0, hv => exact hv | 1, hv => exact hv | 2, hv => exact hv | 3, hv => exact hv | 4, hv => exact hv)
    simpa using this
  exact ⟨list_two (by decide) (by decide) n4 e0 e1 hlo (fun j v hv => by have := hhi j v hv; simpa [ruleR] using this), list_one (by decide) (by decide) n4 e1 hhi⟩

def awW (w : World) : World :=
  (((((w.alloc (.cells #[.int .i64 97, .int .i64 99] 64)).alloc (.cells #[.int .i64 99, .int .i64 99] 64)).alloc (.cells #[.slice (some ⟨w.heap.size, 0, none⟩) 1 1] 65)).alloc
    (.cells #[.slice (some ⟨w.heap.size + 1, 0, none⟩) 1 1, .slice (some ⟨w.heap.size + 1, 0, none⟩) 1 1] 65)).alloc
    (.cells #[.int .i64 0, .int .i64 0, .slice (some ⟨w.heap.size + 1 + 1, 0, none⟩) 1 1, .int .i64 1, .slice none 0 0, .int .i64 0, .int .i64 0, .slice (some ⟨w.heap.size + 1 + 1 + 1, 0, none⟩) 2 2, .int .i64 1, .slice none 0 0] 56)).alloc
    (.cells #[.int .i64 1, .int .i64 1, .int .i64 1, .int .i64 0, .slice (some ⟨w.heap.size + 1 + 1 + 1 + 1, 0, none⟩) 2 2, .slice none 0 0] 26)
theorem awW_size (w : World) : (awW w).heap.size = w.heap.size + 6 := by simp [awW]
theorem awW_below (w : World) : Below w.heap.size w (awW w) := by
  unfold awW
  exact ((((((Below.refl w.heap.size w).alloc (Nat.le_refl _) _).alloc (by simp) _).alloc (by simp; omega) _).alloc (by simp; omega) _).alloc (by simp; omega) _).alloc (by simp; omega) _
set_option maxHeartbeats 1000000 in
theorem awake_mem (w W : World) (hB : Below (w.heap.size + 5) (awW w) W) (hz : w.heap.size + 5 ≤ W.heap.size) :
    (listR ruleR).rel W (upto W.heap.size) [.slice (some ⟨w.heap.size + 1 + 1 + 1 + 1, 0, none⟩) 2 2] [⟨0, 0, [ga], 1, []⟩, ⟨0, 0, [gc, gc], 1, []⟩] ∧ (listR ruleR).rel W (upto W.heap.size) [.slice (some ⟨w.heap.size + 1 + 1 + 1 + 1, 5, none⟩) 1 1] [⟨0, 0, [gc, gc], 1, []⟩] := by
  refine awake_rel (b0 := w.heap.size) (b1 := w.heap.size + 1) (b2 := w.heap.size + 1 + 1) (b3 := w.heap.size + 1 + 1 + 1) (by omega) (by omega) (by omega) (by omega) (by omega) ?_ ?_ ?_ ?_ ?_
  · intro j v hv
    rw [hB.cell (p := ⟨w.heap.size, 0 + j, none⟩) (by show w.heap.size < _; omega)]
    match j, hv with
    | 0, hv => cases hv; unfold awW; go_simp
    | 1, hv => cases hv; unfold awW; go_simp
  · intro j v hv
    rw [hB.cell (p := ⟨w.heap.size + 1, 0 + j, none⟩) (by show w.heap.size + 1 < _; omega)]
    match j, hv with
    | 0, hv => cases hv; unfold awW; go_simp
    | 1, hv => cases hv; unfold awW; go_simp
  · intro j v hv
    rw [hB.cell (p := ⟨w.heap.size + 1 + 1, 0 + j, none⟩) (by show w.heap.size + 1 + 1 < _; omega)]
    match j, hv with
    | 0, hv => cases hv; unfold awW; go_simp
  · intro j v hv
    rw [hB.cell (p := ⟨w.heap.size + 1 + 1 + 1, 0 + j, none⟩) (by show w.heap.size + 1 + 1 + 1 < _; omega)]
    match j, hv with
    | 0, hv => cases hv; unfold awW; go_simp
    | 1, hv => cases hv; unfold awW; go_simp
  · intro j v hv
    rw [hB.cell (p := ⟨w.heap.size + 1 + 1 + 1 + 1, 0 + j, none⟩) (by show w.heap.size + 1 + 1 + 1 + 1 < _; omega)]
    match j, hv with
    | 0, hv => cases hv; unfold awW; go_simp
    | 1, hv => cases hv; unfold awW; go_simp
    | 2, hv => cases hv; unfold awW; go_simp
    | 3, hv => cases hv; unfold awW; go_simp
    | 4, hv => cases hv; unfold awW; go_simp
    | 5, hv => cases hv; unfold awW; go_simp
    | 6, hv => cases hv; unfold awW; go_simp
    | 7, hv => cases hv; unfold awW; go_simp
    | 8, hv => cases hv; unfold awW; go_simp
    | 9, hv => cases hv; unfold awW; go_simp

set_option maxHeartbeats 1000000 in
theorem awake_calls (w : World) : Calls Tryz.prog 15 #[] w fun e w' => e = .returned (.bool true) ∧ Below w.heap.size w w' := by
  have hc : Hid (Calls Tryz.prog 46 _ (awW w) _) := hid (Clash_calls ⟨1, 1, 1, 0, [⟨0, 0, [ga], 1, []⟩, ⟨0, 0, [gc, gc], 1, []⟩], []⟩ _ _ (awW w) (awake_mem w _ (Below.refl _ _) (by rw [awW_size]; omega)).1 (list_nil finalR _ _) 1 1 1 0 (by simp) (by simp) (by
    intro o ho g hg
    simp [optsD, ruleOpt] at ho
    rcases ho with rfl | rfl <;> simp at hg <;> subst hg <;> simp [ga, gc]))
  rw [awake_clash] at hc
  have hs := hid fun W (hW : Below (w.heap.size + 5) (awW w) W) (hz : w.heap.size + 5 ≤ W.heap.size) => Sole_one [gc, gc] _ _ W (awake_mem w W hW hz).2 (list_nil finalR _ _) guards_cc (by simp) (by
    intro g hg
    simp at hg
    subst hg
    simp [gc])
  have hB0 := awW_below w
  have hz0 := awW_size w
  have c0 : (awW w).cell? ⟨w.heap.size + 1 + 1 + 1 + 1 + 1, 0, none⟩ = some (.int .i64 1) := by unfold awW; go_simp
  have c1 : (awW w).cell? ⟨w.heap.size + 1 + 1 + 1 + 1 + 1, 1, none⟩ = some (.int .i64 1) := by unfold awW; go_simp
  have c2 : (awW w).cell? ⟨w.heap.size + 1 + 1 + 1 + 1 + 1, 2, none⟩ = some (.int .i64 1) := by unfold awW; go_simp
  have c3 : (awW w).cell? ⟨w.heap.size + 1 + 1 + 1 + 1 + 1, 3, none⟩ = some (.int .i64 0) := by unfold awW; go_simp
  have c4 : (awW w).cell? ⟨w.heap.size + 1 + 1 + 1 + 1 + 1, 4, none⟩ = some (.slice (some ⟨w.heap.size + 1 + 1 + 1 + 1, 0, none⟩) 2 2) := by unfold awW; go_simp
  have c5 : (awW w).cell? ⟨w.heap.size + 1 + 1 + 1 + 1 + 1, 5, none⟩ = some (.slice none 0 0) := by unfold awW; go_simp
  have HC := hid (And.intro c0 (And.intro c1 (And.intro c2 (And.intro c3 (And.intro c4 c5)))))
  have HZ := hid hz0
  have HB0 := hid hB0
  clear c0 c1 c2 c3 c4 c5 hz0 hB0
  go_enter Tryz.func15, Tryz.ntmps15
  go_wp2_with fail
  refine Calls.mono (w := awW w) hc.out ?_
  rintro e w1 ⟨rfl, hB⟩
  rw [HZ.out] at hB
  have hz1 := hB.size
  rw [HZ.out] at hz1
  obtain ⟨c0, c1, c2, c3, c4, c5⟩ := HC.out
  have hlt : w.heap.size + 1 + 1 + 1 + 1 + 1 < w.heap.size + 6 := by omega
  replace c0 := (hB.cell (p := ⟨w.heap.size + 1 + 1 + 1 + 1 + 1, 0, none⟩) hlt).trans c0
  replace c1 := (hB.cell (p := ⟨w.heap.size + 1 + 1 + 1 + 1 + 1, 1, none⟩) hlt).trans c1
  replace c2 := (hB.cell (p := ⟨w.heap.size + 1 + 1 + 1 + 1 + 1, 2, none⟩) hlt).trans c2
  replace c3 := (hB.cell (p := ⟨w.heap.size + 1 + 1 + 1 + 1 + 1, 3, none⟩) hlt).trans c3
  replace c4 := (hB.cell (p := ⟨w.heap.size + 1 + 1 + 1 + 1 + 1, 4, none⟩) hlt).trans c4
  replace c5 := (hB.cell (p := ⟨w.heap.size + 1 + 1 + 1 + 1 + 1, 5, none⟩) hlt).trans c5
  have fr : w1.frozen? ⟨w.heap.size + 1 + 1 + 1 + 1 + 1, 4, none⟩ = false := (World.frozen?_of_block (a := ⟨w.heap.size + 1 + 1 + 1 + 1 + 1, 4, none⟩) (hB.block _ hlt)).trans (by unfold awW; go_simp)
  have hW2 : Below (w.heap.size + 5) (awW w) (w1.setCell ⟨w.heap.size + 1 + 1 + 1 + 1 + 1, 4, none⟩ (.slice (some ⟨w.heap.size + 1 + 1 + 1 + 1, 5, none⟩) 1 1)) := (low hB (by omega)).setCell (by show w.heap.size + 5 ≤ w.heap.size + 1 + 1 + 1 + 1 + 1; omega) _
  have hz2 : w.heap.size + 5 ≤ (w1.setCell ⟨w.heap.size + 1 + 1 + 1 + 1 + 1, 4, none⟩ (.slice (some ⟨w.heap.size + 1 + 1 + 1 + 1, 5, none⟩) 1 1)).heap.size := by have := hW2.size; rw [HZ.out] at this; omega
  have HW2 := hid hW2
  have HZ2 := hid hz2
  clear hW2 hz2
  go_wp2_with fail
  refine (hs.out _ HW2.out HZ2.out).mono ?_
  rintro e w2 ⟨rfl, hB2⟩
  go_wp2_with fail
  go_ret
  exact ⟨rfl, HB0.out.trans (low (HW2.out.trans (low hB2 HZ2.out)) (by omega))⟩
end Go.Proofs.YtmkmikacfilbpaaGreat
