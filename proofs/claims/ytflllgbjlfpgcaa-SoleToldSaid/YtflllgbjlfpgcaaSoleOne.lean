import Derived.Test.YtflllgbjlfpgcaaHead

namespace Go.Proofs.Ytflllgbjlfpgcaa
open Go.RowKit Go.Um

theorem madeOne' {z : Array Value} {x : Value} (h : z = #[x]) : madeCells z (1 * 1) = #[x] := by
  subst h
  have e : Array.range 1 = #[0] := by decide
  simp [madeCells, e]
theorem info51 : (Try.prog.info? 51).map (fun i => (i.zero, i.size, i.bytes)) = some (some (.slice none 0 0), 1, 24) := by kernel_rfl
set_option maxHeartbeats 1000000 in
set_option maxRecDepth 100000 in
theorem cycle_one (gs : List (List Span)) (a1 a2 a4 src dst eat : Int) (v u : Value) (w : World) (hv : (listR ruleR).rel w (upto w.heap.size) [v] [⟨src, dst, gs, eat, []⟩]) (hu : (listR finalR).rel w (upto w.heap.size) [u] []) (hg : gs ≠ []) :
    Calls Try.prog 33 #[.agg #[.int .i64 a1, .int .i64 a2, .int .i64 1, .int .i64 a4, v, u]] w fun e w' => e = .returned (.bool false) ∧ Below w.heap.size w w' := by
  obtain ⟨A1, c1, rfl, hc1, hm1⟩ := list_form hv
  obtain ⟨A2, c2, rfl, hc2, hm2⟩ := list_form hu
  obtain ⟨b, o, y, z, rfl, hb, q1, q2, q3, q4, q5, q6, hy, hz⟩ := rule_at (i := 0) hv rfl
  obtain ⟨A3, c3, rfl, _, _⟩ := list_form hy
  obtain ⟨A4, c4, rfl, _, _⟩ := list_form hz
  have hb' : b < w.heap.size := hb
  have hl : ((gs.length : Int) == 0) = false := by
    have : gs.length ≠ 0 := fun h => hg (List.eq_nil_of_length_eq_zero h)
    simp; exact hg
  clear hv hu hy hz hg
  have k1 : w.cell? ⟨b, o, none⟩ = some (.int .i64 src) := by simpa using q1
  have k2 : w.cell? ⟨b, o + 1, none⟩ = some (.int .i64 dst) := by simpa using q2
  have k3 : w.cell? ⟨b, o + 2, none⟩ = some (.slice A3 gs.length c3) := by simpa using q3
  have k4 : w.cell? ⟨b, o + 3, none⟩ = some (.int .i64 eat) := by simpa using q4
  have k5 : w.cell? ⟨b, o + 4, none⟩ = some (.slice A4 ([] : List Term).length c4) := by simpa using q5
  have past : ∀ (p : Addr) (o1 o2 o3 : Obj), p.block < w.heap.size → (((w.alloc o1).alloc o2).alloc o3).cell? p = w.cell? p := fun p o1 o2 o3 h => ((((Below.refl w.heap.size w).alloc (Nat.le_refl _) o1).alloc (by simp) o2).alloc (by simp; omega) o3).cell h
  replace k1 : ∀ (o1 o2 o3 : Obj), (((w.alloc o1).alloc o2).alloc o3).cell? ⟨b, o, none⟩ = some (.int .i64 src) := fun _ _ _ => (past _ _ _ _ hb').trans k1
  replace k2 : ∀ (o1 o2 o3 : Obj), (((w.alloc o1).alloc o2).alloc o3).cell? ⟨b, o + 1, none⟩ = some (.int .i64 dst) := fun _ _ _ => (past _ _ _ _ hb').trans k2
  replace k3 : ∀ (o1 o2 o3 : Obj), (((w.alloc o1).alloc o2).alloc o3).cell? ⟨b, o + 2, none⟩ = some (.slice A3 gs.length c3) := fun _ _ _ => (past _ _ _ _ hb').trans k3
  replace k4 : ∀ (o1 o2 o3 : Obj), (((w.alloc o1).alloc o2).alloc o3).cell? ⟨b, o + 3, none⟩ = some (.int .i64 eat) := fun _ _ _ => (past _ _ _ _ hb').trans k4
  replace k5 : ∀ (o1 o2 o3 : Obj), (((w.alloc o1).alloc o2).alloc o3).cell? ⟨b, o + 4, none⟩ = some (.slice A4 ([] : List Term).length c4) := fun _ _ _ => (past _ _ _ _ hb').trans k5
  clear q1 q2 q3 q4 q5 past
  have hmk1 : ∀ W : World, (Instr.makeSlice 78 (.int .i64 1) (.int .i64 1)).run Try.prog W = .ok (.slice (some ⟨W.heap.size, 0, none⟩) 1 1) (W.alloc (.cells #[.slice none 0 0] 51)) := by
    obtain ⟨inf, hi0, hz0, hz1, hz2⟩ := info_parts info51
    intro W
    have := make_rowN (P := Try.prog) 78 51 inf (.slice none 0 0) Try.underlying78 hi0 hz0 .i64 .i64 1 1 (by decide) (by omega) (by decide) W
    rw [hz1] at this
    rw [madeOne' (z := (Value.slice none 0 0).cells) (x := .slice none 0 0) rfl] at this
    simpa using this
  have hmk2 : ∀ W : World, (Instr.makeSlice 51 (.int .i64 1) (.int .i64 1)).run Try.prog W = .ok (.slice (some ⟨W.heap.size, 0, none⟩) 1 1) (W.alloc (.cells #[.int .i64 0] 3)) := by
    obtain ⟨inf, hi0, hz0, hz1, hz2⟩ := info_parts info3
    intro W
    have := make_rowN (P := Try.prog) 51 3 inf (.int .i64 0) Try.underlying51 hi0 hz0 .i64 .i64 1 1 (by decide) (by omega) (by decide) W
    rw [hz1] at this
    rw [madeOne' (z := (Value.int .i64 0).cells) (x := .int .i64 0) rfl] at this
    simpa using this
  go_enter Try.func33, Try.ntmps33
  go_wp2_with fail
  refine wp_loop_rounds 2 ?_
  rw [rounds_succ]
  go_wp2_with fail
  rw [rounds_succ]
  go_wp2_with fail
  refine wp_loop_rounds 2 ?_
  rw [rounds_succ]
  go_wp2_with (at_builtin; refine Hid.out ?_)
  refine hid ?_
  obtain ⟨inf, hi0, hz0, hz1, hz2⟩ := info_parts info3
  refine wpList_append_own _ rfl _ _ 51 rfl (w.heap.size + 3) 3 inf (.int .i64 0) 1 8 Try.underlying51 hi0 hz0 hz1 hz2 rfl (by decide) _ _ _ rfl (World.ownsRow_nil _ _ _ _) ⟨w.heap.size + 4, 0, none⟩ 1 1 [.int .i64 0] rfl rfl
    (news_at (cs := #[_]) (by simp)) (ints_oneCell .i64 [0]) (by decide) (by decide) (by simp) ?_
  intro v' w5 hown hg hn
  have hB5 := below_grown (B := w.heap.size + 3) (World.ownsRow_nil _ _ 3 1) hg (Nat.le_refl _) (by simp)
  have f1 := (hB5.cell (p := ⟨w.heap.size, 2, none⟩) (by simp)).trans (show _ = some (.int .i64 1) by go_simp)
  have f2 := (hB5.cell (p := ⟨w.heap.size + 1, 0, none⟩) (by simp)).trans (show _ = some (.slice none 0 0) by go_simp)
  obtain ⟨g', cap, rfl⟩ := own_form hown (by decide)
  have f3 : w5.cell? ⟨g', 0, none⟩ = some (.int .i64 0) := by simpa [Addr.add] using hown.cells (g := g') rfl 0 (.int .i64 0) rfl
  have hcap : 1 ≤ cap := by
    obtain ⟨A, c, h1, h2, _⟩ := list_form (intsR (zs := [0]) ⟨by simpa using hown, by simp; decide⟩)
    simp at h1
    obtain ⟨_, rfl⟩ := h1
    exact h2
  have hBw : Below w.heap.size w w5 := ((((((Below.refl w.heap.size w).alloc (Nat.le_refl _) _).alloc (by simp) _).alloc (by simp; omega) _).alloc (by simp; omega) _).alloc (by simp; omega) _).trans (low hB5 (by omega))
  clear hB5 hown hg hn
  go_wp2_with fail
  rw [rounds_succ]
  go_wp2_with fail
  refine wp_loop_rounds 2 ?_
  rw [rounds_succ]
  go_wp2_with fail
  all_goals
    refine wp_loop_rounds 1 ?_
    rw [rounds_succ]
    go_wp2_with fail
    rw [rounds_succ]
    go_wp2_with fail
    go_ret
    exact ⟨rfl, hBw⟩

def oneD (gs : List (List Span)) : Desc := ⟨1, 1, 1, 0, [⟨0, 0, gs, 1, []⟩], []⟩
set_option maxHeartbeats 1000000 in
set_option maxRecDepth 100000 in
theorem Where_one (gs : List (List Span)) (v u : Value) (w : World) (hv : (listR ruleR).rel w (upto w.heap.size) [v] [⟨0, 0, gs, 1, []⟩]) (hu : (listR finalR).rel w (upto w.heap.size) [u] []) (hgs : guardsF 1 gs = true) (hg : gs ≠ []) :
    Calls Try.prog 21 #[.agg #[.int .i64 1, .int .i64 1, .int .i64 1, .int .i64 0, v, u]] w fun e w' => e = .returned (.tuple #[.int .i64 0, .int .i64 0]) ∧ Below w.heap.size w w' := by
  obtain ⟨A1, c1, rfl, hc1, hm1⟩ := list_form hv
  obtain ⟨A2, c2, rfl, hc2, hm2⟩ := list_form hu
  have hgl : 1 ≤ gs.length := by cases gs with | nil => exact absurd rfl hg | cons => simp
  have hh := hid fun W (hW : Below w.heap.size w W) => head_true (oneD gs) _ _ W ((listR ruleR).below hv hW hW.size) ((listR finalR).below hu hW hW.size) (show 0 < (domF 1).length by decide) (show 0 < (domF 1).length by decide) (show (1 : Int) ≤ 1 by decide) (show (1 : Int) ≤ 1024 by decide) (show stateF 1 0 = true by decide) (by simp [oneD]) (by simp [oneD])
  have hcy := hid fun W (hW : Below w.heap.size w W) => cycle_one gs 1 1 0 0 0 1 _ _ W ((listR ruleR).below hv hW hW.size) ((listR finalR).below hu hW hW.size) hg
  obtain ⟨b, o, y, z, rfl, hb, q1, q2, q3, q4, q5, q6, hy, hz⟩ := rule_at (i := 0) hv rfl
  dsimp only at q1 q2 q3 q4 q5 hy hz
  obtain ⟨A3, c3, rfl, _, _⟩ := list_form hy
  obtain ⟨A4, c4, rfl, _, _⟩ := list_form hz
  have hru := hid fun W (hW : Below w.heap.size w W) => rule_true (oneD gs) ⟨0, 0, gs, 1, []⟩ _ _ _ _ W ((listR ruleR).below hv hW hW.size) ((listR finalR).below hu hW hW.size) ((listR spansR).below hy hW hW.size) ((listR termR).below hz hW hW.size) (show stateF 1 0 = true by decide) (show stateF 1 0 = true by decide) hgs (show (1 : Int) ≤ 1 by decide) (show (1 : Int) ≤ (gs.length : Int) by omega)
  have hb' : b < w.heap.size := hb
  have k1 : w.cell? ⟨b, o, none⟩ = some (.int .i64 0) := by simpa using q1
  have k2 : w.cell? ⟨b, o + 1, none⟩ = some (.int .i64 0) := by simpa using q2
  have k3 : w.cell? ⟨b, o + 2, none⟩ = some (.slice A3 gs.length c3) := by simpa using q3
  have k4 : w.cell? ⟨b, o + 3, none⟩ = some (.int .i64 1) := by simpa using q4
  have k5 : w.cell? ⟨b, o + 4, none⟩ = some (.slice A4 ([] : List Term).length c4) := by simpa using q5
  have hB0 : ∀ O W, Below (w.heap.size + 1) (w.alloc O) W → Below w.heap.size w W := fun O W h => ((Below.refl _ _).alloc (Nat.le_refl _) _).trans (low h (by omega))
  clear hv hu q1 q2 q3 q4 q5 q6 hy hz hgs hg
  go_enter Try.func21, Try.ntmps21
  go_wp2_with fail
  refine (hh.out _ ((Below.refl _ _).alloc (Nat.le_refl _) _)).mono ?_
  rintro e w1 ⟨rfl, hB⟩
  have hB1 : Below (w.heap.size + 1) (w.alloc (.cells #[.int .i64 1, .int .i64 1, .int .i64 1, .int .i64 0, .slice (some ⟨b, o, none⟩) 1 c1, .slice A2 0 c2] 26)) w1 := low hB (by simp)
  obtain ⟨p0, p1, p2, p3, p4, p5⟩ := box6 hB1
  have hz1 := hB1.size
  simp at hz1
  have hBw := hB0 _ _ hB1
  replace k1 := (hBw.cell (p := ⟨b, o, none⟩) hb').trans k1
  replace k2 := (hBw.cell (p := ⟨b, o + 1, none⟩) hb').trans k2
  replace k3 := (hBw.cell (p := ⟨b, o + 2, none⟩) hb').trans k3
  replace k4 := (hBw.cell (p := ⟨b, o + 3, none⟩) hb').trans k4
  replace k5 := (hBw.cell (p := ⟨b, o + 4, none⟩) hb').trans k5
  go_wp2_with fail
  refine wp_loop_rounds 2 ?_
  rw [rounds_succ]
  have P := fun O => box6 (hB1.alloc hz1 O)
  have r0 := fun O => (P O).1
  have r1 := fun O => (P O).2.1
  have r2 := fun O => (P O).2.2.1
  have r3 := fun O => (P O).2.2.2.1
  have r4 := fun O => (P O).2.2.2.2.1
  have r5 := fun O => (P O).2.2.2.2.2
  clear P
  go_wp2_with fail
  refine (hru.out _ (hBw.alloc hBw.size _)).mono ?_
  rintro e w2 ⟨rfl, hB⟩
  have hB2 : Below (w.heap.size + 1) (w.alloc (.cells #[.int .i64 1, .int .i64 1, .int .i64 1, .int .i64 0, .slice (some ⟨b, o, none⟩) 1 c1, .slice A2 0 c2] 26)) w2 := (hB1.alloc hz1 _).trans (low hB (by simp; omega))
  clear p0 p1 p2 p3 p4 p5 r0 r1 r2 r3 r4 r5
  obtain ⟨p0, p1, p2, p3, p4, p5⟩ := box6 hB2
  have hz2 := hB2.size
  simp at hz2
  go_wp2_with fail
  rw [rounds_succ]
  go_wp2_with fail
  refine wp_loop_rounds 1 ?_
  rw [rounds_succ]
  go_wp2_with fail
  refine (hcy.out _ (hB0 _ _ hB2)).mono ?_
  rintro e w3 ⟨rfl, hB⟩
  have hB3 := hB2.trans (low hB hz2)
  go_wp2_with fail
  go_ret2
  exact ⟨rfl, hB0 _ _ hB3⟩

set_option maxHeartbeats 1000000 in
theorem Check_one (gs : List (List Span)) (v u : Value) (w : World) (hv : (listR ruleR).rel w (upto w.heap.size) [v] [⟨0, 0, gs, 1, []⟩]) (hu : (listR finalR).rel w (upto w.heap.size) [u] []) (hgs : guardsF 1 gs = true) (hg : gs ≠ []) :
    Calls Try.prog 16 #[.agg #[.int .i64 1, .int .i64 1, .int .i64 1, .int .i64 0, v, u]] w fun e w' => e = .returned (.int .i64 0) ∧ Below w.heap.size w w' := by
  have hw := hid fun W (hW : Below w.heap.size w W) => Where_one gs v u W ((listR ruleR).below hv hW hW.size) ((listR finalR).below hu hW hW.size) hgs hg
  obtain ⟨A1, c1, rfl, hc1, hm1⟩ := list_form hv
  obtain ⟨A2, c2, rfl, hc2, hm2⟩ := list_form hu
  clear hv hu hgs hg
  go_enter Try.func16, Try.ntmps16
  go_wp2_with fail
  refine (hw.out _ ((Below.refl _ _).alloc (Nat.le_refl _) _)).mono ?_
  rintro e w1 ⟨rfl, hB⟩
  have hBw := ((Below.refl w.heap.size w).alloc (Nat.le_refl _) _).trans (low hB (by simp))
  go_wp2_with fail
  go_ret
  exact ⟨rfl, hBw⟩

set_option maxHeartbeats 1000000 in
theorem Sole_one (gs : List (List Span)) (v u : Value) (w : World) (hv : (listR ruleR).rel w (upto w.heap.size) [v] [⟨0, 0, gs, 1, []⟩]) (hu : (listR finalR).rel w (upto w.heap.size) [u] []) (hgs : guardsF 1 gs = true) (hg : gs ≠ []) (hgl : ∀ g ∈ gs, g.length ≤ 1073741824) :
    Calls Try.prog 9 #[.agg #[.int .i64 1, .int .i64 1, .int .i64 1, .int .i64 0, v, u]] w fun e w' => e = .returned (.tuple #[.bool true, .int .i64 0]) ∧ Below w.heap.size w w' := by
  have hw := hid fun W (hW : Below w.heap.size w W) => Check_one gs v u W ((listR ruleR).below hv hW hW.size) ((listR finalR).below hu hW hW.size) hgs hg
  have hcl := hid fun W (hW : Below w.heap.size w W) => Clash_calls (oneD gs) v u W ((listR ruleR).below hv hW hW.size) ((listR finalR).below hu hW hW.size) 1 1 1 0 (by simp [oneD]) (by simp [oneD]) (by simpa [oneD, optsD, ruleOpt] using hgl)
  have hres : clashS (optsD (oneD gs)) = .tuple #[.int .i64 0, .int .i64 0, .bool false] := by
    simp [clashS, optsD, oneD, ruleOpt, outerS, idxO, innerS, pairF]
  rw [hres] at hcl
  obtain ⟨A1, c1, rfl, hc1, hm1⟩ := list_form hv
  obtain ⟨A2, c2, rfl, hc2, hm2⟩ := list_form hu
  clear hv hu hgs hg hres hgl
  go_enter Try.func9, Try.ntmps9
  go_wp2_with fail
  refine (hw.out _ ((Below.refl _ _).alloc (Nat.le_refl _) _)).mono ?_
  rintro e w1 ⟨rfl, hB⟩
  have hB1 : Below (w.heap.size + 1) (w.alloc (.cells #[.int .i64 1, .int .i64 1, .int .i64 1, .int .i64 0, .slice A1 1 c1, .slice A2 0 c2] 26)) w1 := low hB (by simp)
  obtain ⟨p0, p1, p2, p3, p4, p5⟩ := box6 hB1
  have hBw := ((Below.refl w.heap.size w).alloc (Nat.le_refl _) _).trans (low hB1 (by omega))
  go_wp2_with fail
  refine (hcl.out _ hBw).mono ?_
  rintro e w2 ⟨rfl, hB⟩
  go_wp2_with fail
  go_ret2
  exact ⟨rfl, hBw.trans (low hB hBw.size)⟩
end Go.Proofs.Ytflllgbjlfpgcaa
