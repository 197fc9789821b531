/-
  What is joined of what writes what it reads, twice: desc.Join.
-/
import Derived.Test.YtmkmikacfilbpaaKWhere
import Derived.Test.YtmkmikacfilbpaaMkK
namespace Go.Proofs.Ytmkmikacfilbpaa
open Go.RowKit Go.Um Go.Proofs
theorem where_no {s : Int} (h1 : s ≠ 1) (h2 : s ≠ 2) : ¬ (whereF (sameD s)).1 = 0 := by
  have : headF (sameD s) = false := by
    unfold headF sameD sortF
    rw [decide_eq_false (by dsimp only; omega)]
    rfl
  unfold whereF
  rw [this]
  simp
theorem where_yes {s : Int} (h : s = 1 ∨ s = 2) : (whereF (sameD s)).1 = 0 := by rcases h with rfl | rfl <;> decide +kernel
section
variable {s : Int} {v u : Value} {w : World}
theorem check_no (h1 : s ≠ 1) (h2 : s ≠ 2) (hv : (listR ruleR).rel w (upto w.heap.size) [v] (sameD s).rules) (hu : (listR finalR).rel w (upto w.heap.size) [u] (sameD s).finals) :
    Calls Try.prog 11 #[.agg #[.int .i64 s, .int .i64 s, .int .i64 1, .int .i64 0, v, u]] w fun e w' => e = .returned (.int .i64 2) ∧ Below w.heap.size w w' := by
  have h := Check_calls (sameD s) v u w hv hu
  rw [if_neg (where_no h1 h2)] at h
  exact h
theorem check_yes (h : s = 1 ∨ s = 2) (hv : (listR ruleR).rel w (upto w.heap.size) [v] (sameD s).rules) (hu : (listR finalR).rel w (upto w.heap.size) [u] (sameD s).finals) :
    Calls Try.prog 11 #[.agg #[.int .i64 s, .int .i64 s, .int .i64 1, .int .i64 0, v, u]] w fun e w' => e = .returned (.int .i64 0) ∧ Below w.heap.size w w' := by
  have h' := Check_calls (sameD s) v u w hv hu
  rw [if_pos (where_yes h)] at h'
  exact h'
end
set_option maxHeartbeats 2000000 in
set_option maxRecDepth 100000 in
theorem Join_no {s : Int} {v1 u1 v2 u2 : Value} (w : World) (h1 : s ≠ 1) (h2 : s ≠ 2) (hv1 : (listR ruleR).rel w (upto w.heap.size) [v1] (sameD s).rules) (hu1 : (listR finalR).rel w (upto w.heap.size) [u1] (sameD s).finals)
    (hv2 : (listR ruleR).rel w (upto w.heap.size) [v2] (sameD s).rules) (hu2 : (listR finalR).rel w (upto w.heap.size) [u2] (sameD s).finals) :
    Calls Try.prog 9 #[.agg #[.int .i64 s, .int .i64 s, .int .i64 1, .int .i64 0, v1, u1], .agg #[.int .i64 s, .int .i64 s, .int .i64 1, .int .i64 0, v2, u2]] w fun e w' =>
      e = .returned (.tuple #[.agg #[.int .i64 0, .int .i64 0, .int .i64 0, .int .i64 0, .slice none 0 0, .slice none 0 0], .int .i64 2]) ∧ Below w.heap.size w w' := by
  have HC := hid fun W (hW : Below w.heap.size w W) => check_no (w := W) (v := v1) (u := u1) h1 h2 ((listR ruleR).below hv1 hW hW.size) ((listR finalR).below hu1 hW hW.size)
  obtain ⟨A1, c1, rfl⟩ : ∃ A c, v1 = .slice A 1 c := (list_form hv1).elim fun A h => h.elim fun c h => ⟨A, c, h.1⟩
  obtain ⟨A2, c2, rfl⟩ : ∃ A c, u1 = .slice A 1 c := (list_form hu1).elim fun A h => h.elim fun c h => ⟨A, c, h.1⟩
  obtain ⟨A3, c3, rfl⟩ : ∃ A c, v2 = .slice A 1 c := (list_form hv2).elim fun A h => h.elim fun c h => ⟨A, c, h.1⟩
  obtain ⟨A4, c4, rfl⟩ : ∃ A c, u2 = .slice A 1 c := (list_form hu2).elim fun A h => h.elim fun c h => ⟨A, c, h.1⟩
  obtain ⟨b1, o1, gv1, tv1, rfl, hb1, k10, k11, k12, k13, k14, _, hg1, ht1⟩ := rule_at hv1 (i := 0) (x := ⟨0, 0, [domF s], 1, [copyT 0 0]⟩) rfl
  obtain ⟨b3, o3, gv3, tv3, rfl, hb3, k30, k31, k32, k33, k34, _, hg3, ht3⟩ := rule_at hv2 (i := 0) (x := ⟨0, 0, [domF s], 1, [copyT 0 0]⟩) rfl
  obtain ⟨b2, o2, gv2, tv2, rfl, hb2, k20, k21, k22, _, hg2, ht2⟩ := final_at hu1 (i := 0) (x := ⟨0, [], []⟩) rfl
  obtain ⟨b4, o4, gv4, tv4, rfl, hb4, k40, k41, k42, _, hg4, ht4⟩ := final_at hu2 (i := 0) (x := ⟨0, [], []⟩) rfl
  simp only [Nat.zero_mul, Nat.add_zero] at k10 k11 k12 k13 k14 k20 k21 k22 k30 k31 k32 k33 k34 k40 k41 k42
  obtain ⟨Ag1, cg1, rfl⟩ : ∃ A c, gv1 = .slice A 1 c := (list_form hg1).elim fun A h => h.elim fun c h => ⟨A, c, h.1⟩
  obtain ⟨At1, ct1, rfl⟩ : ∃ A c, tv1 = .slice A 1 c := (list_form ht1).elim fun A h => h.elim fun c h => ⟨A, c, h.1⟩
  obtain ⟨Ag2, cg2, rfl⟩ : ∃ A c, gv2 = .slice A 0 c := (list_form hg2).elim fun A h => h.elim fun c h => ⟨A, c, h.1⟩
  obtain ⟨At2, ct2, rfl⟩ : ∃ A c, tv2 = .slice A 0 c := (list_form ht2).elim fun A h => h.elim fun c h => ⟨A, c, h.1⟩
  obtain ⟨Ag3, cg3, rfl⟩ : ∃ A c, gv3 = .slice A 1 c := (list_form hg3).elim fun A h => h.elim fun c h => ⟨A, c, h.1⟩
  obtain ⟨At3, ct3, rfl⟩ : ∃ A c, tv3 = .slice A 1 c := (list_form ht3).elim fun A h => h.elim fun c h => ⟨A, c, h.1⟩
  obtain ⟨Ag4, cg4, rfl⟩ : ∃ A c, gv4 = .slice A 0 c := (list_form hg4).elim fun A h => h.elim fun c h => ⟨A, c, h.1⟩
  obtain ⟨At4, ct4, rfl⟩ : ∃ A c, tv4 = .slice A 0 c := (list_form ht4).elim fun A h => h.elim fun c h => ⟨A, c, h.1⟩
  have K1 := hid (And.intro hb1 (And.intro hg1 ht1))
  have Q1 := hid (And.intro k10 (And.intro k11 (And.intro k12 (And.intro k13 k14))))
  clear hb1 hg1 ht1 k10 k11 k12 k13 k14
  have K3 := hid (And.intro hb3 (And.intro hg3 ht3))
  have Q3 := hid (And.intro k30 (And.intro k31 (And.intro k32 (And.intro k33 k34))))
  clear hb3 hg3 ht3 k30 k31 k32 k33 k34
  have K2 := hid (And.intro hb2 (And.intro hg2 ht2))
  have Q2 := hid (And.intro k20 (And.intro k21 k22))
  clear hb2 hg2 ht2 k20 k21 k22
  have K4 := hid (And.intro hb4 (And.intro hg4 ht4))
  have Q4 := hid (And.intro k40 (And.intro k41 k42))
  clear hb4 hg4 ht4 k40 k41 k42
  obtain ⟨w0, hw0⟩ : ∃ w0, w0 = (((w.alloc (.cells #[.int .i64 s, .int .i64 s, .int .i64 1, .int .i64 0, .slice (some ⟨b1, o1, none⟩) 1 c1, .slice (some ⟨b2, o2, none⟩) 1 c2] 29)).alloc (.cells #[.int .i64 s, .int .i64 s, .int .i64 1, .int .i64 0, .slice (some ⟨b3, o3, none⟩) 1 c3, .slice (some ⟨b4, o4, none⟩) 1 c4] 29)).alloc (.cells #[.int .i64 0, .int .i64 0, .int .i64 0, .int .i64 0, .slice none 0 0, .slice none 0 0] 29)) := ⟨_, rfl⟩
  have hA0 : w0.heap[w.heap.size]? = some (.cells #[.int .i64 s, .int .i64 s, .int .i64 1, .int .i64 0, .slice (some ⟨b1, o1, none⟩) 1 c1, .slice (some ⟨b2, o2, none⟩) 1 c2] 29) := by
    rw [hw0, Below.heap_alloc _ _ _ (by simp; omega), Below.heap_alloc _ _ _ (by simp)]; exact heap_alloc_new _ _
  have hB0 : w0.heap[w.heap.size + 1]? = some (.cells #[.int .i64 s, .int .i64 s, .int .i64 1, .int .i64 0, .slice (some ⟨b3, o3, none⟩) 1 c3, .slice (some ⟨b4, o4, none⟩) 1 c4] 29) := by
    rw [hw0, Below.heap_alloc _ _ _ (by simp)]
    have := heap_alloc_new (w.alloc (.cells #[.int .i64 s, .int .i64 s, .int .i64 1, .int .i64 0, .slice (some ⟨b1, o1, none⟩) 1 c1, .slice (some ⟨b2, o2, none⟩) 1 c2] 29)) (.cells #[.int .i64 s, .int .i64 s, .int .i64 1, .int .i64 0, .slice (some ⟨b3, o3, none⟩) 1 c3, .slice (some ⟨b4, o4, none⟩) 1 c4] 29)
    simpa using this
  have hZ0 : w0.heap[w.heap.size + 1 + 1]? = some (.cells #[.int .i64 0, .int .i64 0, .int .i64 0, .int .i64 0, .slice none 0 0, .slice none 0 0] 29) := by
    rw [hw0]
    have := heap_alloc_new ((w.alloc (.cells #[.int .i64 s, .int .i64 s, .int .i64 1, .int .i64 0, .slice (some ⟨b1, o1, none⟩) 1 c1, .slice (some ⟨b2, o2, none⟩) 1 c2] 29)).alloc (.cells #[.int .i64 s, .int .i64 s, .int .i64 1, .int .i64 0, .slice (some ⟨b3, o3, none⟩) 1 c3, .slice (some ⟨b4, o4, none⟩) 1 c4] 29)) (.cells #[.int .i64 0, .int .i64 0, .int .i64 0, .int .i64 0, .slice none 0 0, .slice none 0 0] 29)
    simpa using this
  have hW0 : Below w.heap.size w w0 := by
    rw [hw0]; exact (((Below.refl _ w).alloc (Nat.le_refl _) _).alloc (by simp) _).alloc (by simp; omega) _
  have hs0 : w0.heap.size = w.heap.size + 3 := by rw [hw0]; simp
  clear hv1 hu1 hv2 hu2 h1 h2
  go_enter Try.func9, Try.ntmps9
  go_wp2_with fail
  rw [← hw0]
  clear hw0
  refine (HC.out w0 hW0).mono ?_
  rintro e w1 ⟨rfl, hx1⟩
  have hs1 := hx1.size
  have hA1 := (hx1.block w.heap.size (by omega)).trans hA0
  have hB1 := (hx1.block (w.heap.size + 1) (by omega)).trans hB0
  have hZ1 := (hx1.block (w.heap.size + 1 + 1) (by omega)).trans hZ0
  have hW1 := hW0.trans (hx1.mono (by omega))
  obtain ⟨z0, z1, z2, z3, z4, z5⟩ := six9 hZ1
  obtain ⟨f0, f1, f2, f3, f4, f5⟩ := fro6 hZ1
  have hZl := heapLtM hZ1
  have HZ := hid hZ1
  have HW := hid hW1
  clear hA0 hA1 hB0 hB1 hZ0 hZ1 hW0 hW1 hx1 HC
  go_wp2_with fail
  obtain ⟨ws, hws⟩ : ∃ ws, ws = setS w1 (w.heap.size + 1 + 1) (.int .i64 0) (.int .i64 0) (.int .i64 0) (.int .i64 0) (.slice none 0 0) (.slice none 0 0) := ⟨_, rfl⟩
  have hXs := setS_heap HZ.out (.int .i64 0) (.int .i64 0) (.int .i64 0) (.int .i64 0) (.slice none 0 0) (.slice none 0 0)
  rw [← hws] at hXs
  have hBs : Below w.heap.size w ws := by rw [hws]; exact HW.out.set6 (by omega) _ _ _ _ _ _
  unfold setS at hws
  rw [← hws]
  clear hws
  obtain ⟨y0, y1, y2, y3, y4, y5⟩ := six9 hXs
  exact bodyPost_ret (v := .tuple #[.agg #[.int .i64 0, .int .i64 0, .int .i64 0, .int .i64 0, .slice none 0 0, .slice none 0 0], .int .i64 2]) (by simp [results, Try.results9, go_sem, y0, y1, y2, y3, y4, y5]) rfl ⟨rfl, hBs⟩
def JoinPost (s : Int) (w : World) (e : Ending) (w' : World) : Prop := ∃ vr vf, e = .returned (.tuple #[.agg #[.int .i64 s, .int .i64 s, .int .i64 3, .int .i64 0, vr, vf], .int .i64 0]) ∧ (listR ruleR).rel w' (Fresh w.heap.size w') [vr] (joinSame s).rules ∧ (listR finalR).rel w' (Fresh w.heap.size w') [vf] (joinSame s).finals ∧ Below w.heap.size w w'
set_option maxHeartbeats 4000000 in
set_option maxRecDepth 100000 in
theorem Join_yes {s : Int} {v1 u1 v2 u2 : Value} (w : World) (h : s = 1 ∨ s = 2) (hv1 : (listR ruleR).rel w (upto w.heap.size) [v1] (sameD s).rules) (hu1 : (listR finalR).rel w (upto w.heap.size) [u1] (sameD s).finals)
    (hv2 : (listR ruleR).rel w (upto w.heap.size) [v2] (sameD s).rules) (hu2 : (listR finalR).rel w (upto w.heap.size) [u2] (sameD s).finals) :
    Calls Try.prog 9 #[.agg #[.int .i64 s, .int .i64 s, .int .i64 1, .int .i64 0, v1, u1], .agg #[.int .i64 s, .int .i64 s, .int .i64 1, .int .i64 0, v2, u2]] w fun e w' => JoinPost s w e w' := by
  have HC1 := hid fun W (hW : Below w.heap.size w W) => check_yes (w := W) (v := v1) (u := u1) h ((listR ruleR).below hv1 hW hW.size) ((listR finalR).below hu1 hW hW.size)
  have HC2 := hid fun W (hW : Below w.heap.size w W) => check_yes (w := W) (v := v2) (u := u2) h ((listR ruleR).below hv2 hW hW.size) ((listR finalR).below hu2 hW hW.size)
  obtain ⟨A1, c1, rfl⟩ : ∃ A c, v1 = .slice A 1 c := (list_form hv1).elim fun A h => h.elim fun c h => ⟨A, c, h.1⟩
  obtain ⟨A2, c2, rfl⟩ : ∃ A c, u1 = .slice A 1 c := (list_form hu1).elim fun A h => h.elim fun c h => ⟨A, c, h.1⟩
  obtain ⟨A3, c3, rfl⟩ : ∃ A c, v2 = .slice A 1 c := (list_form hv2).elim fun A h => h.elim fun c h => ⟨A, c, h.1⟩
  obtain ⟨A4, c4, rfl⟩ : ∃ A c, u2 = .slice A 1 c := (list_form hu2).elim fun A h => h.elim fun c h => ⟨A, c, h.1⟩
  obtain ⟨b1, o1, gv1, tv1, rfl, hb1, k10, k11, k12, k13, k14, _, hg1, ht1⟩ := rule_at hv1 (i := 0) (x := ⟨0, 0, [domF s], 1, [copyT 0 0]⟩) rfl
  obtain ⟨b3, o3, gv3, tv3, rfl, hb3, k30, k31, k32, k33, k34, _, hg3, ht3⟩ := rule_at hv2 (i := 0) (x := ⟨0, 0, [domF s], 1, [copyT 0 0]⟩) rfl
  obtain ⟨b2, o2, gv2, tv2, rfl, hb2, k20, k21, k22, _, hg2, ht2⟩ := final_at hu1 (i := 0) (x := ⟨0, [], []⟩) rfl
  obtain ⟨b4, o4, gv4, tv4, rfl, hb4, k40, k41, k42, _, hg4, ht4⟩ := final_at hu2 (i := 0) (x := ⟨0, [], []⟩) rfl
  simp only [Nat.zero_mul, Nat.add_zero] at k10 k11 k12 k13 k14 k20 k21 k22 k30 k31 k32 k33 k34 k40 k41 k42
  obtain ⟨Ag1, cg1, rfl⟩ : ∃ A c, gv1 = .slice A 1 c := (list_form hg1).elim fun A h => h.elim fun c h => ⟨A, c, h.1⟩
  obtain ⟨At1, ct1, rfl⟩ : ∃ A c, tv1 = .slice A 1 c := (list_form ht1).elim fun A h => h.elim fun c h => ⟨A, c, h.1⟩
  obtain ⟨Ag2, cg2, rfl⟩ : ∃ A c, gv2 = .slice A 0 c := (list_form hg2).elim fun A h => h.elim fun c h => ⟨A, c, h.1⟩
  obtain ⟨At2, ct2, rfl⟩ : ∃ A c, tv2 = .slice A 0 c := (list_form ht2).elim fun A h => h.elim fun c h => ⟨A, c, h.1⟩
  obtain ⟨Ag3, cg3, rfl⟩ : ∃ A c, gv3 = .slice A 1 c := (list_form hg3).elim fun A h => h.elim fun c h => ⟨A, c, h.1⟩
  obtain ⟨At3, ct3, rfl⟩ : ∃ A c, tv3 = .slice A 1 c := (list_form ht3).elim fun A h => h.elim fun c h => ⟨A, c, h.1⟩
  obtain ⟨Ag4, cg4, rfl⟩ : ∃ A c, gv4 = .slice A 0 c := (list_form hg4).elim fun A h => h.elim fun c h => ⟨A, c, h.1⟩
  obtain ⟨At4, ct4, rfl⟩ : ∃ A c, tv4 = .slice A 0 c := (list_form ht4).elim fun A h => h.elim fun c h => ⟨A, c, h.1⟩
  have K1 := hid (And.intro hb1 (And.intro hg1 ht1))
  have Q1 := hid (And.intro k10 (And.intro k11 (And.intro k12 (And.intro k13 k14))))
  clear hb1 hg1 ht1 k10 k11 k12 k13 k14
  have K3 := hid (And.intro hb3 (And.intro hg3 ht3))
  have Q3 := hid (And.intro k30 (And.intro k31 (And.intro k32 (And.intro k33 k34))))
  clear hb3 hg3 ht3 k30 k31 k32 k33 k34
  have K2 := hid (And.intro hb2 (And.intro hg2 ht2))
  have Q2 := hid (And.intro k20 (And.intro k21 k22))
  clear hb2 hg2 ht2 k20 k21 k22
  have K4 := hid (And.intro hb4 (And.intro hg4 ht4))
  have Q4 := hid (And.intro k40 (And.intro k41 k42))
  clear hb4 hg4 ht4 k40 k41 k42
  obtain ⟨w0, hw0⟩ : ∃ w0, w0 = (((w.alloc (.cells #[.int .i64 s, .int .i64 s, .int .i64 1, .int .i64 0, .slice (some ⟨b1, o1, none⟩) 1 c1, .slice (some ⟨b2, o2, none⟩) 1 c2] 29)).alloc (.cells #[.int .i64 s, .int .i64 s, .int .i64 1, .int .i64 0, .slice (some ⟨b3, o3, none⟩) 1 c3, .slice (some ⟨b4, o4, none⟩) 1 c4] 29)).alloc (.cells #[.int .i64 0, .int .i64 0, .int .i64 0, .int .i64 0, .slice none 0 0, .slice none 0 0] 29)) := ⟨_, rfl⟩
  have hA0 : w0.heap[w.heap.size]? = some (.cells #[.int .i64 s, .int .i64 s, .int .i64 1, .int .i64 0, .slice (some ⟨b1, o1, none⟩) 1 c1, .slice (some ⟨b2, o2, none⟩) 1 c2] 29) := by
    rw [hw0, Below.heap_alloc _ _ _ (by simp; omega), Below.heap_alloc _ _ _ (by simp)]; exact heap_alloc_new _ _
  have hB0 : w0.heap[w.heap.size + 1]? = some (.cells #[.int .i64 s, .int .i64 s, .int .i64 1, .int .i64 0, .slice (some ⟨b3, o3, none⟩) 1 c3, .slice (some ⟨b4, o4, none⟩) 1 c4] 29) := by
    rw [hw0, Below.heap_alloc _ _ _ (by simp)]
    have := heap_alloc_new (w.alloc (.cells #[.int .i64 s, .int .i64 s, .int .i64 1, .int .i64 0, .slice (some ⟨b1, o1, none⟩) 1 c1, .slice (some ⟨b2, o2, none⟩) 1 c2] 29)) (.cells #[.int .i64 s, .int .i64 s, .int .i64 1, .int .i64 0, .slice (some ⟨b3, o3, none⟩) 1 c3, .slice (some ⟨b4, o4, none⟩) 1 c4] 29)
    simpa using this
  have hZ0 : w0.heap[w.heap.size + 1 + 1]? = some (.cells #[.int .i64 0, .int .i64 0, .int .i64 0, .int .i64 0, .slice none 0 0, .slice none 0 0] 29) := by
    rw [hw0]
    have := heap_alloc_new ((w.alloc (.cells #[.int .i64 s, .int .i64 s, .int .i64 1, .int .i64 0, .slice (some ⟨b1, o1, none⟩) 1 c1, .slice (some ⟨b2, o2, none⟩) 1 c2] 29)).alloc (.cells #[.int .i64 s, .int .i64 s, .int .i64 1, .int .i64 0, .slice (some ⟨b3, o3, none⟩) 1 c3, .slice (some ⟨b4, o4, none⟩) 1 c4] 29)) (.cells #[.int .i64 0, .int .i64 0, .int .i64 0, .int .i64 0, .slice none 0 0, .slice none 0 0] 29)
    simpa using this
  have hW0 : Below w.heap.size w w0 := by
    rw [hw0]; exact (((Below.refl _ w).alloc (Nat.le_refl _) _).alloc (by simp) _).alloc (by simp; omega) _
  have hs0 : w0.heap.size = w.heap.size + 3 := by rw [hw0]; simp
  go_enter Try.func9, Try.ntmps9
  go_wp2_with fail
  rw [← hw0]
  clear hw0
  refine (HC1.out w0 hW0).mono ?_
  rintro e w1 ⟨rfl, hx1⟩
  have hs1 := hx1.size
  have hA1 := (hx1.block w.heap.size (by omega)).trans hA0
  have hB1 := (hx1.block (w.heap.size + 1) (by omega)).trans hB0
  have hZ1 := (hx1.block (w.heap.size + 1 + 1) (by omega)).trans hZ0
  have hW1 := hW0.trans (hx1.mono (by omega))
  obtain ⟨y0, y1, y2, y3, y4, y5⟩ := six9 hB1
  clear hA0 hB0 hZ0 hW0 hx1 HC1
  have hl1 := heapLtM hB1
  go_wp2_with fail
  refine (HC2.out w1 hW1).mono ?_
  rintro e w2 ⟨rfl, hx2⟩
  have hs2 := hx2.size
  clear y0 y1 y2 y3 y4 y5 hl1 HC2
  have hA2 := (hx2.block w.heap.size (by omega)).trans hA1
  have hB2 := (hx2.block (w.heap.size + 1) (by omega)).trans hB1
  have hZ2 := (hx2.block (w.heap.size + 1 + 1) (by omega)).trans hZ1
  have hW2 := hW1.trans (hx2.mono (by omega))
  obtain ⟨x0, x1, x2, x3, x4, x5⟩ := six9 hA2
  obtain ⟨y0, y1, y2, y3, y4, y5⟩ := six9 hB2
  have HA2 := hid hA2
  have HB2 := hid hB2
  have HZ2 := hid hZ2
  have HW2 := hid hW2
  have HV1 := hid hv1
  have HU1 := hid hu1
  have HV2 := hid hv2
  have HU2 := hid hu2
  have hl1 : w.heap.size < w2.heap.size := by omega
  have hl2 : w.heap.size + 1 < w2.heap.size := by omega
  have hl3 : w.heap.size + 1 < w2.heap.size + 1 := by omega
  have hl4 : w.heap.size < w2.heap.size + 1 := by omega
  have hcA := cellA
  have hfA := froA
  clear hA1 hB1 hZ1 hW1 hx2 hA2 hB2 hZ2 hW2 hv1 hu1 hv2 hu2
  go_wp2_with fail
  obtain ⟨wr, hwr⟩ : ∃ wr, wr = ((w2.alloc (.cells #[.int .i64 s, .int .i64 s, .int .i64 3, .int .i64 0, .slice (some ⟨w2.heap.size + 1, 0, none⟩) 2 2, .slice none 0 0] 29)).alloc (.cells #[.int .i64 0, .int .i64 1, .slice none 0 0, .int .i64 0, .slice none 0 0, .int .i64 0, .int .i64 2, .slice none 0 0, .int .i64 0, .slice none 0 0] 50)) := ⟨_, rfl⟩
  rw [← hwr]
  have hBr : Below w2.heap.size w2 wr := by rw [hwr]; exact ((Below.refl _ w2).alloc (Nat.le_refl _) _).alloc (by simp) _
  have hDr : wr.heap[w2.heap.size]? = some (dbox s s 3 0 (.slice (some ⟨w2.heap.size + 1, 0, none⟩) 2 2) (.slice none 0 0)) := by rw [hwr, Below.heap_alloc _ _ _ (by simp)]; exact heap_alloc_new w2 _
  have hsr : wr.heap.size = w2.heap.size + 1 + 1 := by rw [hwr]; simp
  have hFL0 : FL 50 ruleR wr (w2.heap.size + 2) (w2.heap.size + 1) (.slice (some ⟨w2.heap.size + 1, 0, none⟩) 2 2) [⟨0, 1, [], 0, []⟩, ⟨0, 2, [], 0, []⟩] := by
    have h9 := FL.lits (e := 50) (r := ruleR) (w := w2.alloc (.cells #[.int .i64 s, .int .i64 s, .int .i64 3, .int .i64 0, .slice (some ⟨w2.heap.size + 1, 0, none⟩) 2 2, .slice none 0 0] 29)) (b0 := w2.heap.size + 2) (base := w2.heap.size + 1) (xs := [⟨0, 1, [], 0, []⟩, ⟨0, 2, [], 0, []⟩]) (css := [[.int .i64 0, .int .i64 1, .slice none 0 0, .int .i64 0, .slice none 0 0], [.int .i64 0, .int .i64 2, .slice none 0 0, .int .i64 0, .slice none 0 0]]) (cells := #[.int .i64 0, .int .i64 1, .slice none 0 0, .int .i64 0, .slice none 0 0, .int .i64 0, .int .i64 2, .slice none 0 0, .int .i64 0, .slice none 0 0])
      ⟨⟨_, _, rfl, ⟨(okI (by omega) : I64 0), (okI (by omega) : I64 1), (okI (by omega) : I64 0)⟩, list_nil _ _ _, list_nil _ _ _⟩, ⟨_, _, rfl, ⟨(okI (by omega) : I64 0), (okI (by omega) : I64 2), (okI (by omega) : I64 0)⟩, list_nil _ _ _, list_nil _ _ _⟩, trivial⟩ rfl (by simp) (by simp [maxLen])
    rw [← hwr] at h9
    simpa using h9
  clear hwr
  obtain ⟨b0, hb0⟩ : ∃ b0, b0 = w.heap.size + 3 := ⟨_, rfl⟩
  have hb2w : b0 ≤ w2.heap.size := by omega
  have hRP : RepI b0 w2.heap.size s s 3 0 (fun q => q = w2.heap.size ∨ q = w2.heap.size + 1) wr (.slice (some ⟨w2.heap.size + 1, 0, none⟩) 2 2) (.slice none 0 0) [⟨0, 1, [], 0, []⟩, ⟨0, 2, [], 0, []⟩] [] := by
    refine ⟨hDr, ⟨OwnR.base' (OwnR.keep hFL0 (fun _ _ => rfl) (fun _ _ => rfl) (fun b hs => ⟨by have := hs.1; omega, hs.2.1, fun hx => by have := hs.1; omega⟩)) (by omega), fun q hq => .inr (by simp [Value.ownBlock] at hq; omega)⟩, FX.nil, fun q hq => by omega, .inl rfl⟩
  have HA := hid ((hBr.block w.heap.size hl1).trans HA2.out)
  have HZ := hid ((hBr.block (w.heap.size + 1 + 1) (by omega)).trans HZ2.out)
  have HBW := hid (HW2.out.trans (hBr.mono (Nat.le_of_lt hl1)))
  have HW3 : Hid (w.heap.size ≤ b0) := hid (by omega)
  have H3 := hid hb0
  have HRP := hid hRP
  have HBD := hid hb2w
  obtain ⟨bd, hbd⟩ : ∃ bd, w2.heap.size = bd := ⟨_, rfl⟩
  rw [hbd] at HRP HBD
  try rw [hbd]
  obtain ⟨vr, hvr⟩ : ∃ v, v = Value.slice (some ⟨bd + 1, 0, none⟩) 2 2 := ⟨_, rfl⟩
  rw [← hvr] at HRP
  obtain ⟨vn, hvn⟩ : ∃ v, v = Value.slice none 0 0 := ⟨_, rfl⟩
  rw [← hvn] at HRP
  obtain ⟨X, hX⟩ : ∃ X, X = (fun q => q = bd ∨ q = bd + 1) := ⟨_, rfl⟩
  rw [← hX] at HRP
  clear hX hvr hvn hbd hRP hb2w hb0 hFL0 hsr hDr hBr HA2 HB2 HZ2 HW2 hl1 hl2 hl3 hl4 x0 x1 x2 x3 x4 x5 y0 y1 y2 y3 y4 y5 hs0 hs1 hs2 HV1 HV2 HU1 HU2
  obtain ⟨infR, hr0, hrz0, hrz1, hrz2⟩ := info_parts infoRu
  obtain ⟨infF, hf0, hfz0, hfz1, hfz2⟩ := info_parts infoFn
  have HCo := hid fun gs v W h1 h2 h3 => copied_calls gs v W h1 h2 h3
  have HTe := hid fun ts v W h1 h2 h3 => terms_calls ts v W h1 h2 h3
  have HNE : Hid (∀ g ∈ [domF s], g ≠ [] ∧ g.length ≤ 1000000) := hid (by rcases h with rfl | rfl <;> decide)
  have HTN : Hid (∀ t ∈ [copyT 0 0], t.parts ≠ [] ∧ t.parts.length ≤ 1000000) := hid (by decide)
  clear h
  have ix0 : ∀ W, (Instr.index 64 (.agg #[.int .i64 s, .int .i64 s, .int .i64 1, .int .i64 0, .slice (some ⟨b1, o1, none⟩) 1 c1, .slice (some ⟨b2, o2, none⟩) 1 c2, .int .i64 s, .int .i64 s, .int .i64 1, .int .i64 0, .slice (some ⟨b3, o3, none⟩) 1 c3, .slice (some ⟨b4, o4, none⟩) 1 c4]) (.int .i64 0)).run Try.prog W = .ok ((.agg #[.int .i64 s, .int .i64 s, .int .i64 1, .int .i64 0, .slice (some ⟨b1, o1, none⟩) 1 c1, .slice (some ⟨b2, o2, none⟩) 1 c2])) W := fun _ => by kernel_rfl
  have ix1 : ∀ W, (Instr.index 64 (.agg #[.int .i64 s, .int .i64 s, .int .i64 1, .int .i64 0, .slice (some ⟨b1, o1, none⟩) 1 c1, .slice (some ⟨b2, o2, none⟩) 1 c2, .int .i64 s, .int .i64 s, .int .i64 1, .int .i64 0, .slice (some ⟨b3, o3, none⟩) 1 c3, .slice (some ⟨b4, o4, none⟩) 1 c4]) (.int .i64 1)).run Try.prog W = .ok ((.agg #[.int .i64 s, .int .i64 s, .int .i64 1, .int .i64 0, .slice (some ⟨b3, o3, none⟩) 1 c3, .slice (some ⟨b4, o4, none⟩) 1 c4])) W := fun _ => by kernel_rfl
  refine wp_loop_rounds 3 ?_
  have hbwr := HBW.out
  have hszr := hbwr.size
  obtain ⟨k0, k1, k2, k3, k4⟩ := Q1.out
  replace k0 := (hbwr.cell (p := ⟨b1, o1, none⟩) K1.out.1).trans k0
  replace k1 := (hbwr.cell (p := ⟨b1, o1 + 1, none⟩) K1.out.1).trans k1
  replace k2 := (hbwr.cell (p := ⟨b1, o1 + 2, none⟩) K1.out.1).trans k2
  replace k3 := (hbwr.cell (p := ⟨b1, o1 + 3, none⟩) K1.out.1).trans k3
  replace k4 := (hbwr.cell (p := ⟨b1, o1 + 4, none⟩) K1.out.1).trans k4
  have hbl : b1 < wr.heap.size := Nat.lt_of_lt_of_le K1.out.1 hszr
  obtain ⟨x0, x1, x2, x3, x4, x5⟩ := six9 HA.out
  have hxl := heapLtM HA.out
  clear hbwr
  rw [rounds_succ]
  go_wp2_with fail
  refine wp_loop_rounds 2 ?_
  rw [rounds_succ]
  go_wp2_with fail
  obtain ⟨wx, hwx⟩ : ∃ wx, wx = (wr.alloc (.cells #[.int .i64 s, .int .i64 s, .int .i64 1, .int .i64 0, .slice (some ⟨b1, o1, none⟩) 1 c1, .slice (some ⟨b2, o2, none⟩) 1 c2] 29)).alloc (.cells #[.int .i64 0, .int .i64 0, .slice Ag1 1 cg1, .int .i64 1, .slice At1 1 ct1] 50) := ⟨_, rfl⟩
  rw [← hwx]
  have hBx : Below wr.heap.size wr wx := by rw [hwx]; exact ((Below.refl _ wr).alloc (Nat.le_refl _) _).alloc (by simp) _
  have hXx : wx.heap[wr.heap.size]? = some (.cells #[.int .i64 s, .int .i64 s, .int .i64 1, .int .i64 0, .slice (some ⟨b1, o1, none⟩) 1 c1, .slice (some ⟨b2, o2, none⟩) 1 c2] 29) := by rw [hwx, Below.heap_alloc _ _ _ (by simp)]; exact heap_alloc_new wr _
  have hEB : wx.heap[wr.heap.size + 1]? = some (.cells #[.int .i64 0, .int .i64 0, .slice Ag1 1 cg1, .int .i64 1, .slice At1 1 ct1] 50) := by
    rw [hwx]
    have := heap_alloc_new (wr.alloc (.cells #[.int .i64 s, .int .i64 s, .int .i64 1, .int .i64 0, .slice (some ⟨b1, o1, none⟩) 1 c1, .slice (some ⟨b2, o2, none⟩) 1 c2] 29)) (.cells #[.int .i64 0, .int .i64 0, .slice Ag1 1 cg1, .int .i64 1, .slice At1 1 ct1] 50)
    simpa using this
  clear hwx x0 x1 x2 x3 x4 x5 hxl k0 k1 k2 k3 k4 hbl
  have hXEB : ¬ X (wr.heap.size + 1) := fun h => by have := HRP.out.2.2.2.1 _ h; omega
  have hRep := HRP.out.later hBx
  have hBWx : Below w.heap.size w wx := HBW.out.trans (hBx.mono hszr)
  have HGR : Hid ((listR spansR).rel wx.drew (upto wx.drew.heap.size) [.slice Ag1 1 cg1] [domF s]) := hid ((listR spansR).mono (fun p hp => hBWx.cell hp) (fun _ h => Nat.lt_of_lt_of_le h hBWx.size) K1.out.2.1)
  have HTR : Hid ((listR termR).rel wx (upto wx.heap.size) [.slice At1 1 ct1] [copyT 0 0]) := hid ((listR termR).mono (fun p hp => hBWx.cell hp) (fun _ h => Nat.lt_of_lt_of_le h hBWx.size) K1.out.2.2)
  have HQ : Hid (∀ q, (q = bd ∨ q = (wr.heap.size + 1)) → q < wx.heap.size) := hid (fun q hq => hq.elim (fun h => h ▸ heapLtM hRep.1) (fun h => h ▸ heapLtM hEB))
  have HNO : Hid (∀ q, (q = bd ∨ q = (wr.heap.size + 1)) → vr.ownBlock ≠ some q) := hid (fun q hq he => hq.elim (fun h => Tag.ne (hRep.2.1.tag q he) (h ▸ hRep.tagd) (by decide) rfl) (fun h => hXEB (h ▸ hRep.2.1.2 q he)))
  have HB0 : Hid (b0 ≤ wx.heap.size) := hid (Nat.le_trans HBD.out (Nat.le_of_lt (heapLtM hRep.1)))
  have HRep := hid hRep
  obtain ⟨x0, x1, x2, x3, x4, x5⟩ := hRep.six
  obtain ⟨e0, e1, e2, e3, e4⟩ := five9 hEB
  have hbdl := heapLtM hRep.1
  have hebl := heapLtM hEB
  have HXx := hid hXx
  clear hXx hEB hRep hBWx hXEB
  obtain ⟨ι, Wc, ⟨i0, hi0'⟩, hWc, Wsur⟩ := held_class wx.drew (fun q => q = bd ∨ q = (wr.heap.size + 1))
  have hne : Nonempty ι := ⟨i0⟩
  have WS := hid Wsur; clear Wsur
  have HWc := hid hWc; clear hWc
  have Hi0 := hid hi0'; clear hi0'
  have g1 : ∀ i, (Wc i).cell? ⟨bd, 4, none⟩ = some vr := fun i => (World.cell?_of_block (a := ⟨bd, 4, none⟩) (HWc.out i bd (.inl rfl))).trans x4
  have G : ∀ i, (Wc i).cell? ⟨wr.heap.size + 1, 0, none⟩ = some (.int .i64 0) ∧ (Wc i).cell? ⟨wr.heap.size + 1, 1, none⟩ = some (.int .i64 0) ∧ (Wc i).cell? ⟨wr.heap.size + 1, 2, none⟩ = some (.slice Ag1 1 cg1) ∧ (Wc i).cell? ⟨wr.heap.size + 1, 3, none⟩ = some (.int .i64 1) ∧ (Wc i).cell? ⟨wr.heap.size + 1, 4, none⟩ = some (.slice At1 1 ct1) := fun i =>
    ⟨(World.cell?_of_block (a := ⟨wr.heap.size + 1, 0, none⟩) (HWc.out i _ (.inr rfl))).trans e0, (World.cell?_of_block (a := ⟨wr.heap.size + 1, 1, none⟩) (HWc.out i _ (.inr rfl))).trans e1, (World.cell?_of_block (a := ⟨wr.heap.size + 1, 2, none⟩) (HWc.out i _ (.inr rfl))).trans e2, (World.cell?_of_block (a := ⟨wr.heap.size + 1, 3, none⟩) (HWc.out i _ (.inr rfl))).trans e3, (World.cell?_of_block (a := ⟨wr.heap.size + 1, 4, none⟩) (HWc.out i _ (.inr rfl))).trans e4⟩
  have G0 := fun i => (G i).1
  have G1 := fun i => (G i).2.1
  have G2 := fun i => (G i).2.2.1
  have G3 := fun i => (G i).2.2.2.1
  have G4 := fun i => (G i).2.2.2.2
  refine region_anyL (S := fun w' => ∃ i, w' = Wc i) (last := 22) (by kernel_rfl) ?_
  refine anyL_seg 0 12 (by kernel_rfl) (fun _ _ _ _ _ h => h) ⟨i0, Hi0.out.symm⟩ (f := 11) rfl (by kernel_rfl) (by kernel_rfl) ?_
  simp only [List.drop_zero, List.take_succ_cons, List.take_zero]
  repeat go_big_quiet_step (fail)
  refine wpQuiet_nil ?_
  refine anyL_seg 13 4 (by kernel_rfl) (fun _ _ _ _ _ h => h) ⟨i0, Hi0.out.symm⟩ (f := 7) rfl (by kernel_rfl) (by kernel_rfl) ?_
  simp only [List.drop_succ_cons, List.drop_zero, List.take_succ_cons, List.take_zero]
  repeat go_big_quiet_step (fail)
  refine wpQuiet_nil ?_
  refine anyL_act (i := 12) (by kernel_rfl) rfl rfl ?_
  intro K hK
  go_wp2_with fail
  refine (HCo.out [domF s] _ wx.drew HGR.out (by exact HNE.out) (by simp)).mono ?_
  rintro e w6 ⟨u6, rfl, hF6, hB6⟩
  obtain ⟨A6, c6, h6⟩ := hF6.len
  simp only [List.length_cons, List.length_nil, Nat.zero_add] at h6
  subst h6
  have hB6w : Below wx.heap.size wx w6 := ⟨hB6.os, hB6.tape, hB6.output, hB6.size, hB6.block⟩
  have hk6 : ∀ q, (q = bd ∨ q = (wr.heap.size + 1)) → w6.heap[q]? = wx.drew.heap[q]? := fun q hq => hB6w.block q (HQ.out q hq)
  have hS6 : ∃ i, w6 = Wc i := WS.out _ (fun q hq => hk6 q hq)
  go_wp2_with fail
  refine hK.out _ _ (fun _ => hS6) ?_
  clear hK K
  refine anyL_act (i := 17) (by kernel_rfl) rfl rfl ?_
  intro K hK
  go_wp2_with fail
  refine (HTe.out [copyT 0 0] _ w6 ((listR termR).mono (fun p hp => hB6w.cell hp) (fun q hq => Nat.lt_of_lt_of_le hq hB6w.size) HTR.out) (by exact HTN.out) (by simp)).mono ?_
  rintro e w7 ⟨u7, rfl, hF7, hB7⟩
  obtain ⟨A7, c7, h7⟩ := hF7.len
  simp only [List.length_cons, List.length_nil, Nat.zero_add] at h7
  subst h7
  have hB7w : Below wx.heap.size wx w7 := hB6w.trans (hB7.mono hB6w.size)
  have hk7 : ∀ q, (q = bd ∨ q = (wr.heap.size + 1)) → w7.heap[q]? = wx.drew.heap[q]? := fun q hq => hB7w.block q (HQ.out q hq)
  have hS7 : ∃ i, w7 = Wc i := WS.out _ (fun q hq => hk7 q hq)
  go_wp2_with fail
  refine hK.out _ _ (fun _ => hS7) ?_
  clear hK K
  refine anyL_seg 18 1 (by kernel_rfl) (fun _ _ _ _ _ h => h) hS7 (f := 4) rfl (by kernel_rfl) (by kernel_rfl) ?_
  simp only [List.drop_succ_cons, List.drop_zero, List.take_succ_cons, List.take_zero]
  repeat go_big_quiet_step (fail)
  refine wpQuiet_nil ?_
  refine anyL_act (i := 19) (by kernel_rfl) rfl rfl ?_
  intro K hK
  go_wp2_with fail
  obtain ⟨wB, hwB⟩ : ∃ wB, wB = w7.alloc (.cells #[.int .i64 1, .int .i64 1, .slice A6 1 c6, .int .i64 1, .slice A7 1 c7] 50) := ⟨_, rfl⟩
  rw [← hwB]
  have hB7B : Below w7.heap.size w7 wB := by rw [hwB]; exact (Below.refl _ w7).alloc (Nat.le_refl _) _
  have hBB : Below wx.heap.size wx wB := hB7w.trans (hB7B.mono hB7w.size)
  have hkB : ∀ q, (q = bd ∨ q = (wr.heap.size + 1)) → wB.heap[q]? = wx.drew.heap[q]? := fun q hq => hBB.block q (HQ.out q hq)
  have hSB : ∃ i, wB = Wc i := WS.out _ (fun q hq => hkB q hq)
  refine hK.out _ _ (fun _ => hSB) ?_
  clear hK K
  refine anyL_act (i := 20) (by kernel_rfl) rfl rfl ?_
  intro K hK
  have hRB := HRep.out.later hBB
  have hgr : (listR spansR).rel wB (ElX wB b0 X) [.slice A6 1 c6] [domF s] := rel_elx (rel_fresh (hF6.rel (Nat.le_refl _)) (hB7.trans (hB7B.mono hB7.size))) HRep.out.2.2.2.1 HB0.out
  have htr : (listR termR).rel wB (ElX wB b0 X) [.slice A7 1 c7] [copyT 0 0] := rel_elx (rel_fresh (rel_low (hF7.rel (Nat.le_refl _)) hB6w.size) hB7B) HRep.out.2.2.2.1 HB0.out
  refine act_append_fx (r := ruleR) (X := X) (b0 := b0) (v := vr) (xs := [⟨0, 1, [], 0, []⟩, ⟨0, 2, [], 0, []⟩]) (w := wB) _ _ 26 (by rfl) infR _ 72 Try.underlying26 hr0 hrz0 hrz1 hrz2 rfl (by decide) (by rfl) hRB.2.1 hRB.2.2.2.1 (Nat.le_trans HB0.out hBB.size) ⟨w7.heap.size, 0, none⟩ 1 ⟨1, 1, [domF s], 1, [copyT 0 0]⟩ [.int .i64 1, .int .i64 1, .slice A6 1 c6, .int .i64 1, .slice A7 1 c7] (by rfl) ⟨_, _, rfl, ⟨(okI (by omega) : I64 1), (okI (by omega) : I64 1), (okI (by omega) : I64 1)⟩, hgr, htr⟩
    (by rw [hwB]; exact news_at (w := w7) (cs := #[_, _, _, _, _]) rfl) (by simp [Value.oneCell']) (by simp [maxLen]) (by simp) ?_
  intro v' w10 hF10 hX10 hXl10 hB10 hk10
  obtain ⟨Aw, Lw, cw, rfl⟩ : ∃ A n c, v' = Value.slice A n c := (hF10.len).elim fun A h => h.elim fun c h => ⟨A, _, c, h⟩
  have hkT : ∀ q, (q = bd ∨ q = (wr.heap.size + 1)) → w10.heap[q]? = wx.drew.heap[q]? := fun q hq => (hk10 q (Nat.lt_of_lt_of_le (HQ.out q hq) hBB.size) (HNO.out q hq)).trans (hkB q hq)
  have hST : ∃ i, w10 = Wc i := WS.out _ (fun q hq => hkT q hq)
  refine hK.out _ _ (fun _ => hST) ?_
  clear hK K
  go_simp
  refine anyL_seg 21 1 (by kernel_rfl) (fun _ _ _ _ _ h => h) hST (f := 1) rfl (by kernel_rfl) (by kernel_rfl) ?_
  simp only [List.drop_succ_cons, List.drop_zero, List.take_succ_cons, List.take_zero]
  repeat go_big_quiet_step (fail)
  refine wpQuiet_nil ?_
  obtain ⟨hRepN, hStpN, hbd10⟩ := hRB.pushR HBD.out hF10 hX10 hXl10 hB10 hk10
  obtain ⟨y0, y1, y2, y3, y4, y5⟩ := six9 (W := w10) (b := bd) (x0 := .int .i64 s) (x1 := .int .i64 s) (x2 := .int .i64 3) (x3 := .int .i64 0) (x4 := vr) (x5 := vn) (t := 29) hbd10
  obtain ⟨f0, f1, f2, f3, f4, f5⟩ := fro6 (W := w10) (b := bd) (x0 := .int .i64 s) (x1 := .int .i64 s) (x2 := .int .i64 3) (x3 := .int .i64 0) (x4 := vr) (x5 := vn) (t := 29) hbd10
  have hbdw := heapLtM hbd10
  refine anyL_act (i := 22) (by kernel_rfl) rfl rfl ?_
  intro K hK
  go_wp2_with fail
  refine hK.out _ _ (fun h => absurd rfl h) ?_
  clear hK K
  refine anyL_done (by kernel_rfl) ?_ 0
  obtain ⟨wj, hwj⟩ : ∃ wj, wj = w10.setCell ⟨bd, 4, none⟩ (.slice Aw Lw cw) := ⟨_, rfl⟩
  rw [← hwj] at hRepN hStpN
  rw [← hwj]
  clear hwj
  obtain ⟨vr2, hvw⟩ : ∃ v, v = Value.slice Aw Lw cw := ⟨_, rfl⟩
  rw [← hvw] at hRepN hStpN
  clear hS6 hS7 hSB hST y0 y1 y2 y3 y4 y5 f0 f1 f2 f3 f4 f5 hbdw g1 G0 G1 G2 G3 G4 G WS HWc Hi0 hne i0 Wc ι
  obtain ⟨X2, hX2⟩ : ∃ X2, X2 = XNew X vr2 := ⟨_, rfl⟩
  rw [← hX2] at hRepN hStpN
  clear hX2
  have hStJ : Stp b0 X wr X2 wj := (Stp.of (hBx.trans (hBB.mono hBx.size)) (Nat.le_trans HBD.out (Nat.le_of_lt (heapLtM HRP.out.1)))).trans hStpN
  have hXj : wj.heap[wr.heap.size]? = some (.cells #[.int .i64 s, .int .i64 s, .int .i64 1, .int .i64 0, .slice (some ⟨b1, o1, none⟩) 1 c1, .slice (some ⟨b2, o2, none⟩) 1 c2] 29) := (hStpN.kp _ (Nat.lt_of_lt_of_le (heapLtM HXx.out) hBB.size) (fun h => by have := HRP.out.2.2.2.1 _ h; omega)).trans ((hBB.block _ (heapLtM HXx.out)).trans HXx.out)
  have HRJ := hid hRepN
  have HSJ := hid hStJ
  clear HQ HNO HB0 HRep HGR HTR hF6 hB6 hB6w hk6 hF7 hB7 hB7w hk7 hwB hB7B hBB hkB hRB hgr htr hF10 hX10 hXl10 hB10 hk10 hkT hbd10 hvw
  clear hRepN hStpN x0 x1 x2 x3 x4 x5 e0 e1 e2 e3 e4 hbdl hebl hBx HXx hStJ
  have hbwj : Below w.heap.size w wj := HBW.out.trans (HSJ.out.bl.mono HW3.out)
  have hszj := hbwj.size
  obtain ⟨q0, q1, q2, q3, q4, q5⟩ := six9 hXj
  obtain ⟨k0, k1, k2⟩ := Q2.out
  replace k0 := (hbwj.cell (p := ⟨b2, o2, none⟩) K2.out.1).trans k0
  replace k1 := (hbwj.cell (p := ⟨b2, o2 + 1, none⟩) K2.out.1).trans k1
  replace k2 := (hbwj.cell (p := ⟨b2, o2 + 2, none⟩) K2.out.1).trans k2
  have hbl : b2 < wj.heap.size := Nat.lt_of_lt_of_le K2.out.1 hszj
  have hxl := heapLtM hXj
  clear hXj hbwj
  go_wp2_with fail
  rw [rounds_succ]
  go_wp2_with fail
  refine wp_loop_rounds 2 ?_
  rw [rounds_succ]
  go_wp2_with fail
  obtain ⟨wy, hwy⟩ : ∃ wy, wy = wj.alloc (.cells #[.int .i64 0, .slice Ag2 0 cg2, .slice At2 0 ct2] 42) := ⟨_, rfl⟩
  rw [← hwy]
  have hBx : Below wj.heap.size wj wy := by rw [hwy]; exact (Below.refl _ wj).alloc (Nat.le_refl _) _
  have hEB : wy.heap[wj.heap.size]? = some (.cells #[.int .i64 0, .slice Ag2 0 cg2, .slice At2 0 ct2] 42) := by rw [hwy]; exact heap_alloc_new wj _
  clear hwy q0 q1 q2 q3 q4 q5 hxl k0 k1 k2 hbl
  have hXEB : ¬ X2 wj.heap.size := fun h => by have := HRJ.out.2.2.2.1 _ h; omega
  have hRep := HRJ.out.later hBx
  have hBWx : Below w.heap.size w wy := (HBW.out.trans (HSJ.out.bl.mono HW3.out)).trans (hBx.mono hszj)
  have HGR : Hid ((listR spansR).rel wy.drew (upto wy.drew.heap.size) [.slice Ag2 0 cg2] []) := hid ((listR spansR).mono (fun p hp => hBWx.cell hp) (fun _ h => Nat.lt_of_lt_of_le h hBWx.size) K2.out.2.1)
  have HTR : Hid ((listR termR).rel wy (upto wy.heap.size) [.slice At2 0 ct2] []) := hid ((listR termR).mono (fun p hp => hBWx.cell hp) (fun _ h => Nat.lt_of_lt_of_le h hBWx.size) K2.out.2.2)
  have HQ : Hid (∀ q, (q = bd ∨ q = wj.heap.size) → q < wy.heap.size) := hid (fun q hq => hq.elim (fun h => h ▸ heapLtM hRep.1) (fun h => h ▸ heapLtM hEB))
  have HNO : Hid (∀ q, (q = bd ∨ q = wj.heap.size) → vn.ownBlock ≠ some q) := hid (fun q hq he => hq.elim (fun h => Tag.ne (hRep.2.2.1.tag q he) (h ▸ hRep.tagd) (by decide) rfl) (fun h => hXEB (h ▸ hRep.2.2.1.2 q he)))
  have HB0 : Hid (b0 ≤ wy.heap.size) := hid (Nat.le_trans HBD.out (Nat.le_of_lt (heapLtM hRep.1)))
  have HRep := hid hRep
  obtain ⟨x0, x1, x2, x3, x4, x5⟩ := hRep.six
  obtain ⟨e0, e1, e2⟩ := three hEB
  have hbdl := heapLtM hRep.1
  have hebl := heapLtM hEB
  clear hEB hRep hBWx hXEB
  obtain ⟨ι, Wc, ⟨i0, hi0'⟩, hWc, Wsur⟩ := held_class wy.drew (fun q => q = bd ∨ q = wj.heap.size)
  have hne : Nonempty ι := ⟨i0⟩
  have WS := hid Wsur; clear Wsur
  have HWc := hid hWc; clear hWc
  have Hi0 := hid hi0'; clear hi0'
  have g1 : ∀ i, (Wc i).cell? ⟨bd, 5, none⟩ = some vn := fun i => (World.cell?_of_block (a := ⟨bd, 5, none⟩) (HWc.out i bd (.inl rfl))).trans x5
  have G : ∀ i, (Wc i).cell? ⟨wj.heap.size, 0, none⟩ = some (.int .i64 0) ∧ (Wc i).cell? ⟨wj.heap.size, 1, none⟩ = some (.slice Ag2 0 cg2) ∧ (Wc i).cell? ⟨wj.heap.size, 2, none⟩ = some (.slice At2 0 ct2) := fun i =>
    ⟨(World.cell?_of_block (a := ⟨wj.heap.size, 0, none⟩) (HWc.out i _ (.inr rfl))).trans e0, (World.cell?_of_block (a := ⟨wj.heap.size, 1, none⟩) (HWc.out i _ (.inr rfl))).trans e1, (World.cell?_of_block (a := ⟨wj.heap.size, 2, none⟩) (HWc.out i _ (.inr rfl))).trans e2⟩
  have G0 := fun i => (G i).1
  have G1 := fun i => (G i).2.1
  have G2 := fun i => (G i).2.2
  refine region_anyL (S := fun w' => ∃ i, w' = Wc i) (last := 16) (by kernel_rfl) ?_
  refine anyL_seg 0 8 (by kernel_rfl) (fun _ _ _ _ _ h => h) ⟨i0, Hi0.out.symm⟩ (f := 9) rfl (by kernel_rfl) (by kernel_rfl) ?_
  simp only [List.drop_zero, List.take_succ_cons, List.take_zero]
  repeat go_big_quiet_step (fail)
  refine wpQuiet_nil ?_
  refine anyL_seg 9 2 (by kernel_rfl) (fun _ _ _ _ _ h => h) ⟨i0, Hi0.out.symm⟩ (f := 7) rfl (by kernel_rfl) (by kernel_rfl) ?_
  simp only [List.drop_succ_cons, List.drop_zero, List.take_succ_cons, List.take_zero]
  repeat go_big_quiet_step (fail)
  refine wpQuiet_nil ?_
  refine anyL_act (i := 8) (by kernel_rfl) rfl rfl ?_
  intro K hK
  go_wp2_with fail
  refine (HCo.out [] _ wy.drew HGR.out (by simp) (by simp)).mono ?_
  rintro e w6 ⟨u6, rfl, hF6, hB6⟩
  obtain ⟨A6, c6, h6⟩ := hF6.len
  simp only [List.length_nil] at h6
  subst h6
  have hB6w : Below wy.heap.size wy w6 := ⟨hB6.os, hB6.tape, hB6.output, hB6.size, hB6.block⟩
  have hk6 : ∀ q, (q = bd ∨ q = wj.heap.size) → w6.heap[q]? = wy.drew.heap[q]? := fun q hq => hB6w.block q (HQ.out q hq)
  have hS6 : ∃ i, w6 = Wc i := WS.out _ (fun q hq => hk6 q hq)
  go_wp2_with fail
  refine hK.out _ _ (fun _ => hS6) ?_
  clear hK K
  refine anyL_act (i := 11) (by kernel_rfl) rfl rfl ?_
  intro K hK
  go_wp2_with fail
  refine (HTe.out [] _ w6 ((listR termR).mono (fun p hp => hB6w.cell hp) (fun q hq => Nat.lt_of_lt_of_le hq hB6w.size) HTR.out) (by simp) (by simp)).mono ?_
  rintro e w7 ⟨u7, rfl, hF7, hB7⟩
  obtain ⟨A7, c7, h7⟩ := hF7.len
  simp only [List.length_nil] at h7
  subst h7
  have hB7w : Below wy.heap.size wy w7 := hB6w.trans (hB7.mono hB6w.size)
  have hk7 : ∀ q, (q = bd ∨ q = wj.heap.size) → w7.heap[q]? = wy.drew.heap[q]? := fun q hq => hB7w.block q (HQ.out q hq)
  have hS7 : ∃ i, w7 = Wc i := WS.out _ (fun q hq => hk7 q hq)
  go_wp2_with fail
  refine hK.out _ _ (fun _ => hS7) ?_
  clear hK K
  refine anyL_seg 12 1 (by kernel_rfl) (fun _ _ _ _ _ h => h) hS7 (f := 4) rfl (by kernel_rfl) (by kernel_rfl) ?_
  simp only [List.drop_succ_cons, List.drop_zero, List.take_succ_cons, List.take_zero]
  repeat go_big_quiet_step (fail)
  refine wpQuiet_nil ?_
  refine anyL_act (i := 13) (by kernel_rfl) rfl rfl ?_
  intro K hK
  go_wp2_with fail
  obtain ⟨wB, hwB⟩ : ∃ wB, wB = w7.alloc (.cells #[.int .i64 1, .slice A6 0 c6, .slice A7 0 c7] 42) := ⟨_, rfl⟩
  rw [← hwB]
  have hB7B : Below w7.heap.size w7 wB := by rw [hwB]; exact (Below.refl _ w7).alloc (Nat.le_refl _) _
  have hBB : Below wy.heap.size wy wB := hB7w.trans (hB7B.mono hB7w.size)
  have hkB : ∀ q, (q = bd ∨ q = wj.heap.size) → wB.heap[q]? = wy.drew.heap[q]? := fun q hq => hBB.block q (HQ.out q hq)
  have hSB : ∃ i, wB = Wc i := WS.out _ (fun q hq => hkB q hq)
  refine hK.out _ _ (fun _ => hSB) ?_
  clear hK K
  refine anyL_act (i := 14) (by kernel_rfl) rfl rfl ?_
  intro K hK
  have hRB := HRep.out.later hBB
  have hgr : (listR spansR).rel wB (ElX wB b0 X2) [.slice A6 0 c6] [] := rel_elx (rel_fresh (hF6.rel (Nat.le_refl _)) (hB7.trans (hB7B.mono hB7.size))) HRep.out.2.2.2.1 HB0.out
  have htr : (listR termR).rel wB (ElX wB b0 X2) [.slice A7 0 c7] [] := rel_elx (rel_fresh (rel_low (hF7.rel (Nat.le_refl _)) hB6w.size) hB7B) HRep.out.2.2.2.1 HB0.out
  refine act_append_fx (r := finalR) (X := X2) (b0 := b0) (v := vn) (xs := []) (w := wB) _ _ 27 (by rfl) infF _ 56 Try.underlying27 hf0 hfz0 hfz1 hfz2 rfl (by decide) (by rfl) hRB.2.2.1 hRB.2.2.2.1 (Nat.le_trans HB0.out hBB.size) ⟨w7.heap.size, 0, none⟩ 1 ⟨1, [], []⟩ [.int .i64 1, .slice A6 0 c6, .slice A7 0 c7] (by rfl) ⟨_, _, rfl, (okI (by omega) : I64 1), hgr, htr⟩
    (by rw [hwB]; exact news_at (w := w7) (cs := #[_, _, _]) rfl) (by simp [Value.oneCell']) (by simp [maxLen]) (by simp) ?_
  intro v' w10 hF10 hX10 hXl10 hB10 hk10
  obtain ⟨Aw, Lw, cw, rfl⟩ : ∃ A n c, v' = Value.slice A n c := (hF10.len).elim fun A h => h.elim fun c h => ⟨A, _, c, h⟩
  have hkT : ∀ q, (q = bd ∨ q = wj.heap.size) → w10.heap[q]? = wy.drew.heap[q]? := fun q hq => (hk10 q (Nat.lt_of_lt_of_le (HQ.out q hq) hBB.size) (HNO.out q hq)).trans (hkB q hq)
  have hST : ∃ i, w10 = Wc i := WS.out _ (fun q hq => hkT q hq)
  refine hK.out _ _ (fun _ => hST) ?_
  clear hK K
  go_simp
  refine anyL_seg 15 1 (by kernel_rfl) (fun _ _ _ _ _ h => h) hST (f := 1) rfl (by kernel_rfl) (by kernel_rfl) ?_
  simp only [List.drop_succ_cons, List.drop_zero, List.take_succ_cons, List.take_zero]
  repeat go_big_quiet_step (fail)
  refine wpQuiet_nil ?_
  obtain ⟨hRepN, hStpN, hbd10⟩ := hRB.pushF HBD.out hF10 hX10 hXl10 hB10 hk10
  obtain ⟨y0, y1, y2, y3, y4, y5⟩ := six9 (W := w10) (b := bd) (x0 := .int .i64 s) (x1 := .int .i64 s) (x2 := .int .i64 3) (x3 := .int .i64 0) (x4 := vr2) (x5 := vn) (t := 29) hbd10
  obtain ⟨f0, f1, f2, f3, f4, f5⟩ := fro6 (W := w10) (b := bd) (x0 := .int .i64 s) (x1 := .int .i64 s) (x2 := .int .i64 3) (x3 := .int .i64 0) (x4 := vr2) (x5 := vn) (t := 29) hbd10
  have hbdw := heapLtM hbd10
  refine anyL_act (i := 16) (by kernel_rfl) rfl rfl ?_
  intro K hK
  go_wp2_with fail
  refine hK.out _ _ (fun h => absurd rfl h) ?_
  clear hK K
  refine anyL_done (by kernel_rfl) ?_ 0
  obtain ⟨wn, hwj⟩ : ∃ wn, wn = w10.setCell ⟨bd, 5, none⟩ (.slice Aw Lw cw) := ⟨_, rfl⟩
  rw [← hwj] at hRepN hStpN
  rw [← hwj]
  clear hwj
  obtain ⟨vn2, hvw⟩ : ∃ v, v = Value.slice Aw Lw cw := ⟨_, rfl⟩
  rw [← hvw] at hRepN hStpN
  clear hS6 hS7 hSB hST y0 y1 y2 y3 y4 y5 f0 f1 f2 f3 f4 f5 hbdw g1 G0 G1 G2 G WS HWc Hi0 hne i0 Wc ι
  obtain ⟨X3, hX3⟩ : ∃ X3, X3 = XNew X2 vn2 := ⟨_, rfl⟩
  rw [← hX3] at hRepN hStpN
  clear hX3
  have hStN : Stp b0 X wr X3 wn := HSJ.out.trans ((Stp.of (hBx.trans (hBB.mono hBx.size)) (Nat.le_trans HBD.out (Nat.le_of_lt (heapLtM HRJ.out.1)))).trans hStpN)
  have HRN := hid hRepN
  have HA' := hid ((hStN.bl.block _ (by have := H3.out; omega)).trans HA.out)
  have HZ' := hid ((hStN.bl.block _ (by have := H3.out; omega)).trans HZ.out)
  have HBW' := hid (HBW.out.trans (hStN.bl.mono HW3.out))
  clear HQ HNO HB0 HRep HGR HTR hF6 hB6 hB6w hk6 hF7 hB7 hB7w hk7 hwB hB7B hBB hkB hRB hgr htr hF10 hX10 hXl10 hB10 hk10 hkT hbd10 hvw
  clear hRepN hStpN x0 x1 x2 x3 x4 x5 e0 e1 e2 hbdl hebl hBx hStN HSJ HRJ HA HZ HBW HRP hszr hszj
  go_wp2_with fail
  rw [rounds_succ]
  go_wp2_with fail
  obtain ⟨wr, hwr⟩ : ∃ w', w' = wn := ⟨_, rfl⟩
  subst hwr
  have HRP := HRN
  have HA := HA'
  have HZ := HZ'
  have HBW := HBW'
  clear HRN HA' HZ' HBW'
  obtain ⟨X, hX⟩ : ∃ Y, Y = X3 := ⟨_, rfl⟩
  subst hX
  obtain ⟨vr, hvr⟩ : ∃ Y, Y = vr2 := ⟨_, rfl⟩
  subst hvr
  obtain ⟨vn, hvn⟩ : ∃ Y, Y = vn2 := ⟨_, rfl⟩
  subst hvn
  have hbwr := HBW.out
  have hszr := hbwr.size
  obtain ⟨k0, k1, k2, k3, k4⟩ := Q3.out
  replace k0 := (hbwr.cell (p := ⟨b3, o3, none⟩) K3.out.1).trans k0
  replace k1 := (hbwr.cell (p := ⟨b3, o3 + 1, none⟩) K3.out.1).trans k1
  replace k2 := (hbwr.cell (p := ⟨b3, o3 + 2, none⟩) K3.out.1).trans k2
  replace k3 := (hbwr.cell (p := ⟨b3, o3 + 3, none⟩) K3.out.1).trans k3
  replace k4 := (hbwr.cell (p := ⟨b3, o3 + 4, none⟩) K3.out.1).trans k4
  have hbl : b3 < wr.heap.size := Nat.lt_of_lt_of_le K3.out.1 hszr
  obtain ⟨x0, x1, x2, x3, x4, x5⟩ := six9 HA.out
  have hxl := heapLtM HA.out
  clear hbwr
  rw [rounds_succ]
  go_wp2_with fail
  refine wp_loop_rounds 2 ?_
  rw [rounds_succ]
  go_wp2_with fail
  obtain ⟨wx, hwx⟩ : ∃ wx, wx = (wr.alloc (.cells #[.int .i64 s, .int .i64 s, .int .i64 1, .int .i64 0, .slice (some ⟨b3, o3, none⟩) 1 c3, .slice (some ⟨b4, o4, none⟩) 1 c4] 29)).alloc (.cells #[.int .i64 0, .int .i64 0, .slice Ag3 1 cg3, .int .i64 1, .slice At3 1 ct3] 50) := ⟨_, rfl⟩
  rw [← hwx]
  have hBx : Below wr.heap.size wr wx := by rw [hwx]; exact ((Below.refl _ wr).alloc (Nat.le_refl _) _).alloc (by simp) _
  have hXx : wx.heap[wr.heap.size]? = some (.cells #[.int .i64 s, .int .i64 s, .int .i64 1, .int .i64 0, .slice (some ⟨b3, o3, none⟩) 1 c3, .slice (some ⟨b4, o4, none⟩) 1 c4] 29) := by rw [hwx, Below.heap_alloc _ _ _ (by simp)]; exact heap_alloc_new wr _
  have hEB : wx.heap[wr.heap.size + 1]? = some (.cells #[.int .i64 0, .int .i64 0, .slice Ag3 1 cg3, .int .i64 1, .slice At3 1 ct3] 50) := by
    rw [hwx]
    have := heap_alloc_new (wr.alloc (.cells #[.int .i64 s, .int .i64 s, .int .i64 1, .int .i64 0, .slice (some ⟨b3, o3, none⟩) 1 c3, .slice (some ⟨b4, o4, none⟩) 1 c4] 29)) (.cells #[.int .i64 0, .int .i64 0, .slice Ag3 1 cg3, .int .i64 1, .slice At3 1 ct3] 50)
    simpa using this
  clear hwx x0 x1 x2 x3 x4 x5 hxl k0 k1 k2 k3 k4 hbl
  have hXEB : ¬ X (wr.heap.size + 1) := fun h => by have := HRP.out.2.2.2.1 _ h; omega
  have hRep := HRP.out.later hBx
  have hBWx : Below w.heap.size w wx := HBW.out.trans (hBx.mono hszr)
  have HGR : Hid ((listR spansR).rel wx.drew (upto wx.drew.heap.size) [.slice Ag3 1 cg3] [domF s]) := hid ((listR spansR).mono (fun p hp => hBWx.cell hp) (fun _ h => Nat.lt_of_lt_of_le h hBWx.size) K3.out.2.1)
  have HTR : Hid ((listR termR).rel wx (upto wx.heap.size) [.slice At3 1 ct3] [copyT 0 0]) := hid ((listR termR).mono (fun p hp => hBWx.cell hp) (fun _ h => Nat.lt_of_lt_of_le h hBWx.size) K3.out.2.2)
  have HQ : Hid (∀ q, (q = bd ∨ q = (wr.heap.size + 1)) → q < wx.heap.size) := hid (fun q hq => hq.elim (fun h => h ▸ heapLtM hRep.1) (fun h => h ▸ heapLtM hEB))
  have HNO : Hid (∀ q, (q = bd ∨ q = (wr.heap.size + 1)) → vr.ownBlock ≠ some q) := hid (fun q hq he => hq.elim (fun h => Tag.ne (hRep.2.1.tag q he) (h ▸ hRep.tagd) (by decide) rfl) (fun h => hXEB (h ▸ hRep.2.1.2 q he)))
  have HB0 : Hid (b0 ≤ wx.heap.size) := hid (Nat.le_trans HBD.out (Nat.le_of_lt (heapLtM hRep.1)))
  have HRep := hid hRep
  obtain ⟨x0, x1, x2, x3, x4, x5⟩ := hRep.six
  obtain ⟨e0, e1, e2, e3, e4⟩ := five9 hEB
  have hbdl := heapLtM hRep.1
  have hebl := heapLtM hEB
  have HXx := hid hXx
  clear hXx hEB hRep hBWx hXEB
  obtain ⟨ι, Wc, ⟨i0, hi0'⟩, hWc, Wsur⟩ := held_class wx.drew (fun q => q = bd ∨ q = (wr.heap.size + 1))
  have hne : Nonempty ι := ⟨i0⟩
  have WS := hid Wsur; clear Wsur
  have HWc := hid hWc; clear hWc
  have Hi0 := hid hi0'; clear hi0'
  have g1 : ∀ i, (Wc i).cell? ⟨bd, 4, none⟩ = some vr := fun i => (World.cell?_of_block (a := ⟨bd, 4, none⟩) (HWc.out i bd (.inl rfl))).trans x4
  have G : ∀ i, (Wc i).cell? ⟨wr.heap.size + 1, 0, none⟩ = some (.int .i64 0) ∧ (Wc i).cell? ⟨wr.heap.size + 1, 1, none⟩ = some (.int .i64 0) ∧ (Wc i).cell? ⟨wr.heap.size + 1, 2, none⟩ = some (.slice Ag3 1 cg3) ∧ (Wc i).cell? ⟨wr.heap.size + 1, 3, none⟩ = some (.int .i64 1) ∧ (Wc i).cell? ⟨wr.heap.size + 1, 4, none⟩ = some (.slice At3 1 ct3) := fun i =>
    ⟨(World.cell?_of_block (a := ⟨wr.heap.size + 1, 0, none⟩) (HWc.out i _ (.inr rfl))).trans e0, (World.cell?_of_block (a := ⟨wr.heap.size + 1, 1, none⟩) (HWc.out i _ (.inr rfl))).trans e1, (World.cell?_of_block (a := ⟨wr.heap.size + 1, 2, none⟩) (HWc.out i _ (.inr rfl))).trans e2, (World.cell?_of_block (a := ⟨wr.heap.size + 1, 3, none⟩) (HWc.out i _ (.inr rfl))).trans e3, (World.cell?_of_block (a := ⟨wr.heap.size + 1, 4, none⟩) (HWc.out i _ (.inr rfl))).trans e4⟩
  have G0 := fun i => (G i).1
  have G1 := fun i => (G i).2.1
  have G2 := fun i => (G i).2.2.1
  have G3 := fun i => (G i).2.2.2.1
  have G4 := fun i => (G i).2.2.2.2
  refine region_anyL (S := fun w' => ∃ i, w' = Wc i) (last := 22) (by kernel_rfl) ?_
  refine anyL_seg 0 12 (by kernel_rfl) (fun _ _ _ _ _ h => h) ⟨i0, Hi0.out.symm⟩ (f := 11) rfl (by kernel_rfl) (by kernel_rfl) ?_
  simp only [List.drop_zero, List.take_succ_cons, List.take_zero]
  repeat go_big_quiet_step (fail)
  refine wpQuiet_nil ?_
  refine anyL_seg 13 4 (by kernel_rfl) (fun _ _ _ _ _ h => h) ⟨i0, Hi0.out.symm⟩ (f := 7) rfl (by kernel_rfl) (by kernel_rfl) ?_
  simp only [List.drop_succ_cons, List.drop_zero, List.take_succ_cons, List.take_zero]
  repeat go_big_quiet_step (fail)
  refine wpQuiet_nil ?_
  refine anyL_act (i := 12) (by kernel_rfl) rfl rfl ?_
  intro K hK
  go_wp2_with fail
  refine (HCo.out [domF s] _ wx.drew HGR.out (by exact HNE.out) (by simp)).mono ?_
  rintro e w6 ⟨u6, rfl, hF6, hB6⟩
  obtain ⟨A6, c6, h6⟩ := hF6.len
  simp only [List.length_cons, List.length_nil, Nat.zero_add] at h6
  subst h6
  have hB6w : Below wx.heap.size wx w6 := ⟨hB6.os, hB6.tape, hB6.output, hB6.size, hB6.block⟩
  have hk6 : ∀ q, (q = bd ∨ q = (wr.heap.size + 1)) → w6.heap[q]? = wx.drew.heap[q]? := fun q hq => hB6w.block q (HQ.out q hq)
  have hS6 : ∃ i, w6 = Wc i := WS.out _ (fun q hq => hk6 q hq)
  go_wp2_with fail
  refine hK.out _ _ (fun _ => hS6) ?_
  clear hK K
  refine anyL_act (i := 17) (by kernel_rfl) rfl rfl ?_
  intro K hK
  go_wp2_with fail
  refine (HTe.out [copyT 0 0] _ w6 ((listR termR).mono (fun p hp => hB6w.cell hp) (fun q hq => Nat.lt_of_lt_of_le hq hB6w.size) HTR.out) (by exact HTN.out) (by simp)).mono ?_
  rintro e w7 ⟨u7, rfl, hF7, hB7⟩
  obtain ⟨A7, c7, h7⟩ := hF7.len
  simp only [List.length_cons, List.length_nil, Nat.zero_add] at h7
  subst h7
  have hB7w : Below wx.heap.size wx w7 := hB6w.trans (hB7.mono hB6w.size)
  have hk7 : ∀ q, (q = bd ∨ q = (wr.heap.size + 1)) → w7.heap[q]? = wx.drew.heap[q]? := fun q hq => hB7w.block q (HQ.out q hq)
  have hS7 : ∃ i, w7 = Wc i := WS.out _ (fun q hq => hk7 q hq)
  go_wp2_with fail
  refine hK.out _ _ (fun _ => hS7) ?_
  clear hK K
  refine anyL_seg 18 1 (by kernel_rfl) (fun _ _ _ _ _ h => h) hS7 (f := 4) rfl (by kernel_rfl) (by kernel_rfl) ?_
  simp only [List.drop_succ_cons, List.drop_zero, List.take_succ_cons, List.take_zero]
  repeat go_big_quiet_step (fail)
  refine wpQuiet_nil ?_
  refine anyL_act (i := 19) (by kernel_rfl) rfl rfl ?_
  intro K hK
  go_wp2_with fail
  obtain ⟨wB, hwB⟩ : ∃ wB, wB = w7.alloc (.cells #[.int .i64 2, .int .i64 2, .slice A6 1 c6, .int .i64 1, .slice A7 1 c7] 50) := ⟨_, rfl⟩
  rw [← hwB]
  have hB7B : Below w7.heap.size w7 wB := by rw [hwB]; exact (Below.refl _ w7).alloc (Nat.le_refl _) _
  have hBB : Below wx.heap.size wx wB := hB7w.trans (hB7B.mono hB7w.size)
  have hkB : ∀ q, (q = bd ∨ q = (wr.heap.size + 1)) → wB.heap[q]? = wx.drew.heap[q]? := fun q hq => hBB.block q (HQ.out q hq)
  have hSB : ∃ i, wB = Wc i := WS.out _ (fun q hq => hkB q hq)
  refine hK.out _ _ (fun _ => hSB) ?_
  clear hK K
  refine anyL_act (i := 20) (by kernel_rfl) rfl rfl ?_
  intro K hK
  have hRB := HRep.out.later hBB
  have hgr : (listR spansR).rel wB (ElX wB b0 X) [.slice A6 1 c6] [domF s] := rel_elx (rel_fresh (hF6.rel (Nat.le_refl _)) (hB7.trans (hB7B.mono hB7.size))) HRep.out.2.2.2.1 HB0.out
  have htr : (listR termR).rel wB (ElX wB b0 X) [.slice A7 1 c7] [copyT 0 0] := rel_elx (rel_fresh (rel_low (hF7.rel (Nat.le_refl _)) hB6w.size) hB7B) HRep.out.2.2.2.1 HB0.out
  refine act_append_fx (r := ruleR) (X := X) (b0 := b0) (v := vr) (xs := [⟨0, 1, [], 0, []⟩, ⟨0, 2, [], 0, []⟩, ⟨1, 1, [domF s], 1, [copyT 0 0]⟩]) (w := wB) _ _ 26 (by rfl) infR _ 72 Try.underlying26 hr0 hrz0 hrz1 hrz2 rfl (by decide) (by rfl) hRB.2.1 hRB.2.2.2.1 (Nat.le_trans HB0.out hBB.size) ⟨w7.heap.size, 0, none⟩ 1 ⟨2, 2, [domF s], 1, [copyT 0 0]⟩ [.int .i64 2, .int .i64 2, .slice A6 1 c6, .int .i64 1, .slice A7 1 c7] (by rfl) ⟨_, _, rfl, ⟨(okI (by omega) : I64 2), (okI (by omega) : I64 2), (okI (by omega) : I64 1)⟩, hgr, htr⟩
    (by rw [hwB]; exact news_at (w := w7) (cs := #[_, _, _, _, _]) rfl) (by simp [Value.oneCell']) (by simp [maxLen]) (by simp) ?_
  intro v' w10 hF10 hX10 hXl10 hB10 hk10
  obtain ⟨Aw, Lw, cw, rfl⟩ : ∃ A n c, v' = Value.slice A n c := (hF10.len).elim fun A h => h.elim fun c h => ⟨A, _, c, h⟩
  have hkT : ∀ q, (q = bd ∨ q = (wr.heap.size + 1)) → w10.heap[q]? = wx.drew.heap[q]? := fun q hq => (hk10 q (Nat.lt_of_lt_of_le (HQ.out q hq) hBB.size) (HNO.out q hq)).trans (hkB q hq)
  have hST : ∃ i, w10 = Wc i := WS.out _ (fun q hq => hkT q hq)
  refine hK.out _ _ (fun _ => hST) ?_
  clear hK K
  go_simp
  refine anyL_seg 21 1 (by kernel_rfl) (fun _ _ _ _ _ h => h) hST (f := 1) rfl (by kernel_rfl) (by kernel_rfl) ?_
  simp only [List.drop_succ_cons, List.drop_zero, List.take_succ_cons, List.take_zero]
  repeat go_big_quiet_step (fail)
  refine wpQuiet_nil ?_
  obtain ⟨hRepN, hStpN, hbd10⟩ := hRB.pushR HBD.out hF10 hX10 hXl10 hB10 hk10
  obtain ⟨y0, y1, y2, y3, y4, y5⟩ := six9 (W := w10) (b := bd) (x0 := .int .i64 s) (x1 := .int .i64 s) (x2 := .int .i64 3) (x3 := .int .i64 0) (x4 := vr) (x5 := vn) (t := 29) hbd10
  obtain ⟨f0, f1, f2, f3, f4, f5⟩ := fro6 (W := w10) (b := bd) (x0 := .int .i64 s) (x1 := .int .i64 s) (x2 := .int .i64 3) (x3 := .int .i64 0) (x4 := vr) (x5 := vn) (t := 29) hbd10
  have hbdw := heapLtM hbd10
  refine anyL_act (i := 22) (by kernel_rfl) rfl rfl ?_
  intro K hK
  go_wp2_with fail
  refine hK.out _ _ (fun h => absurd rfl h) ?_
  clear hK K
  refine anyL_done (by kernel_rfl) ?_ 0
  obtain ⟨wj, hwj⟩ : ∃ wj, wj = w10.setCell ⟨bd, 4, none⟩ (.slice Aw Lw cw) := ⟨_, rfl⟩
  rw [← hwj] at hRepN hStpN
  rw [← hwj]
  clear hwj
  obtain ⟨vr2, hvw⟩ : ∃ v, v = Value.slice Aw Lw cw := ⟨_, rfl⟩
  rw [← hvw] at hRepN hStpN
  clear hS6 hS7 hSB hST y0 y1 y2 y3 y4 y5 f0 f1 f2 f3 f4 f5 hbdw g1 G0 G1 G2 G3 G4 G WS HWc Hi0 hne i0 Wc ι
  obtain ⟨X2, hX2⟩ : ∃ X2, X2 = XNew X vr2 := ⟨_, rfl⟩
  rw [← hX2] at hRepN hStpN
  clear hX2
  have hStJ : Stp b0 X wr X2 wj := (Stp.of (hBx.trans (hBB.mono hBx.size)) (Nat.le_trans HBD.out (Nat.le_of_lt (heapLtM HRP.out.1)))).trans hStpN
  have hXj : wj.heap[wr.heap.size]? = some (.cells #[.int .i64 s, .int .i64 s, .int .i64 1, .int .i64 0, .slice (some ⟨b3, o3, none⟩) 1 c3, .slice (some ⟨b4, o4, none⟩) 1 c4] 29) := (hStpN.kp _ (Nat.lt_of_lt_of_le (heapLtM HXx.out) hBB.size) (fun h => by have := HRP.out.2.2.2.1 _ h; omega)).trans ((hBB.block _ (heapLtM HXx.out)).trans HXx.out)
  have HRJ := hid hRepN
  have HSJ := hid hStJ
  clear HQ HNO HB0 HRep HGR HTR hF6 hB6 hB6w hk6 hF7 hB7 hB7w hk7 hwB hB7B hBB hkB hRB hgr htr hF10 hX10 hXl10 hB10 hk10 hkT hbd10 hvw
  clear hRepN hStpN x0 x1 x2 x3 x4 x5 e0 e1 e2 e3 e4 hbdl hebl hBx HXx hStJ
  have hbwj : Below w.heap.size w wj := HBW.out.trans (HSJ.out.bl.mono HW3.out)
  have hszj := hbwj.size
  obtain ⟨q0, q1, q2, q3, q4, q5⟩ := six9 hXj
  obtain ⟨k0, k1, k2⟩ := Q4.out
  replace k0 := (hbwj.cell (p := ⟨b4, o4, none⟩) K4.out.1).trans k0
  replace k1 := (hbwj.cell (p := ⟨b4, o4 + 1, none⟩) K4.out.1).trans k1
  replace k2 := (hbwj.cell (p := ⟨b4, o4 + 2, none⟩) K4.out.1).trans k2
  have hbl : b4 < wj.heap.size := Nat.lt_of_lt_of_le K4.out.1 hszj
  have hxl := heapLtM hXj
  clear hXj hbwj
  go_wp2_with fail
  rw [rounds_succ]
  go_wp2_with fail
  refine wp_loop_rounds 2 ?_
  rw [rounds_succ]
  go_wp2_with fail
  obtain ⟨wy, hwy⟩ : ∃ wy, wy = wj.alloc (.cells #[.int .i64 0, .slice Ag4 0 cg4, .slice At4 0 ct4] 42) := ⟨_, rfl⟩
  rw [← hwy]
  have hBx : Below wj.heap.size wj wy := by rw [hwy]; exact (Below.refl _ wj).alloc (Nat.le_refl _) _
  have hEB : wy.heap[wj.heap.size]? = some (.cells #[.int .i64 0, .slice Ag4 0 cg4, .slice At4 0 ct4] 42) := by rw [hwy]; exact heap_alloc_new wj _
  clear hwy q0 q1 q2 q3 q4 q5 hxl k0 k1 k2 hbl
  have hXEB : ¬ X2 wj.heap.size := fun h => by have := HRJ.out.2.2.2.1 _ h; omega
  have hRep := HRJ.out.later hBx
  have hBWx : Below w.heap.size w wy := (HBW.out.trans (HSJ.out.bl.mono HW3.out)).trans (hBx.mono hszj)
  have HGR : Hid ((listR spansR).rel wy.drew (upto wy.drew.heap.size) [.slice Ag4 0 cg4] []) := hid ((listR spansR).mono (fun p hp => hBWx.cell hp) (fun _ h => Nat.lt_of_lt_of_le h hBWx.size) K4.out.2.1)
  have HTR : Hid ((listR termR).rel wy (upto wy.heap.size) [.slice At4 0 ct4] []) := hid ((listR termR).mono (fun p hp => hBWx.cell hp) (fun _ h => Nat.lt_of_lt_of_le h hBWx.size) K4.out.2.2)
  have HQ : Hid (∀ q, (q = bd ∨ q = wj.heap.size) → q < wy.heap.size) := hid (fun q hq => hq.elim (fun h => h ▸ heapLtM hRep.1) (fun h => h ▸ heapLtM hEB))
  have HNO : Hid (∀ q, (q = bd ∨ q = wj.heap.size) → vn.ownBlock ≠ some q) := hid (fun q hq he => hq.elim (fun h => Tag.ne (hRep.2.2.1.tag q he) (h ▸ hRep.tagd) (by decide) rfl) (fun h => hXEB (h ▸ hRep.2.2.1.2 q he)))
  have HB0 : Hid (b0 ≤ wy.heap.size) := hid (Nat.le_trans HBD.out (Nat.le_of_lt (heapLtM hRep.1)))
  have HRep := hid hRep
  obtain ⟨x0, x1, x2, x3, x4, x5⟩ := hRep.six
  obtain ⟨e0, e1, e2⟩ := three hEB
  have hbdl := heapLtM hRep.1
  have hebl := heapLtM hEB
  clear hEB hRep hBWx hXEB
  obtain ⟨ι, Wc, ⟨i0, hi0'⟩, hWc, Wsur⟩ := held_class wy.drew (fun q => q = bd ∨ q = wj.heap.size)
  have hne : Nonempty ι := ⟨i0⟩
  have WS := hid Wsur; clear Wsur
  have HWc := hid hWc; clear hWc
  have Hi0 := hid hi0'; clear hi0'
  have g1 : ∀ i, (Wc i).cell? ⟨bd, 5, none⟩ = some vn := fun i => (World.cell?_of_block (a := ⟨bd, 5, none⟩) (HWc.out i bd (.inl rfl))).trans x5
  have G : ∀ i, (Wc i).cell? ⟨wj.heap.size, 0, none⟩ = some (.int .i64 0) ∧ (Wc i).cell? ⟨wj.heap.size, 1, none⟩ = some (.slice Ag4 0 cg4) ∧ (Wc i).cell? ⟨wj.heap.size, 2, none⟩ = some (.slice At4 0 ct4) := fun i =>
    ⟨(World.cell?_of_block (a := ⟨wj.heap.size, 0, none⟩) (HWc.out i _ (.inr rfl))).trans e0, (World.cell?_of_block (a := ⟨wj.heap.size, 1, none⟩) (HWc.out i _ (.inr rfl))).trans e1, (World.cell?_of_block (a := ⟨wj.heap.size, 2, none⟩) (HWc.out i _ (.inr rfl))).trans e2⟩
  have G0 := fun i => (G i).1
  have G1 := fun i => (G i).2.1
  have G2 := fun i => (G i).2.2
  refine region_anyL (S := fun w' => ∃ i, w' = Wc i) (last := 16) (by kernel_rfl) ?_
  refine anyL_seg 0 8 (by kernel_rfl) (fun _ _ _ _ _ h => h) ⟨i0, Hi0.out.symm⟩ (f := 9) rfl (by kernel_rfl) (by kernel_rfl) ?_
  simp only [List.drop_zero, List.take_succ_cons, List.take_zero]
  repeat go_big_quiet_step (fail)
  refine wpQuiet_nil ?_
  refine anyL_seg 9 2 (by kernel_rfl) (fun _ _ _ _ _ h => h) ⟨i0, Hi0.out.symm⟩ (f := 7) rfl (by kernel_rfl) (by kernel_rfl) ?_
  simp only [List.drop_succ_cons, List.drop_zero, List.take_succ_cons, List.take_zero]
  repeat go_big_quiet_step (fail)
  refine wpQuiet_nil ?_
  refine anyL_act (i := 8) (by kernel_rfl) rfl rfl ?_
  intro K hK
  go_wp2_with fail
  refine (HCo.out [] _ wy.drew HGR.out (by simp) (by simp)).mono ?_
  rintro e w6 ⟨u6, rfl, hF6, hB6⟩
  obtain ⟨A6, c6, h6⟩ := hF6.len
  simp only [List.length_nil] at h6
  subst h6
  have hB6w : Below wy.heap.size wy w6 := ⟨hB6.os, hB6.tape, hB6.output, hB6.size, hB6.block⟩
  have hk6 : ∀ q, (q = bd ∨ q = wj.heap.size) → w6.heap[q]? = wy.drew.heap[q]? := fun q hq => hB6w.block q (HQ.out q hq)
  have hS6 : ∃ i, w6 = Wc i := WS.out _ (fun q hq => hk6 q hq)
  go_wp2_with fail
  refine hK.out _ _ (fun _ => hS6) ?_
  clear hK K
  refine anyL_act (i := 11) (by kernel_rfl) rfl rfl ?_
  intro K hK
  go_wp2_with fail
  refine (HTe.out [] _ w6 ((listR termR).mono (fun p hp => hB6w.cell hp) (fun q hq => Nat.lt_of_lt_of_le hq hB6w.size) HTR.out) (by simp) (by simp)).mono ?_
  rintro e w7 ⟨u7, rfl, hF7, hB7⟩
  obtain ⟨A7, c7, h7⟩ := hF7.len
  simp only [List.length_nil] at h7
  subst h7
  have hB7w : Below wy.heap.size wy w7 := hB6w.trans (hB7.mono hB6w.size)
  have hk7 : ∀ q, (q = bd ∨ q = wj.heap.size) → w7.heap[q]? = wy.drew.heap[q]? := fun q hq => hB7w.block q (HQ.out q hq)
  have hS7 : ∃ i, w7 = Wc i := WS.out _ (fun q hq => hk7 q hq)
  go_wp2_with fail
  refine hK.out _ _ (fun _ => hS7) ?_
  clear hK K
  refine anyL_seg 12 1 (by kernel_rfl) (fun _ _ _ _ _ h => h) hS7 (f := 4) rfl (by kernel_rfl) (by kernel_rfl) ?_
  simp only [List.drop_succ_cons, List.drop_zero, List.take_succ_cons, List.take_zero]
  repeat go_big_quiet_step (fail)
  refine wpQuiet_nil ?_
  refine anyL_act (i := 13) (by kernel_rfl) rfl rfl ?_
  intro K hK
  go_wp2_with fail
  obtain ⟨wB, hwB⟩ : ∃ wB, wB = w7.alloc (.cells #[.int .i64 2, .slice A6 0 c6, .slice A7 0 c7] 42) := ⟨_, rfl⟩
  rw [← hwB]
  have hB7B : Below w7.heap.size w7 wB := by rw [hwB]; exact (Below.refl _ w7).alloc (Nat.le_refl _) _
  have hBB : Below wy.heap.size wy wB := hB7w.trans (hB7B.mono hB7w.size)
  have hkB : ∀ q, (q = bd ∨ q = wj.heap.size) → wB.heap[q]? = wy.drew.heap[q]? := fun q hq => hBB.block q (HQ.out q hq)
  have hSB : ∃ i, wB = Wc i := WS.out _ (fun q hq => hkB q hq)
  refine hK.out _ _ (fun _ => hSB) ?_
  clear hK K
  refine anyL_act (i := 14) (by kernel_rfl) rfl rfl ?_
  intro K hK
  have hRB := HRep.out.later hBB
  have hgr : (listR spansR).rel wB (ElX wB b0 X2) [.slice A6 0 c6] [] := rel_elx (rel_fresh (hF6.rel (Nat.le_refl _)) (hB7.trans (hB7B.mono hB7.size))) HRep.out.2.2.2.1 HB0.out
  have htr : (listR termR).rel wB (ElX wB b0 X2) [.slice A7 0 c7] [] := rel_elx (rel_fresh (rel_low (hF7.rel (Nat.le_refl _)) hB6w.size) hB7B) HRep.out.2.2.2.1 HB0.out
  refine act_append_fx (r := finalR) (X := X2) (b0 := b0) (v := vn) (xs := [⟨1, [], []⟩]) (w := wB) _ _ 27 (by rfl) infF _ 56 Try.underlying27 hf0 hfz0 hfz1 hfz2 rfl (by decide) (by rfl) hRB.2.2.1 hRB.2.2.2.1 (Nat.le_trans HB0.out hBB.size) ⟨w7.heap.size, 0, none⟩ 1 ⟨2, [], []⟩ [.int .i64 2, .slice A6 0 c6, .slice A7 0 c7] (by rfl) ⟨_, _, rfl, (okI (by omega) : I64 2), hgr, htr⟩
    (by rw [hwB]; exact news_at (w := w7) (cs := #[_, _, _]) rfl) (by simp [Value.oneCell']) (by simp [maxLen]) (by simp) ?_
  intro v' w10 hF10 hX10 hXl10 hB10 hk10
  obtain ⟨Aw, Lw, cw, rfl⟩ : ∃ A n c, v' = Value.slice A n c := (hF10.len).elim fun A h => h.elim fun c h => ⟨A, _, c, h⟩
  have hkT : ∀ q, (q = bd ∨ q = wj.heap.size) → w10.heap[q]? = wy.drew.heap[q]? := fun q hq => (hk10 q (Nat.lt_of_lt_of_le (HQ.out q hq) hBB.size) (HNO.out q hq)).trans (hkB q hq)
  have hST : ∃ i, w10 = Wc i := WS.out _ (fun q hq => hkT q hq)
  refine hK.out _ _ (fun _ => hST) ?_
  clear hK K
  go_simp
  refine anyL_seg 15 1 (by kernel_rfl) (fun _ _ _ _ _ h => h) hST (f := 1) rfl (by kernel_rfl) (by kernel_rfl) ?_
  simp only [List.drop_succ_cons, List.drop_zero, List.take_succ_cons, List.take_zero]
  repeat go_big_quiet_step (fail)
  refine wpQuiet_nil ?_
  obtain ⟨hRepN, hStpN, hbd10⟩ := hRB.pushF HBD.out hF10 hX10 hXl10 hB10 hk10
  obtain ⟨y0, y1, y2, y3, y4, y5⟩ := six9 (W := w10) (b := bd) (x0 := .int .i64 s) (x1 := .int .i64 s) (x2 := .int .i64 3) (x3 := .int .i64 0) (x4 := vr2) (x5 := vn) (t := 29) hbd10
  obtain ⟨f0, f1, f2, f3, f4, f5⟩ := fro6 (W := w10) (b := bd) (x0 := .int .i64 s) (x1 := .int .i64 s) (x2 := .int .i64 3) (x3 := .int .i64 0) (x4 := vr2) (x5 := vn) (t := 29) hbd10
  have hbdw := heapLtM hbd10
  refine anyL_act (i := 16) (by kernel_rfl) rfl rfl ?_
  intro K hK
  go_wp2_with fail
  refine hK.out _ _ (fun h => absurd rfl h) ?_
  clear hK K
  refine anyL_done (by kernel_rfl) ?_ 0
  obtain ⟨wn, hwj⟩ : ∃ wn, wn = w10.setCell ⟨bd, 5, none⟩ (.slice Aw Lw cw) := ⟨_, rfl⟩
  rw [← hwj] at hRepN hStpN
  rw [← hwj]
  clear hwj
  obtain ⟨vn2, hvw⟩ : ∃ v, v = Value.slice Aw Lw cw := ⟨_, rfl⟩
  rw [← hvw] at hRepN hStpN
  clear hS6 hS7 hSB hST y0 y1 y2 y3 y4 y5 f0 f1 f2 f3 f4 f5 hbdw g1 G0 G1 G2 G WS HWc Hi0 hne i0 Wc ι
  obtain ⟨X3, hX3⟩ : ∃ X3, X3 = XNew X2 vn2 := ⟨_, rfl⟩
  rw [← hX3] at hRepN hStpN
  clear hX3
  have hStN : Stp b0 X wr X3 wn := HSJ.out.trans ((Stp.of (hBx.trans (hBB.mono hBx.size)) (Nat.le_trans HBD.out (Nat.le_of_lt (heapLtM HRJ.out.1)))).trans hStpN)
  have HRN := hid hRepN
  have HA' := hid ((hStN.bl.block _ (by have := H3.out; omega)).trans HA.out)
  have HZ' := hid ((hStN.bl.block _ (by have := H3.out; omega)).trans HZ.out)
  have HBW' := hid (HBW.out.trans (hStN.bl.mono HW3.out))
  clear HQ HNO HB0 HRep HGR HTR hF6 hB6 hB6w hk6 hF7 hB7 hB7w hk7 hwB hB7B hBB hkB hRB hgr htr hF10 hX10 hXl10 hB10 hk10 hkT hbd10 hvw
  clear hRepN hStpN x0 x1 x2 x3 x4 x5 e0 e1 e2 hbdl hebl hBx hStN HSJ HRJ HA HZ HBW HRP hszr hszj
  go_wp2_with fail
  rw [rounds_succ]
  go_wp2_with fail
  obtain ⟨wr, hwr⟩ : ∃ w', w' = wn := ⟨_, rfl⟩
  subst hwr
  have HRP := HRN
  have HA := HA'
  have HZ := HZ'
  have HBW := HBW'
  clear HRN HA' HZ' HBW'
  obtain ⟨X, hX⟩ : ∃ Y, Y = X3 := ⟨_, rfl⟩
  subst hX
  obtain ⟨vr, hvr⟩ : ∃ Y, Y = vr2 := ⟨_, rfl⟩
  subst hvr
  obtain ⟨vn, hvn⟩ : ∃ Y, Y = vn2 := ⟨_, rfl⟩
  subst hvn
  obtain ⟨Ar, nr, cr, rfl⟩ : ∃ A n c, vr = Value.slice A n c := (HRP.out.2.1.len).elim fun A h => h.elim fun c h => ⟨A, _, c, h⟩
  obtain ⟨Af, nf, cf, rfl⟩ : ∃ A n c, vn = Value.slice A n c := (HRP.out.2.2.1.len).elim fun A h => h.elim fun c h => ⟨A, _, c, h⟩
  obtain ⟨y0, y1, y2, y3, y4, y5⟩ := HRP.out.six
  obtain ⟨z0, z1, z2, z3, z4, z5⟩ := six9 HZ.out
  obtain ⟨f0, f1, f2, f3, f4, f5⟩ := fro6 HZ.out
  have hZl := heapLtM HZ.out
  have hbdl := heapLtM HRP.out.1
  rw [rounds_succ]
  go_wp2_with fail
  obtain ⟨ws, hws⟩ : ∃ ws, ws = setS wr (w.heap.size + 1 + 1) (.int .i64 s) (.int .i64 s) (.int .i64 3) (.int .i64 0) (.slice Ar nr cr) (.slice Af nf cf) := ⟨_, rfl⟩
  have hXs := setS_heap HZ.out (.int .i64 s) (.int .i64 s) (.int .i64 3) (.int .i64 0) (.slice Ar nr cr) (.slice Af nf cf)
  rw [← hws] at hXs
  have hBs : Below w.heap.size w ws := by rw [hws]; exact HBW.out.set6 (by omega) _ _ _ _ _ _
  have hss : ws.heap.size = wr.heap.size := by rw [hws]; exact setS_size ..
  have hXq : ∀ q, b0 ≤ q → ws.heap[q]? = wr.heap[q]? := fun q hq => by rw [hws]; exact setS_other _ _ _ _ _ _ _ _ _ (by have := H3.out; omega)
  unfold setS at hws
  rw [← hws]
  clear hws z0 z1 z2 z3 z4 z5 f0 f1 f2 f3 f4 f5 y0 y1 y2 y3 y4 y5
  obtain ⟨y0, y1, y2, y3, y4, y5⟩ := six9 hXs
  have hFXr : FX 50 ruleR ws b0 X (.slice Ar nr cr) (joinSame s).rules := HRP.out.2.1.keep (Nat.le_of_eq hss.symm) (fun _ h => h) (fun _ h _ => h) (fun q hq => hXq q (HRP.out.2.1.own_ge q hq)) (fun q hq _ _ => hXq q hq)
  have hFXf : FX 42 finalR ws b0 X (.slice Af nf cf) (joinSame s).finals := HRP.out.2.2.1.keep (Nat.le_of_eq hss.symm) (fun _ h => h) (fun _ h _ => h) (fun q hq => hXq q (HRP.out.2.2.1.own_ge q hq)) (fun q hq _ _ => hXq q hq)
  exact bodyPost_ret (v := .tuple #[.agg #[.int .i64 s, .int .i64 s, .int .i64 3, .int .i64 0, .slice Ar nr cr, .slice Af nf cf], .int .i64 0]) (by simp [results, Try.results9, go_sem, y0, y1, y2, y3, y4, y5]) rfl ⟨_, _, rfl, rel_low hFXr.rel HW3.out, rel_low hFXf.rel HW3.out, hBs⟩

end Go.Proofs.Ytmkmikacfilbpaa
