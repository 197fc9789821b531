/-
  The document's example of what repairs: bytes of which two are no scalar's.
-/
import Derived.Test.YthfcbbdghggefaaGreatRCdK
import Derived.Test.YthfcbbdghggefaaGreatRCdE
import Derived.Test.YthfcbbdghggefaaGreatRMkK
namespace Go.Proofs.YthfcbbdghggefaaGreat
open Go.Proofs Go.Um Go.RowKit
theorem low' {w w1 w2 : World} (h : Below w.heap.size w w1) (h2 : Below w1.heap.size w1 w2) : Below w.heap.size w w2 := h.trans (h2.mono h.size)
theorem rel_up {α : Type} {r : RepOf α} {w : World} {b : Nat} {cs : List Value} {x : α} (h : r.rel w (Fresh b w) cs x) : r.rel w (upto w.heap.size) cs x := r.mono (fun _ _ => rfl) (fun _ hb => hb.2) h
theorem repair_post (w : World) : Calls Tryz.prog 19 #[] w fun e w' => ∃ vr vf, e = .returned (.agg #[.int .i64 1, .int .i64 2, .int .i64 1, .int .i64 0, vr, vf]) ∧ (listR ruleR).rel w' (Fresh w.heap.size w') [vr] repairD.rules ∧ (listR finalR).rel w' (Fresh w.heap.size w') [vf] repairD.finals ∧ Below w.heap.size w w' := (Repairer_calls w).mono fun _ _ h => h.post
/-- what repairs, run at any bytes. -/
theorem repair_out {x w0 : List Int} {b : Bool} (hx : byteL x) (hr : Rep x w0 b) (hl : x.length ≤ 1024) (most : Int) (hm : 1 ≤ most ∧ most ≤ 100000) (v u vx : Value) (w : World) (hv : (listR ruleR).rel w (upto w.heap.size) [v] repairD.rules) (hu : (listR finalR).rel w (upto w.heap.size) [u] repairD.finals) (hw : wordR.rel w (upto w.heap.size) [vx] x) :
    Calls Tryz.prog 16 #[.agg #[.int .i64 1, .int .i64 2, .int .i64 1, .int .i64 0, v, u], vx, .int .i64 most] w (Answers w [w0]) :=
  (Outputs_calls repairD x most v u vx w hv hu hw hm.2).mono fun _ _ h => out_one (d := repairD) (sole_outer sole_repair) where_repair hl (bytes_dom hx) hm.1 (repair_run hx hr) h
theorem rep_awake : Rep [226, 130, 98] [65533, 98] false := by
  have h1 : scanF [226, 130, 98] = (65533, 2, false) := by decide +kernel
  have h2 : scanF [98] = (98, 1, true) := by decide +kernel
  have h3 : Rep [98] [98] true := by
    have := Rep.cons (y := [98]) (w := []) (h := true) (by simp) (by rw [h2]; exact .nil)
    rw [h2] at this
    exact this
  have := Rep.cons (y := [226, 130, 98]) (w := [98]) (h := true) (by simp) (by rw [h1]; exact h3)
  rw [h1] at this
  exact this
set_option maxHeartbeats 1000000 in
set_option maxRecDepth 100000 in
theorem cawake_calls (w : World) : Calls Tryz.prog 15 #[] w fun e w' => e = .returned (.bool true) ∧ Below w.heap.size w w' := by
  have HR := hid fun W => repair_post W
  have HO := hid fun v u vx W hv hu hw => repair_out (x := [226, 130, 98]) (by intro z hz; simp at hz; omega) rep_awake (by simp) 2 ⟨by omega, by omega⟩ v u vx W hv hu hw
  go_enter Tryz.func15, Tryz.ntmps15
  go_wp2_with fail
  refine (HR.out _).mono ?_
  rintro e w1 ⟨v1, u1, rfl, hv1, hu1, hB1⟩
  have hA : Below w1.heap.size w1 (w1.alloc (.cells #[.int .i32 226, .int .i32 130, .int .i32 98] 21)) := (Below.refl _ w1).alloc (Nat.le_refl _) _
  have hV := (listR ruleR).below (rel_up hv1) hA hA.size
  have hU := (listR finalR).below (rel_up hu1) hA hA.size
  have hX : OwnW 21 (w1.alloc (.cells #[.int .i32 226, .int .i32 130, .int .i32 98] 21)) w1.heap.size (.slice (some ⟨w1.heap.size, 0, none⟩) 3 3) [226, 130, 98] :=
    ⟨World.ownsRow_lit w1 #[.int .i32 226, .int .i32 130, .int .i32 98] 3 (Nat.le_refl _) (by decide) rfl, fun z hz => by simp at hz; rcases hz with rfl | rfl | rfl <;> exact ⟨by decide, by decide⟩⟩
  have hW := rel_up (hX.fresh (Nat.le_refl _))
  have HV := hid hV
  have HU := hid hU
  have HW := hid hW.1
  have HB1 := hid hB1
  clear hv1 hu1 hB1 hV hU hX hW hA
  go_wp2_with fail
  refine (HO.out _ _ _ _ HV.out HU.out HW.out).mono ?_
  rintro e w2 ⟨hB2, A, c, rfl, hr⟩
  obtain ⟨G, O, y, rfl, hG, hy, hcy⟩ := list_at1 (i := 0) (x := [65533, 98]) rfl hr rfl
  obtain ⟨A2, c2, rfl, hc2, hm2⟩ := list_form hy.1
  obtain ⟨G2, O2, rfl, hG2, e0, _⟩ := rune_at hy.1 (i := 0) (x := 65533) rfl
  obtain ⟨G3, O3, he, hG3, e1, _⟩ := rune_at hy.1 (i := 1) (x := 98) rfl
  injection he with he
  injection he with q1 q2
  subst q1 q2
  have HBf := hid (HB1.out.trans ((((Below.refl _ w1).alloc (Nat.le_refl _) _).trans (hB2.mono (by simp))).mono HB1.out.size))
  unfold maxLen at hm2
  clear hB2 hr hy
  simp only [List.length_cons, List.length_nil, Nat.zero_add, Nat.reduceAdd, Nat.add_zero] at hcy e0 e1 hc2 ⊢
  go_wp2_with fail
  go_ret
  exact ⟨rfl, HBf.out⟩
end Go.Proofs.YthfcbbdghggefaaGreat
