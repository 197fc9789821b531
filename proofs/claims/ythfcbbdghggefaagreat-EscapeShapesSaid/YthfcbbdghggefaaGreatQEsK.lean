/-
  The law EscapeHtml: its walk.
-/
import Derived.Test.YthfcbbdghggefaaGreatQEsW
import Derived.Test.YthfcbbdghggefaaGreatQEsI
import Derived.Test.YthfcbbdghggefaaGreatQEsJ
import Derived.Test.YthfcbbdghggefaaGreatPc
namespace Go.Proofs.YthfcbbdghggefaaGreat
open Go.RowKit Go.Um Go.Proofs
set_option maxHeartbeats 1000000 in
set_option maxRecDepth 100000 in
theorem r2fits_calls (x : List Int) (v : Value) (w : World) (h : wordR.rel w (upto w.heap.size) [v] x) :
    Calls Tryz.prog 24 #[.int .i64 2, v] w fun e w' => e = .returned (.bool (decide (∀ z ∈ x, scalP z))) ∧ w' = w := by
  obtain ⟨A, c, rfl, hc, hm⟩ := list_form h
  unfold maxLen at hm
  have HA := hid h
  have HI := hid fun z W => rin_calls z W
  obtain ⟨fb, hfb⟩ : ∃ fb, fb = decide (∀ z ∈ x, scalP z) := ⟨_, rfl⟩
  have HF := hid hfb
  rw [← hfb]
  clear h hfb
  go_enter Tryz.func24, Tryz.ntmps24
  go_wp2_with fail
  go_loopw [5] (fun vi wr => ∃ k : Nat, k ≤ x.length ∧ vi = .int .i64 k ∧ wr = w ∧ ∀ z ∈ x.take k, scalP z) (fun vi _ => x.length - (intOf vi).toNat)
  case atStart => exact ⟨0, Nat.zero_le _, rfl, rfl, fun z hz => by simp at hz⟩
  case round =>
    obtain ⟨k, hk, rfl, rfl, hz⟩ := hrel
    have HZ := hid hz
    clear hz
    by_cases hlt : k < x.length
    · obtain ⟨z, hz⟩ := at_lt hlt
      have hlt' : (k : Int) < x.length := by omega
      obtain ⟨G, O, rfl, hG, c0, _⟩ := rune_at HA.out hz
      have HX := hid hz
      have HIZ := hid (HI.out z)
      clear hz
      by_cases hs : scalP z
      · rw [decide_eq_true hs] at HIZ
        have HS := hid hs
        clear hs
        go_wp2_with fail
        refine (HIZ.out _).mono ?_
        rintro e w1 ⟨rfl, rfl⟩
        have HN : Hid (∃ k1 : Nat, k1 ≤ x.length ∧ Value.int .i64 ((k : Int) + 1) = .int .i64 k1 ∧ ∀ z ∈ x.take k1, scalP z) := hid ⟨k + 1, by omega, by push_cast; rfl, fun y hy => by
          rw [List.take_add_one, HX.out] at hy
          rcases List.mem_append.1 hy with hy | hy
          · exact HZ.out y hy
          · simp at hy
            subst hy
            exact HS.out⟩
        go_wp2_with fail
        refine ⟨by simpa using HN.out, ?_⟩
        simp [intOf]
        omega
      · rw [decide_eq_false hs] at HIZ
        have HE : Hid (fb = false) := hid (by rw [HF.out]; exact decide_eq_false fun h => hs (h z (List.mem_of_getElem? HX.out)))
        clear hs
        go_wp2_with fail
        refine (HIZ.out _).mono ?_
        rintro e w1 ⟨rfl, rfl⟩
        go_wp2_with fail
        go_ret
        exact ⟨by rw [HE.out]; rfl, rfl⟩
    · have hke : k = x.length := by omega
      subst hke
      have HE : Hid (fb = true) := hid (by rw [HF.out]; have := HZ.out; rw [List.take_length] at this; exact decide_eq_true this)
      have hlt' : ¬ (x.length : Int) < x.length := by omega
      clear hlt
      go_wp2_with fail
      go_ret
      exact ⟨by rw [HE.out]; rfl, rfl⟩
theorem html_post (w : World) : Calls Tryz.prog 26 #[] w fun e w' => ∃ vr vf, e = .returned (.agg #[.int .i64 2, .int .i64 2, .int .i64 1, .int .i64 0, vr, vf]) ∧ (listR ruleR).rel w' (Fresh w.heap.size w') [vr] htmlD.rules ∧ (listR finalR).rel w' (Fresh w.heap.size w') [vf] htmlD.finals ∧ Below w.heap.size w w' := Html_calls w
/-- what escapes scalars, run at scalars, and at others. -/
theorem html_out {x : List Int} (hx : ∀ z ∈ x, scalP z) (hl : x.length ≤ 1024) (most : Int) (hm : 1 ≤ most ∧ most ≤ 100000) (v u vx : Value) (w : World) (hv : (listR ruleR).rel w (upto w.heap.size) [v] htmlD.rules) (hu : (listR finalR).rel w (upto w.heap.size) [u] htmlD.finals) (hw : wordR.rel w (upto w.heap.size) [vx] x) :
    Calls Tryz.prog 16 #[.agg #[.int .i64 2, .int .i64 2, .int .i64 1, .int .i64 0, v, u], vx, .int .i64 most] w (Answers w [htmlF x]) :=
  (Outputs_calls htmlD x most v u vx w hv hu hw hm.2).mono fun _ _ h => out_one (d := htmlD) sole_html where_html hl (scal_dom.2 hx) hm.1 (html_run hx) h
end Go.Proofs.YthfcbbdghggefaaGreat
