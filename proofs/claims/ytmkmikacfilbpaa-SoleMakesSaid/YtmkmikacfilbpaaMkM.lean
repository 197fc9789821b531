/-
  What decodes, repairs and encodes is sole, and what writes what it reads; joined with itself it is not: the statement's own code.
-/
import Derived.Test.YtmkmikacfilbpaaKCodecP
import Derived.Test.YtmkmikacfilbpaaMkL
namespace Go.Proofs.Ytmkmikacfilbpaa
open Go.RowKit Go.Um Go.Proofs
theorem low' {w w1 w2 : World} (h : Below w.heap.size w w1) (h2 : Below w1.heap.size w1 w2) : Below w.heap.size w w2 := h.trans (h2.mono h.size)
theorem rel_up {α : Type} {r : RepOf α} {w : World} {b : Nat} {cs : List Value} {x : α} (h : r.rel w (Fresh b w) cs x) : r.rel w (upto w.heap.size) cs x := r.mono (fun _ _ => rfl) (fun _ hb => hb.2) h
theorem strict_post (w : World) : Calls Try.prog 5 #[] w fun e w' => ∃ vr vf, e = .returned (.agg #[.int .i64 1, .int .i64 2, .int .i64 1, .int .i64 0, vr, vf]) ∧ (listR ruleR).rel w' (Fresh w.heap.size w') [vr] strictD.rules ∧ (listR finalR).rel w' (Fresh w.heap.size w') [vf] strictD.finals ∧ Below w.heap.size w w' := (Strict_calls w).mono fun _ _ h => h.post
theorem repair_post (w : World) : Calls Try.prog 6 #[] w fun e w' => ∃ vr vf, e = .returned (.agg #[.int .i64 1, .int .i64 2, .int .i64 1, .int .i64 0, vr, vf]) ∧ (listR ruleR).rel w' (Fresh w.heap.size w') [vr] repairD.rules ∧ (listR finalR).rel w' (Fresh w.heap.size w') [vf] repairD.finals ∧ Below w.heap.size w w' := (Repairer_calls w).mono fun _ _ h => h.post
theorem encode_post (w : World) : Calls Try.prog 7 #[] w fun e w' => ∃ vr vf, e = .returned (.agg #[.int .i64 2, .int .i64 1, .int .i64 1, .int .i64 0, vr, vf]) ∧ (listR ruleR).rel w' (Fresh w.heap.size w') [vr] encodeD.rules ∧ (listR finalR).rel w' (Fresh w.heap.size w') [vf] encodeD.finals ∧ Below w.heap.size w w' := (Encoder_calls w).mono fun _ _ h => h.post
theorem same_post (s : Int) (w : World) : Calls Try.prog 8 #[.int .i64 s] w fun e w' => ∃ vr vf, e = .returned (.agg #[.int .i64 s, .int .i64 s, .int .i64 1, .int .i64 0, vr, vf]) ∧ (listR ruleR).rel w' (Fresh w.heap.size w') [vr] (sameD s).rules ∧ (listR finalR).rel w' (Fresh w.heap.size w') [vf] (sameD s).finals ∧ Below w.heap.size w w' := Same_calls s w
theorem sole_lit {D : Desc} {v u t : Value} {w : World} (h : soleS D = t) (hv : (listR ruleR).rel w (upto w.heap.size) [v] D.rules) (hu : (listR finalR).rel w (upto w.heap.size) [u] D.finals) :
    Calls Try.prog 4 #[.agg #[.int .i64 D.inn, .int .i64 D.out, .int .i64 D.states, .int .i64 D.start, v, u]] w fun e w' => e = .returned t ∧ Below w.heap.size w w' := by
  have h1 := Sole_calls D v u w hv hu
  rw [h] at h1
  exact h1
set_option maxHeartbeats 2000000 in
set_option maxRecDepth 100000 in
theorem makes1_calls (w : World) : Calls Try.prog 3 #[.int .i64 1] w fun e w' => e = .returned (.bool true) ∧ Below w.heap.size w w' := by
  have HS := hid fun W => strict_post W
  have HR := hid fun W => repair_post W
  have HE := hid fun W => encode_post W
  have HJ := hid fun W => same_post 1 W
  have HSS := hid fun v u W hv hu => sole_lit (D := strictD) (v := v) (u := u) (w := W) (t := .tuple #[.bool true, .int .i64 0]) sole_strict hv hu
  have HSR := hid fun v u W hv hu => sole_lit (D := repairD) (v := v) (u := u) (w := W) (t := .tuple #[.bool true, .int .i64 0]) sole_repair hv hu
  have HSE := hid fun v u W hv hu => sole_lit (D := encodeD) (v := v) (u := u) (w := W) (t := .tuple #[.bool true, .int .i64 0]) sole_encode hv hu
  have HSJ := hid fun v u W hv hu => sole_lit (D := sameD 1) (v := v) (u := u) (w := W) (t := .tuple #[.bool true, .int .i64 0]) sole_same1 hv hu
  have HA := hid fun W => awake_calls W
  go_enter Try.func3, Try.ntmps3
  go_wp2_with fail
  refine (HS.out _).mono ?_
  rintro e w1 ⟨v1, u1, rfl, hv1, hu1, hB1⟩
  have hC1 := hid (low' (Below.refl _ w) hB1)
  have hR1 := hid (rel_up hv1)
  have hF1 := hid (rel_up hu1)
  clear hv1 hu1 hB1
  go_wp2_with fail
  refine (HSS.out _ _ w1 hR1.out hF1.out).mono ?_
  rintro e w1s ⟨rfl, hB1s⟩
  have hC1s := hid (low' hC1.out hB1s)
  clear hB1s
  go_wp2_with fail
  refine (HR.out _).mono ?_
  rintro e w2 ⟨v2, u2, rfl, hv2, hu2, hB2⟩
  have hC2 := hid (low' hC1s.out hB2)
  have hR2 := hid (rel_up hv2)
  have hF2 := hid (rel_up hu2)
  clear hv2 hu2 hB2
  go_wp2_with fail
  refine (HSR.out _ _ w2 hR2.out hF2.out).mono ?_
  rintro e w2s ⟨rfl, hB2s⟩
  have hC2s := hid (low' hC2.out hB2s)
  clear hB2s
  go_wp2_with fail
  refine (HE.out _).mono ?_
  rintro e w3 ⟨v3, u3, rfl, hv3, hu3, hB3⟩
  have hC3 := hid (low' hC2s.out hB3)
  have hR3 := hid (rel_up hv3)
  have hF3 := hid (rel_up hu3)
  clear hv3 hu3 hB3
  go_wp2_with fail
  refine (HSE.out _ _ w3 hR3.out hF3.out).mono ?_
  rintro e w3s ⟨rfl, hB3s⟩
  have hC3s := hid (low' hC3.out hB3s)
  clear hB3s
  go_wp2_with fail
  refine (HJ.out _).mono ?_
  rintro e w4 ⟨v4, u4, rfl, hv4, hu4, hB4⟩
  have hC4 := hid (low' hC3s.out hB4)
  have hR4 := hid (rel_up hv4)
  have hF4 := hid (rel_up hu4)
  clear hv4 hu4 hB4
  go_wp2_with fail
  refine (HSJ.out _ _ w4 hR4.out hF4.out).mono ?_
  rintro e w4s ⟨rfl, hB4s⟩
  have hC4s := hid (low' hC4.out hB4s)
  clear hB4s
  go_wp2_with fail
  refine (HJ.out _).mono ?_
  rintro e w5 ⟨v5, u5, rfl, hv5, hu5, hB5⟩
  have hC5 := hid (low' hC4s.out hB5)
  have hR5 := hid (rel_up hv5)
  have hF5 := hid (rel_up hu5)
  clear hv5 hu5 hB5
  go_wp2_with fail
  refine (HJ.out _).mono ?_
  rintro e w6 ⟨v6, u6, rfl, hv6, hu6, hB6⟩
  have hC6 := hid (low' hC5.out hB6)
  have hR6 := hid (rel_up hv6)
  have hF6 := hid (rel_up hu6)
  have hR5' := hid ((listR ruleR).below hR5.out hB6 hB6.size)
  have hF5' := hid ((listR finalR).below hF5.out hB6 hB6.size)
  clear hv6 hu6 hB6
  go_wp2_with fail
  refine (Join_yes w6 (s := 1) (by omega) hR5'.out hF5'.out hR6.out hF6.out).mono ?_
  rintro e w7 ⟨v7, u7, rfl, hv7, hu7, hB7⟩
  have hC7 := hid (low' hC6.out hB7)
  have hR7 := hid (rel_up hv7)
  have hF7 := hid (rel_up hu7)
  obtain ⟨A7, n7, c7, rfl⟩ : ∃ A n c, v7 = Value.slice A n c := (list_form hv7).elim fun A h => h.elim fun c h => ⟨A, _, c, h.1⟩
  obtain ⟨B7, m7, d7, rfl⟩ : ∃ A n c, u7 = Value.slice A n c := (list_form hu7).elim fun A h => h.elim fun c h => ⟨A, _, c, h.1⟩
  clear hv7 hu7 hB7
  have HSK := hid fun v u W hv hu => sole_lit (D := joinSame 1) (v := v) (u := u) (w := W) (t := .tuple #[.bool false, .int .i64 0]) sole_join1 hv hu
  go_wp2_with fail
  obtain ⟨w8, hw8⟩ : ∃ w8, w8 = w7.alloc (.cells #[.int .i64 1, .int .i64 1, .int .i64 3, .int .i64 0, .slice A7 n7 c7, .slice B7 m7 d7] 29) := ⟨_, rfl⟩
  rw [← hw8]
  have hB8 : Below w7.heap.size w7 w8 := by rw [hw8]; exact (Below.refl _ w7).alloc (Nat.le_refl _) _
  clear hw8
  have hR8 := (listR ruleR).below hR7.out hB8 hB8.size
  have hF8 := (listR finalR).below hF7.out hB8 hB8.size
  refine (HSK.out _ _ w8 hR8 hF8).mono ?_
  rintro e w9 ⟨rfl, hB9⟩
  have hC9 := hid (low' (low' hC7.out hB8) hB9)
  clear hB8 hB9 hR8 hF8
  go_wp2_with fail
  refine (HA.out _).mono ?_
  rintro e wq ⟨rfl, hBq⟩
  have hCq := hid (low' hC9.out hBq)
  clear hBq
  go_wp2_with fail
  go_ret
  exact ⟨rfl, hCq.out⟩
set_option maxHeartbeats 2000000 in
set_option maxRecDepth 100000 in
theorem makes2_calls (w : World) : Calls Try.prog 3 #[.int .i64 2] w fun e w' => e = .returned (.bool true) ∧ Below w.heap.size w w' := by
  have HS := hid fun W => strict_post W
  have HR := hid fun W => repair_post W
  have HE := hid fun W => encode_post W
  have HJ := hid fun W => same_post 2 W
  have HSS := hid fun v u W hv hu => sole_lit (D := strictD) (v := v) (u := u) (w := W) (t := .tuple #[.bool true, .int .i64 0]) sole_strict hv hu
  have HSR := hid fun v u W hv hu => sole_lit (D := repairD) (v := v) (u := u) (w := W) (t := .tuple #[.bool true, .int .i64 0]) sole_repair hv hu
  have HSE := hid fun v u W hv hu => sole_lit (D := encodeD) (v := v) (u := u) (w := W) (t := .tuple #[.bool true, .int .i64 0]) sole_encode hv hu
  have HSJ := hid fun v u W hv hu => sole_lit (D := sameD 2) (v := v) (u := u) (w := W) (t := .tuple #[.bool true, .int .i64 0]) sole_same2 hv hu
  have HA := hid fun W => awake_calls W
  go_enter Try.func3, Try.ntmps3
  go_wp2_with fail
  refine (HS.out _).mono ?_
  rintro e w1 ⟨v1, u1, rfl, hv1, hu1, hB1⟩
  have hC1 := hid (low' (Below.refl _ w) hB1)
  have hR1 := hid (rel_up hv1)
  have hF1 := hid (rel_up hu1)
  clear hv1 hu1 hB1
  go_wp2_with fail
  refine (HSS.out _ _ w1 hR1.out hF1.out).mono ?_
  rintro e w1s ⟨rfl, hB1s⟩
  have hC1s := hid (low' hC1.out hB1s)
  clear hB1s
  go_wp2_with fail
  refine (HR.out _).mono ?_
  rintro e w2 ⟨v2, u2, rfl, hv2, hu2, hB2⟩
  have hC2 := hid (low' hC1s.out hB2)
  have hR2 := hid (rel_up hv2)
  have hF2 := hid (rel_up hu2)
  clear hv2 hu2 hB2
  go_wp2_with fail
  refine (HSR.out _ _ w2 hR2.out hF2.out).mono ?_
  rintro e w2s ⟨rfl, hB2s⟩
  have hC2s := hid (low' hC2.out hB2s)
  clear hB2s
  go_wp2_with fail
  refine (HE.out _).mono ?_
  rintro e w3 ⟨v3, u3, rfl, hv3, hu3, hB3⟩
  have hC3 := hid (low' hC2s.out hB3)
  have hR3 := hid (rel_up hv3)
  have hF3 := hid (rel_up hu3)
  clear hv3 hu3 hB3
  go_wp2_with fail
  refine (HSE.out _ _ w3 hR3.out hF3.out).mono ?_
  rintro e w3s ⟨rfl, hB3s⟩
  have hC3s := hid (low' hC3.out hB3s)
  clear hB3s
  go_wp2_with fail
  refine (HJ.out _).mono ?_
  rintro e w4 ⟨v4, u4, rfl, hv4, hu4, hB4⟩
  have hC4 := hid (low' hC3s.out hB4)
  have hR4 := hid (rel_up hv4)
  have hF4 := hid (rel_up hu4)
  clear hv4 hu4 hB4
  go_wp2_with fail
  refine (HSJ.out _ _ w4 hR4.out hF4.out).mono ?_
  rintro e w4s ⟨rfl, hB4s⟩
  have hC4s := hid (low' hC4.out hB4s)
  clear hB4s
  go_wp2_with fail
  refine (HJ.out _).mono ?_
  rintro e w5 ⟨v5, u5, rfl, hv5, hu5, hB5⟩
  have hC5 := hid (low' hC4s.out hB5)
  have hR5 := hid (rel_up hv5)
  have hF5 := hid (rel_up hu5)
  clear hv5 hu5 hB5
  go_wp2_with fail
  refine (HJ.out _).mono ?_
  rintro e w6 ⟨v6, u6, rfl, hv6, hu6, hB6⟩
  have hC6 := hid (low' hC5.out hB6)
  have hR6 := hid (rel_up hv6)
  have hF6 := hid (rel_up hu6)
  have hR5' := hid ((listR ruleR).below hR5.out hB6 hB6.size)
  have hF5' := hid ((listR finalR).below hF5.out hB6 hB6.size)
  clear hv6 hu6 hB6
  go_wp2_with fail
  refine (Join_yes w6 (s := 2) (by omega) hR5'.out hF5'.out hR6.out hF6.out).mono ?_
  rintro e w7 ⟨v7, u7, rfl, hv7, hu7, hB7⟩
  have hC7 := hid (low' hC6.out hB7)
  have hR7 := hid (rel_up hv7)
  have hF7 := hid (rel_up hu7)
  obtain ⟨A7, n7, c7, rfl⟩ : ∃ A n c, v7 = Value.slice A n c := (list_form hv7).elim fun A h => h.elim fun c h => ⟨A, _, c, h.1⟩
  obtain ⟨B7, m7, d7, rfl⟩ : ∃ A n c, u7 = Value.slice A n c := (list_form hu7).elim fun A h => h.elim fun c h => ⟨A, _, c, h.1⟩
  clear hv7 hu7 hB7
  have HSK := hid fun v u W hv hu => sole_lit (D := joinSame 2) (v := v) (u := u) (w := W) (t := .tuple #[.bool false, .int .i64 0]) sole_join2 hv hu
  go_wp2_with fail
  obtain ⟨w8, hw8⟩ : ∃ w8, w8 = w7.alloc (.cells #[.int .i64 2, .int .i64 2, .int .i64 3, .int .i64 0, .slice A7 n7 c7, .slice B7 m7 d7] 29) := ⟨_, rfl⟩
  rw [← hw8]
  have hB8 : Below w7.heap.size w7 w8 := by rw [hw8]; exact (Below.refl _ w7).alloc (Nat.le_refl _) _
  clear hw8
  have hR8 := (listR ruleR).below hR7.out hB8 hB8.size
  have hF8 := (listR finalR).below hF7.out hB8 hB8.size
  refine (HSK.out _ _ w8 hR8 hF8).mono ?_
  rintro e w9 ⟨rfl, hB9⟩
  have hC9 := hid (low' (low' hC7.out hB8) hB9)
  clear hB8 hB9 hR8 hF8
  go_wp2_with fail
  refine (HA.out _).mono ?_
  rintro e wq ⟨rfl, hBq⟩
  have hCq := hid (low' hC9.out hBq)
  clear hBq
  go_wp2_with fail
  go_ret
  exact ⟨rfl, hCq.out⟩
set_option maxHeartbeats 2000000 in
set_option maxRecDepth 100000 in
theorem makes0_calls (s : Int) (w : World) (h1 : s ≠ 1) (h2 : s ≠ 2) : Calls Try.prog 3 #[.int .i64 s] w fun e w' => e = .returned (.bool true) ∧ Below w.heap.size w w' := by
  have HS := hid fun W => strict_post W
  have HR := hid fun W => repair_post W
  have HE := hid fun W => encode_post W
  have HJ := hid fun W => same_post s W
  have HSS := hid fun v u W hv hu => sole_lit (D := strictD) (v := v) (u := u) (w := W) (t := .tuple #[.bool true, .int .i64 0]) sole_strict hv hu
  have HSR := hid fun v u W hv hu => sole_lit (D := repairD) (v := v) (u := u) (w := W) (t := .tuple #[.bool true, .int .i64 0]) sole_repair hv hu
  have HSE := hid fun v u W hv hu => sole_lit (D := encodeD) (v := v) (u := u) (w := W) (t := .tuple #[.bool true, .int .i64 0]) sole_encode hv hu
  have HSJ := hid fun v u W hv hu => sole_lit (D := sameD s) (v := v) (u := u) (w := W) (t := .tuple #[.bool false, .int .i64 2]) (sole_none h1 h2) hv hu
  have HA := hid fun W => awake_calls W
  have h1b : (s != 1) = true := by simpa using h1
  have h2b : (s != 2) = true := by simpa using h2
  go_enter Try.func3, Try.ntmps3
  go_wp2_with fail
  refine (HS.out _).mono ?_
  rintro e w1 ⟨v1, u1, rfl, hv1, hu1, hB1⟩
  have hC1 := hid (low' (Below.refl _ w) hB1)
  have hR1 := hid (rel_up hv1)
  have hF1 := hid (rel_up hu1)
  clear hv1 hu1 hB1
  go_wp2_with fail
  refine (HSS.out _ _ w1 hR1.out hF1.out).mono ?_
  rintro e w1s ⟨rfl, hB1s⟩
  have hC1s := hid (low' hC1.out hB1s)
  clear hB1s
  go_wp2_with fail
  refine (HR.out _).mono ?_
  rintro e w2 ⟨v2, u2, rfl, hv2, hu2, hB2⟩
  have hC2 := hid (low' hC1s.out hB2)
  have hR2 := hid (rel_up hv2)
  have hF2 := hid (rel_up hu2)
  clear hv2 hu2 hB2
  go_wp2_with fail
  refine (HSR.out _ _ w2 hR2.out hF2.out).mono ?_
  rintro e w2s ⟨rfl, hB2s⟩
  have hC2s := hid (low' hC2.out hB2s)
  clear hB2s
  go_wp2_with fail
  refine (HE.out _).mono ?_
  rintro e w3 ⟨v3, u3, rfl, hv3, hu3, hB3⟩
  have hC3 := hid (low' hC2s.out hB3)
  have hR3 := hid (rel_up hv3)
  have hF3 := hid (rel_up hu3)
  clear hv3 hu3 hB3
  go_wp2_with fail
  refine (HSE.out _ _ w3 hR3.out hF3.out).mono ?_
  rintro e w3s ⟨rfl, hB3s⟩
  have hC3s := hid (low' hC3.out hB3s)
  clear hB3s
  go_wp2_with fail
  refine (HJ.out _).mono ?_
  rintro e w4 ⟨v4, u4, rfl, hv4, hu4, hB4⟩
  have hC4 := hid (low' hC3s.out hB4)
  have hR4 := hid (rel_up hv4)
  have hF4 := hid (rel_up hu4)
  clear hv4 hu4 hB4
  go_wp2_with fail
  refine (HSJ.out _ _ w4 hR4.out hF4.out).mono ?_
  rintro e w4s ⟨rfl, hB4s⟩
  have hC4s := hid (low' hC4.out hB4s)
  clear hB4s
  go_wp2_with fail
  refine (HJ.out _).mono ?_
  rintro e w5 ⟨v5, u5, rfl, hv5, hu5, hB5⟩
  have hC5 := hid (low' hC4s.out hB5)
  have hR5 := hid (rel_up hv5)
  have hF5 := hid (rel_up hu5)
  clear hv5 hu5 hB5
  go_wp2_with fail
  refine (HJ.out _).mono ?_
  rintro e w6 ⟨v6, u6, rfl, hv6, hu6, hB6⟩
  have hC6 := hid (low' hC5.out hB6)
  have hR6 := hid (rel_up hv6)
  have hF6 := hid (rel_up hu6)
  have hR5' := hid ((listR ruleR).below hR5.out hB6 hB6.size)
  have hF5' := hid ((listR finalR).below hF5.out hB6 hB6.size)
  clear hv6 hu6 hB6
  go_wp2_with fail
  refine (Join_no w6 (s := s) h1 h2 hR5'.out hF5'.out hR6.out hF6.out).mono ?_
  rintro e w7 ⟨rfl, hB7⟩
  have hC7 := hid (low' hC6.out hB7)
  clear hB7
  go_wp2_with fail
  refine (HA.out _).mono ?_
  rintro e wq ⟨rfl, hBq⟩
  have hCr := hid (low' (low' hC7.out ((Below.refl _ w7).alloc (Nat.le_refl _) _)) hBq)
  clear hBq
  go_wp2_with fail
  go_ret
  exact ⟨rfl, hCr.out⟩
theorem SoleMakes_calls (s : Int) (w : World) : Calls Try.prog 3 #[.int .i64 s] w fun e w' => e = .returned (.bool true) ∧ Below w.heap.size w w' := by
  by_cases h1 : s = 1
  · rw [h1]; exact makes1_calls w
  by_cases h2 : s = 2
  · rw [h2]; exact makes2_calls w
  exact makes0_calls s w h1 h2
end Go.Proofs.Ytmkmikacfilbpaa
