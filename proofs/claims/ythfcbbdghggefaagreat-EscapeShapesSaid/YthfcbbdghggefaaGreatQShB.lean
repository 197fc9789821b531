/-
  The law EscapeShapes: its walk.
-/
import Derived.Test.YthfcbbdghggefaaGreatQEsK
import Derived.Test.YthfcbbdghggefaaGreatQShA
namespace Go.Proofs.YthfcbbdghggefaaGreat
open Go.RowKit Go.Um Go.Proofs
theorem eighteen {W : World} {b : Nat} {x0 x1 x2 x3 x4 x5 x6 x7 x8 x9 x10 x11 x12 x13 x14 x15 x16 x17 : Value} {t : TypeId} (h : W.heap[b]? = some (.cells #[x0, x1, x2, x3, x4, x5, x6, x7, x8, x9, x10, x11, x12, x13, x14, x15, x16, x17] t)) :
    ∀ (j : Nat) (y : Value), (#[x0, x1, x2, x3, x4, x5, x6, x7, x8, x9, x10, x11, x12, x13, x14, x15, x16, x17] : Array Value)[j]? = some y → W.cell? ⟨b, j, none⟩ = some y := fun j _ hx => (cell_of_row _ _ j _ _ _ h).trans hx
theorem check_zero {d : Desc} (v u : Value) (w : World) (h0 : (whereF d).1 = 0) (hv : (listR ruleR).rel w (upto w.heap.size) [v] d.rules) (hu : (listR finalR).rel w (upto w.heap.size) [u] d.finals) :
    Calls Tryz.prog 13 #[.agg #[.int .i64 d.inn, .int .i64 d.out, .int .i64 d.states, .int .i64 d.start, v, u]] w fun e w' => e = .returned (.int .i64 0) ∧ Below w.heap.size w w' := by
  have := Check_calls d v u w hv hu
  rw [if_pos h0] at this
  exact this
theorem sole_yes {d : Desc} (v u : Value) (w : World) (h0 : (whereF d).1 = 0) (h1 : outerS (optsD d) 0 (optsD d) = none) (hv : (listR ruleR).rel w (upto w.heap.size) [v] d.rules) (hu : (listR finalR).rel w (upto w.heap.size) [u] d.finals) :
    Calls Tryz.prog 36 #[.agg #[.int .i64 d.inn, .int .i64 d.out, .int .i64 d.states, .int .i64 d.start, v, u]] w fun e w' => e = .returned (.tuple #[.bool true, .int .i64 0]) ∧ Below w.heap.size w w' := by
  have := Sole_calls d v u w hv hu
  have hs : soleS d = .tuple #[.bool true, .int .i64 0] := by
    unfold soleS
    rw [if_pos h0, h1]
    rfl
  rw [hs] at this
  exact this
set_option maxHeartbeats 2000000 in
set_option maxRecDepth 100000 in
theorem shapes0 (n : Int) (_hn : 0 ≤ n ∧ n ≤ 255) (hr : n.tmod 3 = 0) (w : World) : Calls Tryz.prog 7 #[.int .u8 n] w fun e w' => e = .returned (.bool true) ∧ Below w.heap.size w w' := by
  have HAW := hid fun W => eawake_calls W
  have H1 := hid fun W => html_post W
  have H2 := hid fun W => url_post W
  have H3 := hid fun W => unurl_post W
  have HSO := hid fun v u W hv hu => sole_yes (d := htmlD) v u W where_html sole_html hv hu
  have HCH := hid fun v u W hv hu => check_zero (d := htmlD) v u W where_html hv hu
  have HWD := hid fun v u W hv hu => Width_calls htmlD v u W hv hu
  rw [show widthF htmlD.rules = 1 by decide +kernel] at HWD
  go_enter Tryz.func7, Tryz.ntmps7
  go_wp2_with fail
  refine (H1.out _).mono ?_
  rintro e w1 ⟨v1, u1, rfl, hv1, hu1, hB1⟩
  have HB1 := hid hB1
  go_wp2_with fail
  refine (H2.out _).mono ?_
  rintro e w2 ⟨v2, u2, rfl, hv2, hu2, hB2⟩
  have HB2 := hid hB2
  go_wp2_with fail
  refine (H3.out _).mono ?_
  rintro e w3 ⟨v3, u3, rfl, hv3, hu3, hB3⟩
  have HBW := hid (low' (low' hB1 hB2) hB3)
  have HV := hid (rel_up hv1)
  have HU := hid (rel_up hu1)
  replace HV := hid ((listR ruleR).below HV.out (low' hB2 hB3) (low' hB2 hB3).size)
  replace HU := hid ((listR finalR).below HU.out (low' hB2 hB3) (low' hB2 hB3).size)
  clear hv1 hu1 hv2 hu2 hv3 hu3 hB1 hB2 hB3 HB1 HB2
  obtain ⟨A, c, rfl, hc, hm⟩ := list_form HV.out
  obtain ⟨A', c', rfl, hc', hm'⟩ := list_form HU.out
  have hrow := heap_alloc_new w3 (.cells #[.int .i64 2, .int .i64 2, .int .i64 1, .int .i64 0, .slice A htmlD.rules.length c, .slice A' htmlD.finals.length c', .int .i64 1, .int .i64 1, .int .i64 1, .int .i64 0, v2, u2, .int .i64 1, .int .i64 1, .int .i64 1, .int .i64 0, v3, u3] 27)
  have hcells := eighteen hrow
  have q0 := hcells 0 _ rfl
  have q1 := hcells 1 _ rfl
  have q2 := hcells 2 _ rfl
  have q3 := hcells 3 _ rfl
  have q4 := hcells 4 _ rfl
  have q5 := hcells 5 _ rfl
  clear hrow hcells
  go_wp2_with fail
  clear q0 q1 q2 q3 q4 q5
  obtain ⟨wD, hwD⟩ : ∃ x, x = (w3.alloc (.cells #[.int .i64 2, .int .i64 2, .int .i64 1, .int .i64 0, .slice A htmlD.rules.length c, .slice A' htmlD.finals.length c', .int .i64 1, .int .i64 1, .int .i64 1, .int .i64 0, v2, u2, .int .i64 1, .int .i64 1, .int .i64 1, .int .i64 0, v3, u3] 27)).alloc (.cells #[.int .i64 2, .int .i64 2, .int .i64 1, .int .i64 0, .slice A htmlD.rules.length c, .slice A' htmlD.finals.length c'] 27) := ⟨_, rfl⟩
  rw [← hwD]
  have hBD : Below w3.heap.size w3 wD := by rw [hwD]; exact ((Below.refl _ w3).alloc (Nat.le_refl _) _).alloc (by simp) _
  have hX : wD.heap[w3.heap.size + 1]? = some (.cells #[.int .i64 2, .int .i64 2, .int .i64 1, .int .i64 0, .slice A htmlD.rules.length c, .slice A' htmlD.finals.length c'] 27) := by
    have := heap_alloc_new (w3.alloc (.cells #[.int .i64 2, .int .i64 2, .int .i64 1, .int .i64 0, .slice A htmlD.rules.length c, .slice A' htmlD.finals.length c', .int .i64 1, .int .i64 1, .int .i64 1, .int .i64 0, v2, u2, .int .i64 1, .int .i64 1, .int .i64 1, .int .i64 0, v3, u3] 27)) (.cells #[.int .i64 2, .int .i64 2, .int .i64 1, .int .i64 0, .slice A htmlD.rules.length c, .slice A' htmlD.finals.length c'] 27)
    rw [hwD]
    simpa using this
  have HX := hid fun W (hW : Below wD.heap.size wD W) => six ((hW.block _ (Array.getElem?_eq_some_iff.1 hX).1).trans hX)
  have HVD := hid fun W (hW : Below wD.heap.size wD W) => (listR ruleR).below ((listR ruleR).below HV.out hBD hBD.size) hW hW.size
  have HUD := hid fun W (hW : Below wD.heap.size wD W) => (listR finalR).below ((listR finalR).below HU.out hBD hBD.size) hW hW.size
  have HBD := hid (low' HBW hBD)
  clear hX hBD hwD
  refine (HSO.out _ _ _ (HVD.out _ (Below.refl _ _)) (HUD.out _ (Below.refl _ _))).mono ?_
  rintro e w4 ⟨rfl, hB4⟩
  have HB4 := hid hB4
  obtain ⟨p0, p1, p2, p3, p4, p5⟩ := HX.out _ hB4
  clear hB4
  go_wp2_with fail
  clear p0 p1 p2 p3 p4 p5
  refine (HCH.out _ _ _ (HVD.out _ HB4.out) (HUD.out _ HB4.out)).mono ?_
  rintro e w5 ⟨rfl, hB5⟩
  have HB5 := hid (low' HB4.out hB5)
  clear hB5
  obtain ⟨p0, p1, p2, p3, p4, p5⟩ := HX.out _ HB5.out
  go_wp2_with fail
  clear p0 p1 p2 p3 p4 p5
  refine (HWD.out _ _ _ (HVD.out _ HB5.out) (HUD.out _ HB5.out)).mono ?_
  rintro e w6 ⟨rfl, hB6⟩
  have HB6 := hid (low' HB5.out hB6)
  clear hB6
  obtain ⟨p0, p1, p2, p3, p4, p5⟩ := HX.out _ HB6.out
  go_wp2_with fail
  refine (HAW.out _).mono ?_
  rintro e w7 ⟨rfl, hB7⟩
  have HB7 := hid (low' HB6.out hB7)
  clear hB7
  go_wp2_with fail
  go_ret
  exact ⟨rfl, low' HBD.out HB7.out⟩
set_option maxHeartbeats 2000000 in
set_option maxRecDepth 100000 in
theorem shapes1 (n : Int) (_hn : 0 ≤ n ∧ n ≤ 255) (hr : n.tmod 3 = 1) (w : World) : Calls Tryz.prog 7 #[.int .u8 n] w fun e w' => e = .returned (.bool true) ∧ Below w.heap.size w w' := by
  have HAW := hid fun W => eawake_calls W
  have H1 := hid fun W => html_post W
  have H2 := hid fun W => url_post W
  have H3 := hid fun W => unurl_post W
  have HSO := hid fun v u W hv hu => sole_yes (d := urlD) v u W where_url sole_url hv hu
  have HCH := hid fun v u W hv hu => check_zero (d := urlD) v u W where_url hv hu
  have HWD := hid fun v u W hv hu => Width_calls urlD v u W hv hu
  rw [show widthF urlD.rules = 1 by decide +kernel] at HWD
  go_enter Tryz.func7, Tryz.ntmps7
  go_wp2_with fail
  refine (H1.out _).mono ?_
  rintro e w1 ⟨v1, u1, rfl, hv1, hu1, hB1⟩
  have HB1 := hid hB1
  go_wp2_with fail
  refine (H2.out _).mono ?_
  rintro e w2 ⟨v2, u2, rfl, hv2, hu2, hB2⟩
  have HB2 := hid hB2
  go_wp2_with fail
  refine (H3.out _).mono ?_
  rintro e w3 ⟨v3, u3, rfl, hv3, hu3, hB3⟩
  have HBW := hid (low' (low' hB1 hB2) hB3)
  have HV := hid (rel_up hv2)
  have HU := hid (rel_up hu2)
  replace HV := hid ((listR ruleR).below HV.out hB3 hB3.size)
  replace HU := hid ((listR finalR).below HU.out hB3 hB3.size)
  clear hv1 hu1 hv2 hu2 hv3 hu3 hB1 hB2 hB3 HB1 HB2
  obtain ⟨A, c, rfl, hc, hm⟩ := list_form HV.out
  obtain ⟨A', c', rfl, hc', hm'⟩ := list_form HU.out
  have hrow := heap_alloc_new w3 (.cells #[.int .i64 2, .int .i64 2, .int .i64 1, .int .i64 0, v1, u1, .int .i64 1, .int .i64 1, .int .i64 1, .int .i64 0, .slice A urlD.rules.length c, .slice A' urlD.finals.length c', .int .i64 1, .int .i64 1, .int .i64 1, .int .i64 0, v3, u3] 27)
  have hcells := eighteen hrow
  have q0 := hcells 6 _ rfl
  have q1 := hcells 7 _ rfl
  have q2 := hcells 8 _ rfl
  have q3 := hcells 9 _ rfl
  have q4 := hcells 10 _ rfl
  have q5 := hcells 11 _ rfl
  clear hrow hcells
  go_wp2_with fail
  clear q0 q1 q2 q3 q4 q5
  obtain ⟨wD, hwD⟩ : ∃ x, x = (w3.alloc (.cells #[.int .i64 2, .int .i64 2, .int .i64 1, .int .i64 0, v1, u1, .int .i64 1, .int .i64 1, .int .i64 1, .int .i64 0, .slice A urlD.rules.length c, .slice A' urlD.finals.length c', .int .i64 1, .int .i64 1, .int .i64 1, .int .i64 0, v3, u3] 27)).alloc (.cells #[.int .i64 1, .int .i64 1, .int .i64 1, .int .i64 0, .slice A urlD.rules.length c, .slice A' urlD.finals.length c'] 27) := ⟨_, rfl⟩
  rw [← hwD]
  have hBD : Below w3.heap.size w3 wD := by rw [hwD]; exact ((Below.refl _ w3).alloc (Nat.le_refl _) _).alloc (by simp) _
  have hX : wD.heap[w3.heap.size + 1]? = some (.cells #[.int .i64 1, .int .i64 1, .int .i64 1, .int .i64 0, .slice A urlD.rules.length c, .slice A' urlD.finals.length c'] 27) := by
    have := heap_alloc_new (w3.alloc (.cells #[.int .i64 2, .int .i64 2, .int .i64 1, .int .i64 0, v1, u1, .int .i64 1, .int .i64 1, .int .i64 1, .int .i64 0, .slice A urlD.rules.length c, .slice A' urlD.finals.length c', .int .i64 1, .int .i64 1, .int .i64 1, .int .i64 0, v3, u3] 27)) (.cells #[.int .i64 1, .int .i64 1, .int .i64 1, .int .i64 0, .slice A urlD.rules.length c, .slice A' urlD.finals.length c'] 27)
    rw [hwD]
    simpa using this
  have HX := hid fun W (hW : Below wD.heap.size wD W) => six ((hW.block _ (Array.getElem?_eq_some_iff.1 hX).1).trans hX)
  have HVD := hid fun W (hW : Below wD.heap.size wD W) => (listR ruleR).below ((listR ruleR).below HV.out hBD hBD.size) hW hW.size
  have HUD := hid fun W (hW : Below wD.heap.size wD W) => (listR finalR).below ((listR finalR).below HU.out hBD hBD.size) hW hW.size
  have HBD := hid (low' HBW hBD)
  clear hX hBD hwD
  refine (HSO.out _ _ _ (HVD.out _ (Below.refl _ _)) (HUD.out _ (Below.refl _ _))).mono ?_
  rintro e w4 ⟨rfl, hB4⟩
  have HB4 := hid hB4
  obtain ⟨p0, p1, p2, p3, p4, p5⟩ := HX.out _ hB4
  clear hB4
  go_wp2_with fail
  clear p0 p1 p2 p3 p4 p5
  refine (HCH.out _ _ _ (HVD.out _ HB4.out) (HUD.out _ HB4.out)).mono ?_
  rintro e w5 ⟨rfl, hB5⟩
  have HB5 := hid (low' HB4.out hB5)
  clear hB5
  obtain ⟨p0, p1, p2, p3, p4, p5⟩ := HX.out _ HB5.out
  go_wp2_with fail
  clear p0 p1 p2 p3 p4 p5
  refine (HWD.out _ _ _ (HVD.out _ HB5.out) (HUD.out _ HB5.out)).mono ?_
  rintro e w6 ⟨rfl, hB6⟩
  have HB6 := hid (low' HB5.out hB6)
  clear hB6
  obtain ⟨p0, p1, p2, p3, p4, p5⟩ := HX.out _ HB6.out
  go_wp2_with fail
  refine (HAW.out _).mono ?_
  rintro e w7 ⟨rfl, hB7⟩
  have HB7 := hid (low' HB6.out hB7)
  clear hB7
  go_wp2_with fail
  go_ret
  exact ⟨rfl, low' HBD.out HB7.out⟩
set_option maxHeartbeats 2000000 in
set_option maxRecDepth 100000 in
theorem shapes2 (n : Int) (_hn : 0 ≤ n ∧ n ≤ 255) (hr : n.tmod 3 = 2) (w : World) : Calls Tryz.prog 7 #[.int .u8 n] w fun e w' => e = .returned (.bool true) ∧ Below w.heap.size w w' := by
  have HAW := hid fun W => eawake_calls W
  have H1 := hid fun W => html_post W
  have H2 := hid fun W => url_post W
  have H3 := hid fun W => unurl_post W
  have HSO := hid fun v u W hv hu => sole_yes (d := unurlD) v u W where_unurl sole_unurl hv hu
  have HCH := hid fun v u W hv hu => check_zero (d := unurlD) v u W where_unurl hv hu
  have HWD := hid fun v u W hv hu => Width_calls unurlD v u W hv hu
  rw [show widthF unurlD.rules = 3 by decide +kernel] at HWD
  go_enter Tryz.func7, Tryz.ntmps7
  go_wp2_with fail
  refine (H1.out _).mono ?_
  rintro e w1 ⟨v1, u1, rfl, hv1, hu1, hB1⟩
  have HB1 := hid hB1
  go_wp2_with fail
  refine (H2.out _).mono ?_
  rintro e w2 ⟨v2, u2, rfl, hv2, hu2, hB2⟩
  have HB2 := hid hB2
  go_wp2_with fail
  refine (H3.out _).mono ?_
  rintro e w3 ⟨v3, u3, rfl, hv3, hu3, hB3⟩
  have HBW := hid (low' (low' hB1 hB2) hB3)
  have HV := hid (rel_up hv3)
  have HU := hid (rel_up hu3)
  clear hv1 hu1 hv2 hu2 hv3 hu3 hB1 hB2 hB3 HB1 HB2
  obtain ⟨A, c, rfl, hc, hm⟩ := list_form HV.out
  obtain ⟨A', c', rfl, hc', hm'⟩ := list_form HU.out
  have hrow := heap_alloc_new w3 (.cells #[.int .i64 2, .int .i64 2, .int .i64 1, .int .i64 0, v1, u1, .int .i64 1, .int .i64 1, .int .i64 1, .int .i64 0, v2, u2, .int .i64 1, .int .i64 1, .int .i64 1, .int .i64 0, .slice A unurlD.rules.length c, .slice A' unurlD.finals.length c'] 27)
  have hcells := eighteen hrow
  have q0 := hcells 12 _ rfl
  have q1 := hcells 13 _ rfl
  have q2 := hcells 14 _ rfl
  have q3 := hcells 15 _ rfl
  have q4 := hcells 16 _ rfl
  have q5 := hcells 17 _ rfl
  clear hrow hcells
  go_wp2_with fail
  clear q0 q1 q2 q3 q4 q5
  obtain ⟨wD, hwD⟩ : ∃ x, x = (w3.alloc (.cells #[.int .i64 2, .int .i64 2, .int .i64 1, .int .i64 0, v1, u1, .int .i64 1, .int .i64 1, .int .i64 1, .int .i64 0, v2, u2, .int .i64 1, .int .i64 1, .int .i64 1, .int .i64 0, .slice A unurlD.rules.length c, .slice A' unurlD.finals.length c'] 27)).alloc (.cells #[.int .i64 1, .int .i64 1, .int .i64 1, .int .i64 0, .slice A unurlD.rules.length c, .slice A' unurlD.finals.length c'] 27) := ⟨_, rfl⟩
  rw [← hwD]
  have hBD : Below w3.heap.size w3 wD := by rw [hwD]; exact ((Below.refl _ w3).alloc (Nat.le_refl _) _).alloc (by simp) _
  have hX : wD.heap[w3.heap.size + 1]? = some (.cells #[.int .i64 1, .int .i64 1, .int .i64 1, .int .i64 0, .slice A unurlD.rules.length c, .slice A' unurlD.finals.length c'] 27) := by
    have := heap_alloc_new (w3.alloc (.cells #[.int .i64 2, .int .i64 2, .int .i64 1, .int .i64 0, v1, u1, .int .i64 1, .int .i64 1, .int .i64 1, .int .i64 0, v2, u2, .int .i64 1, .int .i64 1, .int .i64 1, .int .i64 0, .slice A unurlD.rules.length c, .slice A' unurlD.finals.length c'] 27)) (.cells #[.int .i64 1, .int .i64 1, .int .i64 1, .int .i64 0, .slice A unurlD.rules.length c, .slice A' unurlD.finals.length c'] 27)
    rw [hwD]
    simpa using this
  have HX := hid fun W (hW : Below wD.heap.size wD W) => six ((hW.block _ (Array.getElem?_eq_some_iff.1 hX).1).trans hX)
  have HVD := hid fun W (hW : Below wD.heap.size wD W) => (listR ruleR).below ((listR ruleR).below HV.out hBD hBD.size) hW hW.size
  have HUD := hid fun W (hW : Below wD.heap.size wD W) => (listR finalR).below ((listR finalR).below HU.out hBD hBD.size) hW hW.size
  have HBD := hid (low' HBW hBD)
  clear hX hBD hwD
  refine (HSO.out _ _ _ (HVD.out _ (Below.refl _ _)) (HUD.out _ (Below.refl _ _))).mono ?_
  rintro e w4 ⟨rfl, hB4⟩
  have HB4 := hid hB4
  obtain ⟨p0, p1, p2, p3, p4, p5⟩ := HX.out _ hB4
  clear hB4
  go_wp2_with fail
  clear p0 p1 p2 p3 p4 p5
  refine (HCH.out _ _ _ (HVD.out _ HB4.out) (HUD.out _ HB4.out)).mono ?_
  rintro e w5 ⟨rfl, hB5⟩
  have HB5 := hid (low' HB4.out hB5)
  clear hB5
  obtain ⟨p0, p1, p2, p3, p4, p5⟩ := HX.out _ HB5.out
  go_wp2_with fail
  clear p0 p1 p2 p3 p4 p5
  refine (HWD.out _ _ _ (HVD.out _ HB5.out) (HUD.out _ HB5.out)).mono ?_
  rintro e w6 ⟨rfl, hB6⟩
  have HB6 := hid (low' HB5.out hB6)
  clear hB6
  obtain ⟨p0, p1, p2, p3, p4, p5⟩ := HX.out _ HB6.out
  go_wp2_with fail
  refine (HAW.out _).mono ?_
  rintro e w7 ⟨rfl, hB7⟩
  have HB7 := hid (low' HB6.out hB7)
  clear hB7
  go_wp2_with fail
  go_ret
  exact ⟨rfl, low' HBD.out HB7.out⟩
theorem shapes_law (n : Int) (hn : 0 ≤ n ∧ n ≤ 255) (w : World) : Calls Tryz.prog 7 #[.int .u8 n] w fun e w' => e = .returned (.bool true) ∧ Below w.heap.size w w' := by
  have h : n.tmod 3 = 0 ∨ n.tmod 3 = 1 ∨ n.tmod 3 = 2 := by rw [Int.tmod_eq_emod_of_nonneg hn.1]; omega
  rcases h with h | h | h
  · exact shapes0 n hn h w
  · exact shapes1 n hn h w
  · exact shapes2 n hn h w
theorem wf_u8 {n : Int} (h : (Lit.int .u8 n).wf = true) : 0 ≤ n ∧ n ≤ 255 := by
  unfold Lit.wf at h
  rw [Bool.and_eq_true, decide_eq_true_eq, decide_eq_true_eq] at h
  exact h
theorem shapes_row (n : Int) (w : World) (hn : (Lit.int .u8 n).wf = true) : Calls Tryz.prog 7 #[.int .u8 n] w fun e w' => e = .returned (.bool true) ∧ Below w.heap.size w w' := shapes_law n (wf_u8 hn) w
end Go.Proofs.YthfcbbdghggefaaGreat
