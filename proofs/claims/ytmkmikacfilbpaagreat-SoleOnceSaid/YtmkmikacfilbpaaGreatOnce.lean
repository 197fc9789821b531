/-
  The law SoleOnce: its walk.
-/
import Derived.Test.YtmkmikacfilbpaaGreatRun
import Derived.Test.YtmkmikacfilbpaaGreatKMeet
namespace Go.Proofs.YtmkmikacfilbpaaGreat
open Go.Proofs Go.Um Go.RowKit
theorem asks_codes {d : Desc} {x : List Int} {most : Int} (h : asksF d x most ≠ 0) : asksF d x most = 1 ∨ asksF d x most = 2 ∨ asksF d x most = 4 := by
  have hc : asksC d x = 0 ∨ asksC d x = 1 ∨ asksC d x = 2 ∨ asksC d x = 4 := by
    unfold asksC
    split
    · split
      · split
        · exact .inl rfl
        · exact .inr (.inl rfl)
      · exact .inr (.inr (.inr rfl))
    · exact .inr (.inr (.inl rfl))
  unfold asksF at h ⊢
  by_cases h0 : asksC d x = 0
  · rw [if_pos h0] at h ⊢
    by_cases h4 : most < 1
    · rw [if_pos h4]; exact .inl rfl
    · rw [if_neg h4] at h; exact absurd rfl h
  · rw [if_neg h0]
    rcases hc with e | e | e | e
    · exact absurd e h0
    · exact .inl e
    · exact .inr (.inl e)
    · exact .inr (.inr e)
theorem once_len {d : Desc} (h : outerS (optsD d) 0 (optsD d) = none) {x : List Int} {s : Int} {most : Nat} {ls : List (List Int)} (hw : WordsOf d x 0 s most ls) : ls.length ≤ 1 := by
  obtain ⟨h1, h2, _⟩ := hw
  match ls, h1, h2 with
  | [], _, _ => simp
  | [_], _, _ => simp
  | p :: q :: r, h1, h2 =>
    exfalso
    have e := run_once h ((h1 p).1 (by simp)) ((h1 q).1 (by simp))
    have := (List.pairwise_cons.1 h2).1 q (by simp)
    rw [e, cmpW_refl] at this
    omega
theorem once_many {d : Desc} (h : outerS (optsD d) 0 (optsD d) = none) {x : List Int} : ¬ TooMany d x 1 := by
  rintro ⟨a, s, ls, _, h2, h3, h4⟩
  match ls, h2, h3, h4 with
  | p :: q :: r, h2, h3, _ =>
    have e := run_once h (h2 p (by simp)) (h2 q (by simp))
    have := (List.pairwise_cons.1 h3).1 q (by simp)
    rw [e, cmpW_refl] at this
    omega
set_option maxHeartbeats 2000000 in
set_option maxRecDepth 100000 in
theorem once_calls (d : Desc) (x : List Int) (v u vx : Value) (w : World) (hv : (listR ruleR).rel w (upto w.heap.size) [v] d.rules) (hu : (listR finalR).rel w (upto w.heap.size) [u] d.finals) (hx : wordR.rel w (upto w.heap.size) [vx] x) :
    Calls Tryz.prog 3 #[.agg #[.int .i64 d.inn, .int .i64 d.out, .int .i64 d.states, .int .i64 d.start, v, u], vx] w fun e w' => e = .returned (.bool true) ∧ Below w.heap.size w w' := by
  have HSM := hid fun W (hW : Below w.heap.size w W) => small_calls d v u W ((listR ruleR).below hv hW hW.size) ((listR finalR).below hu hW hW.size) d.inn d.out d.states d.start
  have HSO := hid fun W (hW : Below w.heap.size w W) => Sole_calls d v u W ((listR ruleR).below hv hW hW.size) ((listR finalR).below hu hW hW.size)
  have HOU := hid fun W (hW : Below w.heap.size w W) => Outputs_calls d x 1 v u vx W ((listR ruleR).below hv hW hW.size) ((listR finalR).below hu hW hW.size) (wordR.below hx hW hW.size) (by omega)
  have HAW := hid fun W => awake_calls W
  obtain ⟨A1, c1, rfl, hc1, hm1⟩ := list_form hv
  obtain ⟨A2, c2, rfl, hc2, hm2⟩ := list_form hu
  obtain ⟨A3, c3, rfl, hc3, hm3⟩ := list_form hx
  unfold maxLen at hm1 hm2 hm3
  obtain ⟨w0, hw0⟩ : ∃ w0, w0 = w.alloc (.cells #[.int .i64 d.inn, .int .i64 d.out, .int .i64 d.states, .int .i64 d.start, .slice A1 d.rules.length c1, .slice A2 d.finals.length c2] 26) := ⟨_, rfl⟩
  have hB0 : Below w.heap.size w w0 := by rw [hw0]; exact (Below.refl _ w).alloc (Nat.le_refl _) _
  have hs0 : w.heap.size + 1 ≤ w0.heap.size := by rw [hw0]; simp
  have hD0 : w0.heap[w.heap.size]? = some (.cells #[.int .i64 d.inn, .int .i64 d.out, .int .i64 d.states, .int .i64 d.start, .slice A1 d.rules.length c1, .slice A2 d.finals.length c2] 26) := by rw [hw0]; exact heap_alloc_new _ _
  have HB0 := hid hB0
  have HD0 := hid hD0
  have HW0 := hid hw0
  clear hv hu hx hB0 hD0 hw0
  have fin0 : ∀ (w5 w6 : World), Below w.heap.size w w5 → Below w5.heap.size w5 w6 → Below w.heap.size w w6 := fun w5 w6 h1 h2 => h1.trans (h2.mono h1.size)
  have HFIN := hid fin0
  clear fin0
  obtain ⟨sm, hsm⟩ : ∃ sm, sm = smallF d := ⟨_, rfl⟩
  rw [← hsm] at HSM
  clear hsm
  cases sm with
  | false =>
    go_enter Tryz.func3, Tryz.ntmps3
    go_wp2_with fail
    rw [← HW0.out]
    refine (HSM.out _ HB0.out).mono ?_
    rintro e w1 ⟨rfl, hB1⟩
    have HB1 := hid (HFIN.out _ _ HB0.out hB1)
    clear hB1
    go_wp2_with fail
    refine (HAW.out _).mono ?_
    rintro e w2 ⟨rfl, hB2⟩
    have HB2 := hid (HFIN.out _ _ HB1.out hB2)
    clear hB2
    go_wp2_with fail
    go_ret
    exact ⟨rfl, HB2.out⟩
  | true =>
    by_cases hl : x.length ≤ 12
    · have hl' : ¬ ((12 : Int) < x.length) := by omega
      by_cases hwh : (whereF d).1 = 0
      · obtain ⟨ob, hob⟩ : ∃ ob, ob = (outerS (optsD d) 0 (optsD d)).isNone := ⟨_, rfl⟩
        have hS : soleS d = .tuple #[.bool ob, .int .i64 0] := by unfold soleS; rw [if_pos hwh, hob]
        rw [hS] at HSO
        clear hS
        cases ob with
        | false =>
          clear hob hwh HOU
          go_enter Tryz.func3, Tryz.ntmps3
          go_wp2_with fail
          rw [← HW0.out]
          refine (HSM.out _ HB0.out).mono ?_
          rintro e w1 ⟨rfl, hB1⟩
          have HD1 := (hB1.block w.heap.size (by omega)).trans HD0.out
          have d0 := cell_of_row _ _ 0 _ _ _ HD1
          have d1 := cell_of_row _ _ 1 _ _ _ HD1
          have d2 := cell_of_row _ _ 2 _ _ _ HD1
          have d3 := cell_of_row _ _ 3 _ _ _ HD1
          have d4 := cell_of_row _ _ 4 _ _ _ HD1
          have d5 := cell_of_row _ _ 5 _ _ _ HD1
          have HB1 := hid (HFIN.out _ _ HB0.out hB1)
          clear hB1 HD1
          go_wp2_with fail
          refine (HSO.out _ HB1.out).mono ?_
          rintro e w2 ⟨rfl, hB2⟩
          have HB2 := hid (HFIN.out _ _ HB1.out hB2)
          clear hB2
          go_wp2_with fail
          refine (HAW.out _).mono ?_
          rintro e w3 ⟨rfl, hB3⟩
          have HB3 := hid (HFIN.out _ _ HB2.out hB3)
          clear hB3
          go_wp2_with fail
          go_ret
          exact ⟨rfl, HB3.out⟩
        | true =>
          have hon : outerS (optsD d) 0 (optsD d) = none := by
            cases h : outerS (optsD d) 0 (optsD d) with
            | none => rfl
            | some y => rw [h] at hob; cases hob
          have HM := hid (once_many (x := x) hon)
          have HL := hid (fun ls (h : WordsOf d x 0 d.start 1 ls) => once_len hon h)
          clear hob hwh hon
          go_enter Tryz.func3, Tryz.ntmps3
          go_wp2_with fail
          rw [← HW0.out]
          refine (HSM.out _ HB0.out).mono ?_
          rintro e w1 ⟨rfl, hB1⟩
          have hs1 := hB1.size
          have HD1 := (hB1.block w.heap.size (by omega)).trans HD0.out
          have HDD := hid HD1
          have d0 := cell_of_row _ _ 0 _ _ _ HD1
          have d1 := cell_of_row _ _ 1 _ _ _ HD1
          have d2 := cell_of_row _ _ 2 _ _ _ HD1
          have d3 := cell_of_row _ _ 3 _ _ _ HD1
          have d4 := cell_of_row _ _ 4 _ _ _ HD1
          have d5 := cell_of_row _ _ 5 _ _ _ HD1
          have HB1 := hid (HFIN.out _ _ HB0.out hB1)
          clear hB1 HD1
          go_wp2_with fail
          refine (HSO.out _ HB1.out).mono ?_
          rintro e w2 ⟨rfl, hB2⟩
          clear d0 d1 d2 d3 d4 d5
          have hs2 := hB2.size
          have HD1 := (hB2.block w.heap.size (by omega)).trans HDD.out
          have d0 := cell_of_row _ _ 0 _ _ _ HD1
          have d1 := cell_of_row _ _ 1 _ _ _ HD1
          have d2 := cell_of_row _ _ 2 _ _ _ HD1
          have d3 := cell_of_row _ _ 3 _ _ _ HD1
          have d4 := cell_of_row _ _ 4 _ _ _ HD1
          have d5 := cell_of_row _ _ 5 _ _ _ HD1
          have HB2 := hid (HFIN.out _ _ HB1.out hB2)
          clear hB2 HD1
          go_wp2_with fail
          refine (HOU.out _ HB2.out).mono ?_
          rintro e w3 ⟨hB3, h | h | h⟩
          · obtain ⟨ha, rfl⟩ := h
            rcases asks_codes ha with h3 | h3 | h3
            · rw [h3]
              have HB3 := hid (HFIN.out _ _ HB2.out hB3)
              clear hB3 ha d0 d1 d2 d3 d4 d5
              go_wp2_with fail
              refine (HAW.out _).mono ?_
              rintro e w4 ⟨rfl, hB4⟩
              have HB4 := hid (HFIN.out _ _ HB3.out hB4)
              clear hB4
              go_wp2_with fail
              go_ret
              exact ⟨rfl, HB4.out⟩
            · rw [h3]
              have HB3 := hid (HFIN.out _ _ HB2.out hB3)
              clear hB3 ha d0 d1 d2 d3 d4 d5
              go_wp2_with fail
              refine (HAW.out _).mono ?_
              rintro e w4 ⟨rfl, hB4⟩
              have HB4 := hid (HFIN.out _ _ HB3.out hB4)
              clear hB4
              go_wp2_with fail
              go_ret
              exact ⟨rfl, HB4.out⟩
            · rw [h3]
              have HB3 := hid (HFIN.out _ _ HB2.out hB3)
              clear hB3 ha d0 d1 d2 d3 d4 d5
              go_wp2_with fail
              refine (HAW.out _).mono ?_
              rintro e w4 ⟨rfl, hB4⟩
              have HB4 := hid (HFIN.out _ _ HB3.out hB4)
              clear hB4
              go_wp2_with fail
              go_ret
              exact ⟨rfl, HB4.out⟩
          · exact absurd h.2.2 (by rw [show (1 : Int).toNat = 1 from rfl]; exact HM.out)
          · obtain ⟨_, _, uu, ls, rfl, hr, hws⟩ := h
            have hll := HL.out ls hws
            obtain ⟨A9, c9, rfl, _, _⟩ := list_form hr
            have hll' : (ls.length : Int) ≤ 1 := by omega
            have HB3 := hid (HFIN.out _ _ HB2.out hB3)
            clear hB3 hr hws d0 d1 d2 d3 d4 d5
            go_wp2_with fail
            refine (HAW.out _).mono ?_
            rintro e w4 ⟨rfl, hB4⟩
            have HB4 := hid (HFIN.out _ _ HB3.out hB4)
            clear hB4
            go_wp2_with fail
            go_ret
            exact ⟨rfl, HB4.out⟩
      · have hS : soleS d = .tuple #[.bool false, .int .i64 2] := by unfold soleS; rw [if_neg hwh]
        rw [hS] at HSO
        clear hS hwh HOU
        go_enter Tryz.func3, Tryz.ntmps3
        go_wp2_with fail
        rw [← HW0.out]
        refine (HSM.out _ HB0.out).mono ?_
        rintro e w1 ⟨rfl, hB1⟩
        have HD1 := (hB1.block w.heap.size (by omega)).trans HD0.out
        have d0 := cell_of_row _ _ 0 _ _ _ HD1
        have d1 := cell_of_row _ _ 1 _ _ _ HD1
        have d2 := cell_of_row _ _ 2 _ _ _ HD1
        have d3 := cell_of_row _ _ 3 _ _ _ HD1
        have d4 := cell_of_row _ _ 4 _ _ _ HD1
        have d5 := cell_of_row _ _ 5 _ _ _ HD1
        have HB1 := hid (HFIN.out _ _ HB0.out hB1)
        clear hB1 HD1
        go_wp2_with fail
        refine (HSO.out _ HB1.out).mono ?_
        rintro e w2 ⟨rfl, hB2⟩
        have HB2 := hid (HFIN.out _ _ HB1.out hB2)
        clear hB2
        go_wp2_with fail
        refine (HAW.out _).mono ?_
        rintro e w3 ⟨rfl, hB3⟩
        have HB3 := hid (HFIN.out _ _ HB2.out hB3)
        clear hB3
        go_wp2_with fail
        go_ret
        exact ⟨rfl, HB3.out⟩
    · have hl' : (12 : Int) < x.length := by omega
      clear HSO HOU
      go_enter Tryz.func3, Tryz.ntmps3
      go_wp2_with fail
      rw [← HW0.out]
      refine (HSM.out _ HB0.out).mono ?_
      rintro e w1 ⟨rfl, hB1⟩
      have HB1 := hid (HFIN.out _ _ HB0.out hB1)
      clear hB1
      go_wp2_with fail
      refine (HAW.out _).mono ?_
      rintro e w2 ⟨rfl, hB2⟩
      have HB2 := hid (HFIN.out _ _ HB1.out hB2)
      clear hB2
      go_wp2_with fail
      go_ret
      exact ⟨rfl, HB2.out⟩
end Go.Proofs.YtmkmikacfilbpaaGreat
