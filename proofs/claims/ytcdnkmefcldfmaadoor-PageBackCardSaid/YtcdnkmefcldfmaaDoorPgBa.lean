/-
  The law PageBack, walked.
-/
import Derived.Test.YtcdnkmefcldfmaaDoorPgSc
namespace Go.Proofs.YtcdnkmefcldfmaaDoor
open Go.RowKit Go.Um

set_option maxHeartbeats 4000000 in
set_option maxRecDepth 100000 in
theorem back_calls (d : Desc) (v u : Value) (w : World) (hr : (listR ruleR).rel w (upto w.heap.size) [v] d.rules) (hfi : (listR finalR).rel w (upto w.heap.size) [u] d.finals) (hd : I64 d.inn ∧ I64 d.out ∧ I64 d.states ∧ I64 d.start) (hv : Vars w.heap.size w) :
    Calls Tryd.prog 5 #[.agg #[.int .i64 d.inn, .int .i64 d.out, .int .i64 d.states, .int .i64 d.start, v, u]] w fun e w' => e = .returned (.bool true) ∧ Below w.heap.size w w' := by
  have hok := hid (desc_ok hr hfi hd)
  obtain ⟨A1, cp1, rfl, hcp1, hm1⟩ := list_form hr
  obtain ⟨A2, cp2, rfl, hcp2, hm2⟩ := list_form hfi
  unfold maxLen at hm1 hm2
  have HV := hid hv
  have hb0 : Below w.heap.size w (w.alloc (.cells #[.int .i64 d.inn, .int .i64 d.out, .int .i64 d.states, .int .i64 d.start, .slice A1 d.rules.length cp1, .slice A2 d.finals.length cp2] 26)) := (Below.refl _ _).alloc (Nat.le_refl _) _
  have hxb : (w.alloc (.cells #[.int .i64 d.inn, .int .i64 d.out, .int .i64 d.states, .int .i64 d.start, .slice A1 d.rules.length cp1, .slice A2 d.finals.length cp2] 26)).heap[w.heap.size]? = some (.cells #[.int .i64 d.inn, .int .i64 d.out, .int .i64 d.states, .int .i64 d.start, .slice A1 d.rules.length cp1, .slice A2 d.finals.length cp2] 26 (0, 0)) := heap_alloc_new _ _
  have HXB := hid hxb
  clear hxb
  have hz0 : w.heap.size < (w.alloc (.cells #[.int .i64 d.inn, .int .i64 d.out, .int .i64 d.states, .int .i64 d.start, .slice A1 d.rules.length cp1, .slice A2 d.finals.length cp2] 26)).heap.size := by simp
  have HSM := hid (small_calls d (.slice A1 d.rules.length cp1) (.slice A2 d.finals.length cp2) (w.alloc (.cells #[.int .i64 d.inn, .int .i64 d.out, .int .i64 d.states, .int .i64 d.start, .slice A1 d.rules.length cp1, .slice A2 d.finals.length cp2] 26)) ((listR ruleR).later hr hb0) ((listR finalR).later hfi hb0) d.inn d.out d.states d.start)
  have HPR := hid (fun w' (hb : Below w.heap.size w w') => Print_calls d (.slice A1 d.rules.length cp1) (.slice A2 d.finals.length cp2) w' ((listR ruleR).later hr hb) ((listR finalR).later hfi hb) hd ((HV.out.on hb).more hb.size))
  have HSA := hid (fun (v' u' : Value) w' (hb : Below w.heap.size w w') (h1 : (listR ruleR).rel w' (upto w'.heap.size) [v'] d.rules) (h2 : (listR finalR).rel w' (upto w'.heap.size) [u'] d.finals) => same_desc d v' u' (.slice A1 d.rules.length cp1) (.slice A2 d.finals.length cp2) w' h1 h2 ((listR ruleR).later hr hb) ((listR finalR).later hfi hb))
  clear hv hr hfi hd
  cases hsm : smallF d with
  | false =>
    rw [hsm] at HSM
    clear hsm
    go_enter Tryd.func5, Tryd.ntmps5
    go_wp2_with fail
    refine HSM.out.mono ?_
    rintro e w1 ⟨rfl, hbs⟩
    have hb1 := hb0.trans (hbs.mono hb0.size)
    clear HSM
    go_wp2_with fail
    refine (awake_calls _ ((HV.out.on hb1).more (hb1).size)).mono ?_
    rintro e wz ⟨rfl, hbz⟩
    go_wp2_with fail
    go_ret
    exact ⟨rfl, (hb1).trans (hbz.mono (hb1).size)⟩
  | true =>
    rw [hsm] at HSM
    clear hsm
    by_cases hlong : 65536 < (printL d).length
    · have hpv : printV d = .tuple #[.string ⟨#[]⟩, .int .i64 4] := by unfold printV; rw [if_pos hlong]
      rw [hpv] at HPR
      clear hpv hlong
      go_enter Tryd.func5, Tryd.ntmps5
      go_wp2_with fail
      refine HSM.out.mono ?_
      rintro e w1 ⟨rfl, hbs⟩
      have hb1 := hb0.trans (hbs.mono hb0.size)
      have HX := hid ((hbs.block _ hz0).trans HXB.out)
      have b0 : w1.cell? ⟨w.heap.size, 0, none⟩ = some (.int .i64 d.inn) := by rw [Lib.cell_of_heap HX.out]; rfl
      have b1 : w1.cell? ⟨w.heap.size, 1, none⟩ = some (.int .i64 d.out) := by rw [Lib.cell_of_heap HX.out]; rfl
      have b2 : w1.cell? ⟨w.heap.size, 2, none⟩ = some (.int .i64 d.states) := by rw [Lib.cell_of_heap HX.out]; rfl
      have b3 : w1.cell? ⟨w.heap.size, 3, none⟩ = some (.int .i64 d.start) := by rw [Lib.cell_of_heap HX.out]; rfl
      have b4 : w1.cell? ⟨w.heap.size, 4, none⟩ = some (.slice A1 d.rules.length cp1) := by rw [Lib.cell_of_heap HX.out]; rfl
      have b5 : w1.cell? ⟨w.heap.size, 5, none⟩ = some (.slice A2 d.finals.length cp2) := by rw [Lib.cell_of_heap HX.out]; rfl
      clear HSM
      go_wp2_with fail
      refine (HPR.out _ hb1).mono ?_
      rintro e w2 ⟨rfl, hb2⟩
      have hbB := hb1.trans (hb2.mono hb1.size)
      clear HPR b0 b1 b2 b3 b4 b5
      go_wp2_with fail
      refine (awake_calls _ ((HV.out.on hbB).more (hbB).size)).mono ?_
      rintro e wz ⟨rfl, hbz⟩
      go_wp2_with fail
      go_ret
      exact ⟨rfl, (hbB).trans (hbz.mono (hbB).size)⟩
    · obtain ⟨s, hs, hsl, hpv⟩ := printV_ok hlong
      rw [hpv] at HPR
      have hsz : s.size ≤ 65536 := by omega
      have HPP : Hid (parseF (s.data.toList.length + 1) 1 d0 s.data.toList = .inl d) := hid (by rw [hs]; exact parse_print d hok.out _ (Nat.lt_succ_self _))
      clear hpv hlong hs hsl
      go_enter Tryd.func5, Tryd.ntmps5
      go_wp2_with fail
      refine HSM.out.mono ?_
      rintro e w1 ⟨rfl, hbs⟩
      have hb1 := hb0.trans (hbs.mono hb0.size)
      have HX := hid ((hbs.block _ hz0).trans HXB.out)
      have b0 : w1.cell? ⟨w.heap.size, 0, none⟩ = some (.int .i64 d.inn) := by rw [Lib.cell_of_heap HX.out]; rfl
      have b1 : w1.cell? ⟨w.heap.size, 1, none⟩ = some (.int .i64 d.out) := by rw [Lib.cell_of_heap HX.out]; rfl
      have b2 : w1.cell? ⟨w.heap.size, 2, none⟩ = some (.int .i64 d.states) := by rw [Lib.cell_of_heap HX.out]; rfl
      have b3 : w1.cell? ⟨w.heap.size, 3, none⟩ = some (.int .i64 d.start) := by rw [Lib.cell_of_heap HX.out]; rfl
      have b4 : w1.cell? ⟨w.heap.size, 4, none⟩ = some (.slice A1 d.rules.length cp1) := by rw [Lib.cell_of_heap HX.out]; rfl
      have b5 : w1.cell? ⟨w.heap.size, 5, none⟩ = some (.slice A2 d.finals.length cp2) := by rw [Lib.cell_of_heap HX.out]; rfl
      clear HSM
      go_wp2_with fail
      refine (HPR.out _ hb1).mono ?_
      rintro e w2 ⟨rfl, hb2⟩
      have hbB := hb1.trans (hb2.mono hb1.size)
      have hz1 : w.heap.size < w1.heap.size := Nat.lt_of_lt_of_le hz0 hbs.size
      have HX := hid ((hb2.block _ hz1).trans HX.out)
      clear HPR b0 b1 b2 b3 b4 b5
      have b0 : w2.cell? ⟨w.heap.size, 0, none⟩ = some (.int .i64 d.inn) := by rw [Lib.cell_of_heap HX.out]; rfl
      have b1 : w2.cell? ⟨w.heap.size, 1, none⟩ = some (.int .i64 d.out) := by rw [Lib.cell_of_heap HX.out]; rfl
      have b2 : w2.cell? ⟨w.heap.size, 2, none⟩ = some (.int .i64 d.states) := by rw [Lib.cell_of_heap HX.out]; rfl
      have b3 : w2.cell? ⟨w.heap.size, 3, none⟩ = some (.int .i64 d.start) := by rw [Lib.cell_of_heap HX.out]; rfl
      have b4 : w2.cell? ⟨w.heap.size, 4, none⟩ = some (.slice A1 d.rules.length cp1) := by rw [Lib.cell_of_heap HX.out]; rfl
      have b5 : w2.cell? ⟨w.heap.size, 5, none⟩ = some (.slice A2 d.finals.length cp2) := by rw [Lib.cell_of_heap HX.out]; rfl
      have HPA := hid (Parse_calls s hsz w2 ((HV.out.on hbB).more hbB.size))
      go_wp2_with fail
      refine HPA.out.mono ?_
      rintro e w3 ⟨hb3, hm⟩
      clear HPA
      rw [HPP.out] at hm
      obtain ⟨vr, vf, rfl, hr, hf, _⟩ := hm
      obtain ⟨A, c, rfl, _, _⟩ := list_form hr
      obtain ⟨A', c', rfl, _, _⟩ := list_form hf
      have hbC := hbB.trans (hb3.mono hbB.size)
      have hz2 : w.heap.size < w2.heap.size := Nat.lt_of_lt_of_le hz1 hb2.size
      have hz3 : w.heap.size < w3.heap.size := Nat.lt_of_lt_of_le hz2 hb3.size
      have HX := hid ((hb3.block _ hz2).trans HX.out)
      have HX := hid ((Below.heap_alloc w3 (.cells #[.int .i64 d.inn, .int .i64 d.out, .int .i64 d.states, .int .i64 d.start, .slice A d.rules.length c, .slice A' d.finals.length c'] 26) _ hz3).trans HX.out)
      have hbE : Below w3.heap.size w3 (w3.alloc (.cells #[.int .i64 d.inn, .int .i64 d.out, .int .i64 d.states, .int .i64 d.start, .slice A d.rules.length c, .slice A' d.finals.length c'] 26)) := (Below.refl _ _).alloc (Nat.le_refl _) _
      have hbF := hbC.trans (hbE.mono hbC.size)
      clear b0 b1 b2 b3 b4 b5
      have b0 : (w3.alloc (.cells #[.int .i64 d.inn, .int .i64 d.out, .int .i64 d.states, .int .i64 d.start, .slice A d.rules.length c, .slice A' d.finals.length c'] 26)).cell? ⟨w.heap.size, 0, none⟩ = some (.int .i64 d.inn) := by rw [Lib.cell_of_heap HX.out]; rfl
      have b1 : (w3.alloc (.cells #[.int .i64 d.inn, .int .i64 d.out, .int .i64 d.states, .int .i64 d.start, .slice A d.rules.length c, .slice A' d.finals.length c'] 26)).cell? ⟨w.heap.size, 1, none⟩ = some (.int .i64 d.out) := by rw [Lib.cell_of_heap HX.out]; rfl
      have b2 : (w3.alloc (.cells #[.int .i64 d.inn, .int .i64 d.out, .int .i64 d.states, .int .i64 d.start, .slice A d.rules.length c, .slice A' d.finals.length c'] 26)).cell? ⟨w.heap.size, 2, none⟩ = some (.int .i64 d.states) := by rw [Lib.cell_of_heap HX.out]; rfl
      have b3 : (w3.alloc (.cells #[.int .i64 d.inn, .int .i64 d.out, .int .i64 d.states, .int .i64 d.start, .slice A d.rules.length c, .slice A' d.finals.length c'] 26)).cell? ⟨w.heap.size, 3, none⟩ = some (.int .i64 d.start) := by rw [Lib.cell_of_heap HX.out]; rfl
      have b4 : (w3.alloc (.cells #[.int .i64 d.inn, .int .i64 d.out, .int .i64 d.states, .int .i64 d.start, .slice A d.rules.length c, .slice A' d.finals.length c'] 26)).cell? ⟨w.heap.size, 4, none⟩ = some (.slice A1 d.rules.length cp1) := by rw [Lib.cell_of_heap HX.out]; rfl
      have b5 : (w3.alloc (.cells #[.int .i64 d.inn, .int .i64 d.out, .int .i64 d.states, .int .i64 d.start, .slice A d.rules.length c, .slice A' d.finals.length c'] 26)).cell? ⟨w.heap.size, 5, none⟩ = some (.slice A2 d.finals.length cp2) := by rw [Lib.cell_of_heap HX.out]; rfl
      have HSD := hid (HSA.out _ _ (w3.alloc (.cells #[.int .i64 d.inn, .int .i64 d.out, .int .i64 d.states, .int .i64 d.start, .slice A d.rules.length c, .slice A' d.finals.length c'] 26)) hbF ((listR ruleR).later hr hbE) ((listR finalR).later hf hbE))
      clear hr hf HSA hbE
      go_wp2_with fail
      refine HSD.out.mono ?_
      rintro e w4 ⟨rfl, hb4⟩
      have hbD := hbF.trans (hb4.mono hbF.size)
      clear HSD
      go_wp2_with fail
      refine (awake_calls _ ((HV.out.on hbD).more (hbD).size)).mono ?_
      rintro e wz ⟨rfl, hbz⟩
      go_wp2_with fail
      go_ret
      exact ⟨rfl, (hbD).trans (hbz.mono (hbD).size)⟩
end Go.Proofs.YtcdnkmefcldfmaaDoor
