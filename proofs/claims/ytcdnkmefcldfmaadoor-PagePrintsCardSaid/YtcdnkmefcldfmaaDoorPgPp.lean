/-
  The law PagePrints, walked.
-/
import Derived.Test.YtcdnkmefcldfmaaDoorPgR4
import Derived.Test.YtcdnkmefcldfmaaDoorPgLi
namespace Go.Proofs.YtcdnkmefcldfmaaDoor
open Go.RowKit Go.Um

set_option maxHeartbeats 4000000 in
set_option maxRecDepth 100000 in
theorem prints_calls (d : Desc) (v u : Value) (w : World) (hr : (listR ruleR).rel w (upto w.heap.size) [v] d.rules) (hfi : (listR finalR).rel w (upto w.heap.size) [u] d.finals) (hd : I64 d.inn ∧ I64 d.out ∧ I64 d.states ∧ I64 d.start) (hv : Vars w.heap.size w) :
    Calls Tryd.prog 3 #[.agg #[.int .i64 d.inn, .int .i64 d.out, .int .i64 d.states, .int .i64 d.start, v, u]] w fun e w' => e = .returned (.bool true) ∧ Below w.heap.size w w' := by
  have hok := hid (desc_ok hr hfi hd)
  obtain ⟨A1, cp1, rfl, hcp1, hm1⟩ := list_form hr
  obtain ⟨A2, cp2, rfl, hcp2, hm2⟩ := list_form hfi
  unfold maxLen at hm1 hm2
  have HV := hid hv
  have hb0 : Below w.heap.size w (w.alloc (.cells #[.int .i64 d.inn, .int .i64 d.out, .int .i64 d.states, .int .i64 d.start, .slice A1 d.rules.length cp1, .slice A2 d.finals.length cp2] 26)) := (Below.refl _ _).alloc (Nat.le_refl _) _
  have hxb : (w.alloc (.cells #[.int .i64 d.inn, .int .i64 d.out, .int .i64 d.states, .int .i64 d.start, .slice A1 d.rules.length cp1, .slice A2 d.finals.length cp2] 26)).heap[w.heap.size]? = some (.cells #[.int .i64 d.inn, .int .i64 d.out, .int .i64 d.states, .int .i64 d.start, .slice A1 d.rules.length cp1, .slice A2 d.finals.length cp2] 26 (0, 0)) := heap_alloc_new _ _
  have HXB := hid hxb
  clear hxb
  have hz0 : w.heap.size < (w.alloc (.cells #[.int .i64 d.inn, .int .i64 d.out, .int .i64 d.states, .int .i64 d.start, .slice A1 d.rules.length cp1, .slice A2 d.finals.length cp2] 26)).heap.size := by simp
  have HSM := hid (small_calls d (.slice A1 d.rules.length cp1) (.slice A2 d.finals.length cp2) (w.alloc (.cells #[.int .i64 d.inn, .int .i64 d.out, .int .i64 d.states, .int .i64 d.start, .slice A1 d.rules.length cp1, .slice A2 d.finals.length cp2] 26)) ((listR ruleR).later hr hb0) ((listR finalR).later hfi hb0) d.inn d.out d.states d.start)
  have HPR := hid (fun w' (hb : Below w.heap.size w w') => Print_calls d (.slice A1 d.rules.length cp1) (.slice A2 d.finals.length cp2) w' ((listR ruleR).later hr hb) ((listR finalR).later hfi hb) hd ((HV.out.on hb).more hb.size))
  have HRP := hid (fun (hs : smallF d = true) w' (hb : Below w.heap.size w w') => rPrint_calls d (.slice A1 d.rules.length cp1) (.slice A2 d.finals.length cp2) w' ((listR ruleR).later hr hb) ((listR finalR).later hfi hb) hd (print_le hok.out hs))
  clear hv hr hfi hd
  cases hsm : smallF d with
  | false =>
    rw [hsm] at HSM
    clear hsm
    go_enter Tryd.func3, Tryd.ntmps3
    go_wp2_with fail
    refine HSM.out.mono ?_
    rintro e w1 ⟨rfl, hbs⟩
    have hb1 := hb0.trans (hbs.mono hb0.size)
    clear HSM
    go_wp2_with fail
    refine (awake_calls _ ((HV.out.on hb1).more (hb1).size)).mono ?_
    rintro e wz ⟨rfl, hbz⟩
    go_wp2_with fail
    go_ret
    exact ⟨rfl, (hb1).trans (hbz.mono (hb1).size)⟩
  | true =>
    rw [hsm] at HSM
    have HRP := hid (HRP.out hsm)
    clear hsm
    by_cases hlong : 65536 < (printL d).length
    · have hpv : printV d = .tuple #[.string ⟨#[]⟩, .int .i64 4] := by unfold printV; rw [if_pos hlong]
      rw [hpv] at HPR
      have hw1 : (65536 : Int) < (bs (printL d)).size := by rw [bs_size]; omega
      clear hpv hlong
      go_enter Tryd.func3, Tryd.ntmps3
      go_wp2_with fail
      refine HSM.out.mono ?_
      rintro e w1 ⟨rfl, hbs⟩
      have hb1 := hb0.trans (hbs.mono hb0.size)
      have HX := hid ((hbs.block _ hz0).trans HXB.out)
      have b0 : w1.cell? ⟨w.heap.size, 0, none⟩ = some (.int .i64 d.inn) := by rw [Lib.cell_of_heap HX.out]; rfl
      have b1 : w1.cell? ⟨w.heap.size, 1, none⟩ = some (.int .i64 d.out) := by rw [Lib.cell_of_heap HX.out]; rfl
      have b2 : w1.cell? ⟨w.heap.size, 2, none⟩ = some (.int .i64 d.states) := by rw [Lib.cell_of_heap HX.out]; rfl
      have b3 : w1.cell? ⟨w.heap.size, 3, none⟩ = some (.int .i64 d.start) := by rw [Lib.cell_of_heap HX.out]; rfl
      have b4 : w1.cell? ⟨w.heap.size, 4, none⟩ = some (.slice A1 d.rules.length cp1) := by rw [Lib.cell_of_heap HX.out]; rfl
      have b5 : w1.cell? ⟨w.heap.size, 5, none⟩ = some (.slice A2 d.finals.length cp2) := by rw [Lib.cell_of_heap HX.out]; rfl
      clear HSM
      go_wp2_with fail
      refine (HPR.out _ hb1).mono ?_
      rintro e w2 ⟨rfl, hb2⟩
      have hbB := hb1.trans (hb2.mono hb1.size)
      have hz1 : w.heap.size < w1.heap.size := Nat.lt_of_lt_of_le hz0 hbs.size
      have HX := hid ((hb2.block _ hz1).trans HX.out)
      clear HPR b0 b1 b2 b3 b4 b5
      have b0 : w2.cell? ⟨w.heap.size, 0, none⟩ = some (.int .i64 d.inn) := by rw [Lib.cell_of_heap HX.out]; rfl
      have b1 : w2.cell? ⟨w.heap.size, 1, none⟩ = some (.int .i64 d.out) := by rw [Lib.cell_of_heap HX.out]; rfl
      have b2 : w2.cell? ⟨w.heap.size, 2, none⟩ = some (.int .i64 d.states) := by rw [Lib.cell_of_heap HX.out]; rfl
      have b3 : w2.cell? ⟨w.heap.size, 3, none⟩ = some (.int .i64 d.start) := by rw [Lib.cell_of_heap HX.out]; rfl
      have b4 : w2.cell? ⟨w.heap.size, 4, none⟩ = some (.slice A1 d.rules.length cp1) := by rw [Lib.cell_of_heap HX.out]; rfl
      have b5 : w2.cell? ⟨w.heap.size, 5, none⟩ = some (.slice A2 d.finals.length cp2) := by rw [Lib.cell_of_heap HX.out]; rfl
      go_wp2_with fail
      refine (HRP.out _ hbB).mono ?_
      rintro e w3 ⟨rfl, hb3⟩
      have hbC := hbB.trans (hb3.mono hbB.size)
      clear HRP
      go_wp2_with fail
      refine (awake_calls _ ((HV.out.on hbC).more (hbC).size)).mono ?_
      rintro e wz ⟨rfl, hbz⟩
      go_wp2_with fail
      go_ret
      exact ⟨rfl, (hbC).trans (hbz.mono (hbC).size)⟩
    · have hpv : printV d = .tuple #[.string (bs (printL d)), .int .i64 0] := by unfold printV; rw [if_neg hlong]; rfl
      rw [hpv] at HPR
      have hw1 : ¬ (65536 : Int) < (bs (printL d)).size := by rw [bs_size]; omega
      clear hpv hlong
      generalize bs (printL d) = s at HPR HRP hw1
      go_enter Tryd.func3, Tryd.ntmps3
      go_wp2_with fail
      refine HSM.out.mono ?_
      rintro e w1 ⟨rfl, hbs⟩
      have hb1 := hb0.trans (hbs.mono hb0.size)
      have HX := hid ((hbs.block _ hz0).trans HXB.out)
      have b0 : w1.cell? ⟨w.heap.size, 0, none⟩ = some (.int .i64 d.inn) := by rw [Lib.cell_of_heap HX.out]; rfl
      have b1 : w1.cell? ⟨w.heap.size, 1, none⟩ = some (.int .i64 d.out) := by rw [Lib.cell_of_heap HX.out]; rfl
      have b2 : w1.cell? ⟨w.heap.size, 2, none⟩ = some (.int .i64 d.states) := by rw [Lib.cell_of_heap HX.out]; rfl
      have b3 : w1.cell? ⟨w.heap.size, 3, none⟩ = some (.int .i64 d.start) := by rw [Lib.cell_of_heap HX.out]; rfl
      have b4 : w1.cell? ⟨w.heap.size, 4, none⟩ = some (.slice A1 d.rules.length cp1) := by rw [Lib.cell_of_heap HX.out]; rfl
      have b5 : w1.cell? ⟨w.heap.size, 5, none⟩ = some (.slice A2 d.finals.length cp2) := by rw [Lib.cell_of_heap HX.out]; rfl
      clear HSM
      go_wp2_with fail
      refine (HPR.out _ hb1).mono ?_
      rintro e w2 ⟨rfl, hb2⟩
      have hbB := hb1.trans (hb2.mono hb1.size)
      have hz1 : w.heap.size < w1.heap.size := Nat.lt_of_lt_of_le hz0 hbs.size
      have HX := hid ((hb2.block _ hz1).trans HX.out)
      clear HPR b0 b1 b2 b3 b4 b5
      have b0 : w2.cell? ⟨w.heap.size, 0, none⟩ = some (.int .i64 d.inn) := by rw [Lib.cell_of_heap HX.out]; rfl
      have b1 : w2.cell? ⟨w.heap.size, 1, none⟩ = some (.int .i64 d.out) := by rw [Lib.cell_of_heap HX.out]; rfl
      have b2 : w2.cell? ⟨w.heap.size, 2, none⟩ = some (.int .i64 d.states) := by rw [Lib.cell_of_heap HX.out]; rfl
      have b3 : w2.cell? ⟨w.heap.size, 3, none⟩ = some (.int .i64 d.start) := by rw [Lib.cell_of_heap HX.out]; rfl
      have b4 : w2.cell? ⟨w.heap.size, 4, none⟩ = some (.slice A1 d.rules.length cp1) := by rw [Lib.cell_of_heap HX.out]; rfl
      have b5 : w2.cell? ⟨w.heap.size, 5, none⟩ = some (.slice A2 d.finals.length cp2) := by rw [Lib.cell_of_heap HX.out]; rfl
      go_wp2_with fail
      refine (HRP.out _ hbB).mono ?_
      rintro e w3 ⟨rfl, hb3⟩
      have hbC := hbB.trans (hb3.mono hbB.size)
      clear HRP
      go_wp2_with fail
      refine (awake_calls _ ((HV.out.on hbC).more (hbC).size)).mono ?_
      rintro e wz ⟨rfl, hbz⟩
      go_wp2_with fail
      go_ret
      exact ⟨rfl, (hbC).trans (hbz.mono (hbC).size)⟩
end Go.Proofs.YtcdnkmefcldfmaaDoor
