/-
  The law PageParses, walked.
-/
import Derived.Test.YtcdnkmefcldfmaaDoorPgQi
import Derived.Test.YtcdnkmefcldfmaaDoorPgSc
import Derived.Test.YtcdnkmefcldfmaaDoorPgAg
namespace Go.Proofs.YtcdnkmefcldfmaaDoor
open Go.RowKit Go.Um

theorem same_zero (w : World) : Calls Tryd.prog 13 #[.agg #[.int .i64 0, .int .i64 0, .int .i64 0, .int .i64 0, .slice none 0 0, .slice none 0 0], .agg #[.int .i64 0, .int .i64 0, .int .i64 0, .int .i64 0, .slice none 0 0, .slice none 0 0]] w fun e w' => e = .returned (.bool true) ∧ Below w.heap.size w w' :=
  same_desc d0 (.slice none 0 0) (.slice none 0 0) (.slice none 0 0) (.slice none 0 0) w (list_nil _ _ _) (list_nil _ _ _) (list_nil _ _ _) (list_nil _ _ _)

set_option maxHeartbeats 4000000 in
set_option maxRecDepth 100000 in
theorem parses_long (s : ByteArray) (hs : 65536 < s.size) (hs2 : s.size ≤ 9223372036854775807) (w : World) (hv : Vars w.heap.size w) : Calls Tryd.prog 4 #[.string s] w fun e w' => e = .returned (.bool true) ∧ Below w.heap.size w w' := by
  have HV := hid hv
  clear hv
  have h1 : (65536 : Int) < s.size := by omega
  have HP := hid (Parse_long s hs hs2 w)
  go_enter Tryd.func4, Tryd.ntmps4
  go_wp2_with fail
  refine HP.out.mono ?_
  rintro e w1 ⟨rfl, hb1⟩
  clear HP
  unfold zeroD
  have hx : (w1.alloc (.cells #[.int .i64 0, .int .i64 0, .int .i64 0, .int .i64 0, .slice none 0 0, .slice none 0 0] 26)).heap[w1.heap.size]? = some (.cells #[.int .i64 0, .int .i64 0, .int .i64 0, .int .i64 0, .slice none 0 0, .slice none 0 0] 26 (0, 0)) := heap_alloc_new _ _
  have hbA : Below w.heap.size w (w1.alloc (.cells #[.int .i64 0, .int .i64 0, .int .i64 0, .int .i64 0, .slice none 0 0, .slice none 0 0] 26)) := hb1.alloc hb1.size _
  have b0 : (w1.alloc (.cells #[.int .i64 0, .int .i64 0, .int .i64 0, .int .i64 0, .slice none 0 0, .slice none 0 0] 26)).cell? ⟨w1.heap.size, 0, none⟩ = some (.int .i64 0) := by rw [Lib.cell_of_heap hx]; rfl
  have b1 : (w1.alloc (.cells #[.int .i64 0, .int .i64 0, .int .i64 0, .int .i64 0, .slice none 0 0, .slice none 0 0] 26)).cell? ⟨w1.heap.size, 1, none⟩ = some (.int .i64 0) := by rw [Lib.cell_of_heap hx]; rfl
  have b2 : (w1.alloc (.cells #[.int .i64 0, .int .i64 0, .int .i64 0, .int .i64 0, .slice none 0 0, .slice none 0 0] 26)).cell? ⟨w1.heap.size, 2, none⟩ = some (.int .i64 0) := by rw [Lib.cell_of_heap hx]; rfl
  have b3 : (w1.alloc (.cells #[.int .i64 0, .int .i64 0, .int .i64 0, .int .i64 0, .slice none 0 0, .slice none 0 0] 26)).cell? ⟨w1.heap.size, 3, none⟩ = some (.int .i64 0) := by rw [Lib.cell_of_heap hx]; rfl
  have b4 : (w1.alloc (.cells #[.int .i64 0, .int .i64 0, .int .i64 0, .int .i64 0, .slice none 0 0, .slice none 0 0] 26)).cell? ⟨w1.heap.size, 4, none⟩ = some (.slice none 0 0) := by rw [Lib.cell_of_heap hx]; rfl
  have b5 : (w1.alloc (.cells #[.int .i64 0, .int .i64 0, .int .i64 0, .int .i64 0, .slice none 0 0, .slice none 0 0] 26)).cell? ⟨w1.heap.size, 5, none⟩ = some (.slice none 0 0) := by rw [Lib.cell_of_heap hx]; rfl
  clear hx
  go_wp2_with fail
  refine (same_zero _).mono ?_
  rintro e w2 ⟨rfl, hb2⟩
  have HB := hid (hbA.trans (hb2.mono hbA.size))
  clear b0 b1 b2 b3 b4 b5 hb2
  go_wp2_with fail
  refine (awake_calls _ ((HV.out.on HB.out).more HB.out.size)).mono ?_
  rintro e wz ⟨rfl, hbz⟩
  go_wp2_with fail
  go_ret
  exact ⟨rfl, HB.out.trans (hbz.mono HB.out.size)⟩

set_option maxHeartbeats 4000000 in
set_option maxRecDepth 100000 in
theorem parses_calls (s : ByteArray) (hs2 : s.size ≤ 9223372036854775807) (w : World) (hv : Vars w.heap.size w) : Calls Tryd.prog 4 #[.string s] w fun e w' => e = .returned (.bool true) ∧ Below w.heap.size w w' := by
  by_cases hlong : 65536 < s.size
  · exact parses_long s hlong hs2 w hv
  · have h1 : ¬ (65536 : Int) < s.size := by omega
    have HV := hid hv
    have HP := hid (Parse_calls s (by omega) w hv)
    have HR := hid (fun w' => rParse_calls s (by omega) w')
    clear hv
    cases hp : parseF (s.data.toList.length + 1) 1 d0 s.data.toList with
    | inr n =>
      have hn := parse_ge hp
      have hn2 := parse_big hp (Nat.lt_succ_self _)
      rw [sizeL] at hn2
      have hn' : (0 : Int) < n := by omega
      have HPP := hid hp
      clear hp
      go_enter Tryd.func4, Tryd.ntmps4
      go_wp2_with fail
      refine HP.out.mono ?_
      rintro e w1 ⟨hb1, hm⟩
      rw [HPP.out] at hm
      simp only at hm
      subst hm
      clear HP
      unfold zeroD
      have hbA : Below w.heap.size w (w1.alloc (.cells #[.int .i64 0, .int .i64 0, .int .i64 0, .int .i64 0, .slice none 0 0, .slice none 0 0] 26)) := hb1.alloc hb1.size _
      have hxA : (w1.alloc (.cells #[.int .i64 0, .int .i64 0, .int .i64 0, .int .i64 0, .slice none 0 0, .slice none 0 0] 26)).heap[w1.heap.size]? = some (.cells #[.int .i64 0, .int .i64 0, .int .i64 0, .int .i64 0, .slice none 0 0, .slice none 0 0] 26 (0, 0)) := heap_alloc_new _ _
      have hlA : w1.heap.size < (w1.alloc (.cells #[.int .i64 0, .int .i64 0, .int .i64 0, .int .i64 0, .slice none 0 0, .slice none 0 0] 26)).heap.size := by simp
      have HXA := hid hxA
      clear hxA
      go_wp2_with fail
      refine (HR.out _).mono ?_
      rintro e w2 ⟨hb2, hm⟩
      rw [HPP.out] at hm
      simp only at hm
      subst hm
      have hbB : Below w.heap.size w w2 := hbA.trans (hb2.mono hbA.size)
      have HX2 := hid ((hb2.block _ hlA).trans HXA.out)
      have hl2 : w1.heap.size < w2.heap.size := Nat.lt_of_lt_of_le hlA hb2.size
      unfold zeroD
      have hbC : Below w.heap.size w (w2.alloc (.cells #[.int .i64 0, .int .i64 0, .int .i64 0, .int .i64 0, .slice none 0 0, .slice none 0 0] 26)) := hbB.alloc hbB.size _
      have hx3 : (w2.alloc (.cells #[.int .i64 0, .int .i64 0, .int .i64 0, .int .i64 0, .slice none 0 0, .slice none 0 0] 26)).heap[w1.heap.size]? = some (.cells #[.int .i64 0, .int .i64 0, .int .i64 0, .int .i64 0, .slice none 0 0, .slice none 0 0] 26 (0, 0)) := (Below.heap_alloc _ _ _ hl2).trans HX2.out
      have b0 : (w2.alloc (.cells #[.int .i64 0, .int .i64 0, .int .i64 0, .int .i64 0, .slice none 0 0, .slice none 0 0] 26)).cell? ⟨w1.heap.size, 0, none⟩ = some (.int .i64 0) := by rw [Lib.cell_of_heap hx3]; rfl
      have b1 : (w2.alloc (.cells #[.int .i64 0, .int .i64 0, .int .i64 0, .int .i64 0, .slice none 0 0, .slice none 0 0] 26)).cell? ⟨w1.heap.size, 1, none⟩ = some (.int .i64 0) := by rw [Lib.cell_of_heap hx3]; rfl
      have b2 : (w2.alloc (.cells #[.int .i64 0, .int .i64 0, .int .i64 0, .int .i64 0, .slice none 0 0, .slice none 0 0] 26)).cell? ⟨w1.heap.size, 2, none⟩ = some (.int .i64 0) := by rw [Lib.cell_of_heap hx3]; rfl
      have b3 : (w2.alloc (.cells #[.int .i64 0, .int .i64 0, .int .i64 0, .int .i64 0, .slice none 0 0, .slice none 0 0] 26)).cell? ⟨w1.heap.size, 3, none⟩ = some (.int .i64 0) := by rw [Lib.cell_of_heap hx3]; rfl
      have b4 : (w2.alloc (.cells #[.int .i64 0, .int .i64 0, .int .i64 0, .int .i64 0, .slice none 0 0, .slice none 0 0] 26)).cell? ⟨w1.heap.size, 4, none⟩ = some (.slice none 0 0) := by rw [Lib.cell_of_heap hx3]; rfl
      have b5 : (w2.alloc (.cells #[.int .i64 0, .int .i64 0, .int .i64 0, .int .i64 0, .slice none 0 0, .slice none 0 0] 26)).cell? ⟨w1.heap.size, 5, none⟩ = some (.slice none 0 0) := by rw [Lib.cell_of_heap hx3]; rfl
      clear hx3 hb2
      go_wp2_with fail
      refine (same_zero _).mono ?_
      rintro e w3 ⟨rfl, hb3⟩
      have HB := hid (hbC.trans (hb3.mono hbC.size))
      clear b0 b1 b2 b3 b4 b5 hb3
      go_wp2_with fail
      refine (awake_calls _ ((HV.out.on HB.out).more HB.out.size)).mono ?_
      rintro e wz ⟨rfl, hbz⟩
      go_wp2_with fail
      go_ret
      exact ⟨rfl, HB.out.trans (hbz.mono HB.out.size)⟩
    | inl d =>
      have HPP := hid hp
      clear hp
      go_enter Tryd.func4, Tryd.ntmps4
      go_wp2_with fail
      refine HP.out.mono ?_
      rintro e w1 ⟨hb1, hm⟩
      rw [HPP.out] at hm
      obtain ⟨vr, vf, rfl, hr1, hf1, hi1⟩ := hm
      obtain ⟨A1, cp1, rfl, _, _⟩ := list_form hr1
      obtain ⟨A2, cp2, rfl, _, _⟩ := list_form hf1
      have HR1 := hid hr1
      have HF1 := hid hf1
      clear HP hr1 hf1
      have hbA : Below w.heap.size w (w1.alloc (.cells #[.int .i64 d.inn, .int .i64 d.out, .int .i64 d.states, .int .i64 d.start, .slice A1 d.rules.length cp1, .slice A2 d.finals.length cp2] 26)) := hb1.alloc hb1.size _
      have hb1A : Below w1.heap.size w1 (w1.alloc (.cells #[.int .i64 d.inn, .int .i64 d.out, .int .i64 d.states, .int .i64 d.start, .slice A1 d.rules.length cp1, .slice A2 d.finals.length cp2] 26)) := (Below.refl _ _).alloc (Nat.le_refl _) _
      have hxA : (w1.alloc (.cells #[.int .i64 d.inn, .int .i64 d.out, .int .i64 d.states, .int .i64 d.start, .slice A1 d.rules.length cp1, .slice A2 d.finals.length cp2] 26)).heap[w1.heap.size]? = some (.cells #[.int .i64 d.inn, .int .i64 d.out, .int .i64 d.states, .int .i64 d.start, .slice A1 d.rules.length cp1, .slice A2 d.finals.length cp2] 26 (0, 0)) := heap_alloc_new _ _
      have hlA : w1.heap.size < (w1.alloc (.cells #[.int .i64 d.inn, .int .i64 d.out, .int .i64 d.states, .int .i64 d.start, .slice A1 d.rules.length cp1, .slice A2 d.finals.length cp2] 26)).heap.size := by simp
      have HXA := hid hxA
      clear hxA
      go_wp2_with fail
      refine (HR.out _).mono ?_
      rintro e w2 ⟨hb2, hm⟩
      rw [HPP.out] at hm
      obtain ⟨vr2, vf2, rfl, hr2, hf2, hi2⟩ := hm
      obtain ⟨A3, cp3, rfl, _, _⟩ := list_form hr2
      obtain ⟨A4, cp4, rfl, _, _⟩ := list_form hf2
      have HR2 := hid hr2
      have HF2 := hid hf2
      clear hr2 hf2
      unfold aggD
      have hbB : Below w.heap.size w w2 := hbA.trans (hb2.mono hbA.size)
      have HX2 := hid ((hb2.block _ hlA).trans HXA.out)
      have hl2 : w1.heap.size < w2.heap.size := Nat.lt_of_lt_of_le hlA hb2.size
      have hbC : Below w.heap.size w (w2.alloc (.cells #[.int .i64 d.inn, .int .i64 d.out, .int .i64 d.states, .int .i64 d.start, .slice A3 d.rules.length cp3, .slice A4 d.finals.length cp4] 26)) := hbB.alloc hbB.size _
      have hb2C : Below w2.heap.size w2 (w2.alloc (.cells #[.int .i64 d.inn, .int .i64 d.out, .int .i64 d.states, .int .i64 d.start, .slice A3 d.rules.length cp3, .slice A4 d.finals.length cp4] 26)) := (Below.refl _ _).alloc (Nat.le_refl _) _
      have hb1C : Below w1.heap.size w1 (w2.alloc (.cells #[.int .i64 d.inn, .int .i64 d.out, .int .i64 d.states, .int .i64 d.start, .slice A3 d.rules.length cp3, .slice A4 d.finals.length cp4] 26)) := hb1A.trans ((hb2.trans (hb2C.mono hb2.size)).mono hb1A.size)
      have HS := hid (same_desc d (.slice A1 d.rules.length cp1) (.slice A2 d.finals.length cp2) (.slice A3 d.rules.length cp3) (.slice A4 d.finals.length cp4) (w2.alloc (.cells #[.int .i64 d.inn, .int .i64 d.out, .int .i64 d.states, .int .i64 d.start, .slice A3 d.rules.length cp3, .slice A4 d.finals.length cp4] 26)) ((listR ruleR).later HR1.out hb1C) ((listR finalR).later HF1.out hb1C) ((listR ruleR).later HR2.out hb2C) ((listR finalR).later HF2.out hb2C))
      have hx3 : (w2.alloc (.cells #[.int .i64 d.inn, .int .i64 d.out, .int .i64 d.states, .int .i64 d.start, .slice A3 d.rules.length cp3, .slice A4 d.finals.length cp4] 26)).heap[w1.heap.size]? = some (.cells #[.int .i64 d.inn, .int .i64 d.out, .int .i64 d.states, .int .i64 d.start, .slice A1 d.rules.length cp1, .slice A2 d.finals.length cp2] 26 (0, 0)) := (Below.heap_alloc _ _ _ hl2).trans HX2.out
      have hx4 : (w2.alloc (.cells #[.int .i64 d.inn, .int .i64 d.out, .int .i64 d.states, .int .i64 d.start, .slice A3 d.rules.length cp3, .slice A4 d.finals.length cp4] 26)).heap[w2.heap.size]? = some (.cells #[.int .i64 d.inn, .int .i64 d.out, .int .i64 d.states, .int .i64 d.start, .slice A3 d.rules.length cp3, .slice A4 d.finals.length cp4] 26 (0, 0)) := heap_alloc_new _ _
      have b0 : (w2.alloc (.cells #[.int .i64 d.inn, .int .i64 d.out, .int .i64 d.states, .int .i64 d.start, .slice A3 d.rules.length cp3, .slice A4 d.finals.length cp4] 26)).cell? ⟨w1.heap.size, 0, none⟩ = some (.int .i64 d.inn) := by rw [Lib.cell_of_heap hx3]; rfl
      have b1 : (w2.alloc (.cells #[.int .i64 d.inn, .int .i64 d.out, .int .i64 d.states, .int .i64 d.start, .slice A3 d.rules.length cp3, .slice A4 d.finals.length cp4] 26)).cell? ⟨w1.heap.size, 1, none⟩ = some (.int .i64 d.out) := by rw [Lib.cell_of_heap hx3]; rfl
      have b2 : (w2.alloc (.cells #[.int .i64 d.inn, .int .i64 d.out, .int .i64 d.states, .int .i64 d.start, .slice A3 d.rules.length cp3, .slice A4 d.finals.length cp4] 26)).cell? ⟨w1.heap.size, 2, none⟩ = some (.int .i64 d.states) := by rw [Lib.cell_of_heap hx3]; rfl
      have b3 : (w2.alloc (.cells #[.int .i64 d.inn, .int .i64 d.out, .int .i64 d.states, .int .i64 d.start, .slice A3 d.rules.length cp3, .slice A4 d.finals.length cp4] 26)).cell? ⟨w1.heap.size, 3, none⟩ = some (.int .i64 d.start) := by rw [Lib.cell_of_heap hx3]; rfl
      have b4 : (w2.alloc (.cells #[.int .i64 d.inn, .int .i64 d.out, .int .i64 d.states, .int .i64 d.start, .slice A3 d.rules.length cp3, .slice A4 d.finals.length cp4] 26)).cell? ⟨w1.heap.size, 4, none⟩ = some (.slice A1 d.rules.length cp1) := by rw [Lib.cell_of_heap hx3]; rfl
      have b5 : (w2.alloc (.cells #[.int .i64 d.inn, .int .i64 d.out, .int .i64 d.states, .int .i64 d.start, .slice A3 d.rules.length cp3, .slice A4 d.finals.length cp4] 26)).cell? ⟨w1.heap.size, 5, none⟩ = some (.slice A2 d.finals.length cp2) := by rw [Lib.cell_of_heap hx3]; rfl
      have k0 : (w2.alloc (.cells #[.int .i64 d.inn, .int .i64 d.out, .int .i64 d.states, .int .i64 d.start, .slice A3 d.rules.length cp3, .slice A4 d.finals.length cp4] 26)).cell? ⟨w2.heap.size, 0, none⟩ = some (.int .i64 d.inn) := by rw [Lib.cell_of_heap hx4]; rfl
      have k1 : (w2.alloc (.cells #[.int .i64 d.inn, .int .i64 d.out, .int .i64 d.states, .int .i64 d.start, .slice A3 d.rules.length cp3, .slice A4 d.finals.length cp4] 26)).cell? ⟨w2.heap.size, 1, none⟩ = some (.int .i64 d.out) := by rw [Lib.cell_of_heap hx4]; rfl
      have k2 : (w2.alloc (.cells #[.int .i64 d.inn, .int .i64 d.out, .int .i64 d.states, .int .i64 d.start, .slice A3 d.rules.length cp3, .slice A4 d.finals.length cp4] 26)).cell? ⟨w2.heap.size, 2, none⟩ = some (.int .i64 d.states) := by rw [Lib.cell_of_heap hx4]; rfl
      have k3 : (w2.alloc (.cells #[.int .i64 d.inn, .int .i64 d.out, .int .i64 d.states, .int .i64 d.start, .slice A3 d.rules.length cp3, .slice A4 d.finals.length cp4] 26)).cell? ⟨w2.heap.size, 3, none⟩ = some (.int .i64 d.start) := by rw [Lib.cell_of_heap hx4]; rfl
      have k4 : (w2.alloc (.cells #[.int .i64 d.inn, .int .i64 d.out, .int .i64 d.states, .int .i64 d.start, .slice A3 d.rules.length cp3, .slice A4 d.finals.length cp4] 26)).cell? ⟨w2.heap.size, 4, none⟩ = some (.slice A3 d.rules.length cp3) := by rw [Lib.cell_of_heap hx4]; rfl
      have k5 : (w2.alloc (.cells #[.int .i64 d.inn, .int .i64 d.out, .int .i64 d.states, .int .i64 d.start, .slice A3 d.rules.length cp3, .slice A4 d.finals.length cp4] 26)).cell? ⟨w2.heap.size, 5, none⟩ = some (.slice A4 d.finals.length cp4) := by rw [Lib.cell_of_heap hx4]; rfl
      clear hx3 hx4 hb2 hi1 hi2
      go_wp2_with fail
      refine HS.out.mono ?_
      rintro e w3 ⟨rfl, hb3⟩
      have HB := hid (hbC.trans (hb3.mono hbC.size))
      clear b0 b1 b2 b3 b4 b5 k0 k1 k2 k3 k4 k5 hb3
      go_wp2_with fail
      refine (awake_calls _ ((HV.out.on HB.out).more HB.out.size)).mono ?_
      rintro e wz ⟨rfl, hbz⟩
      go_wp2_with fail
      go_ret
      exact ⟨rfl, HB.out.trans (hbz.mono HB.out.size)⟩
end Go.Proofs.YtcdnkmefcldfmaaDoor
