/-
  page.Print: a description's text, or that it is too long.
-/
import Derived.Test.YtcdnkmefcldfmaaDoorPgBody
namespace Go.Proofs.YtcdnkmefcldfmaaDoor
open Go.RowKit Go.Um

/-- what Print hands back. -/
def printV (d : Desc) : Value := if 65536 < (printL d).length then .tuple #[.string ⟨#[]⟩, .int .i64 4] else .tuple #[.string ⟨(printL d).toArray⟩, .int .i64 0]
theorem printL_ne (d : Desc) : printL d ≠ [] := by simp [printL, nl]

set_option maxHeartbeats 4000000 in
set_option maxRecDepth 100000 in
theorem Print_calls (d : Desc) (v u : Value) (w : World) (hr : (listR ruleR).rel w (upto w.heap.size) [v] d.rules) (hfi : (listR finalR).rel w (upto w.heap.size) [u] d.finals) (hd : I64 d.inn ∧ I64 d.out ∧ I64 d.states ∧ I64 d.start) (hv : Vars w.heap.size w) :
    Calls Tryd.prog 10 #[.agg #[.int .i64 d.inn, .int .i64 d.out, .int .i64 d.states, .int .i64 d.start, v, u]] w fun e w' => e = .returned (printV d) ∧ Below w.heap.size w w' := by
  obtain ⟨A1, cp1, rfl, hcp1, hm1⟩ := list_form hr
  obtain ⟨A2, cp2, rfl, hcp2, hm2⟩ := list_form hfi
  unfold maxLen at hm1 hm2
  obtain ⟨w0, hw0⟩ : ∃ w0, w0 = (w.alloc (.cells #[.int .i64 d.inn, .int .i64 d.out, .int .i64 d.states, .int .i64 d.start, .slice A1 d.rules.length cp1, .slice A2 d.finals.length cp2] 26)).alloc (.cells #[.pointer none, .slice none 0 0] 55) := ⟨_, rfl⟩
  have hB0 : Below w.heap.size w w0 := by rw [hw0]; exact ((Below.refl _ _).alloc (Nat.le_refl _) _).alloc (by simp) _
  have hs0 : w0.heap.size = w.heap.size + 2 := by rw [hw0]; simp
  have hwr : Wr (w.heap.size + 1) (w.heap.size + 1) [] w0 := by
    refine ⟨[], .inl ⟨by simp, rfl⟩, ?_, by omega⟩
    have := Lib.fresh_isBuilder 55 5 (w.alloc (.cells #[.int .i64 d.inn, .int .i64 d.out, .int .i64 d.states, .int .i64 d.start, .slice A1 d.rules.length cp1, .slice A2 d.finals.length cp2] 26))
    have e : (w.alloc (.cells #[.int .i64 d.inn, .int .i64 d.out, .int .i64 d.states, .int .i64 d.start, .slice A1 d.rules.length cp1, .slice A2 d.finals.length cp2] 26)).heap.size = w.heap.size + 1 := by simp
    rw [e] at this
    rw [hw0]
    exact this
  have hbox : w0.heap[w.heap.size]? = some (.cells #[.int .i64 d.inn, .int .i64 d.out, .int .i64 d.states, .int .i64 d.start, .slice A1 d.rules.length cp1, .slice A2 d.finals.length cp2] 26 (0, 0)) := by
    rw [hw0, Below.heap_alloc _ _ _ (by simp)]
    exact heap_alloc_new _ _
  have hv0 : Vars (w.heap.size + 1) w0 := (hv.on hB0).more (by omega)
  have hr0 := (listR ruleR).mono (below_cells hB0) (S' := upto (w.heap.size + 1)) (fun b h => Nat.lt_succ_of_lt h) hr
  have hf0 := (listR finalR).mono (below_cells hB0) (S' := upto (w.heap.size + 1)) (fun b h => Nat.lt_succ_of_lt h) hfi
  have HB0 := hid hB0
  have HBX := hid hbox
  have HS0 := hid hs0
  clear hr hfi hv hB0 hbox hs0
  have b0 : ∀ W, Fr (w.heap.size + 1) (w.heap.size + 1) w0 W → W.heap[w.heap.size]? = some (.cells #[.int .i64 d.inn, .int .i64 d.out, .int .i64 d.states, .int .i64 d.start, .slice A1 d.rules.length cp1, .slice A2 d.finals.length cp2] 26 (0, 0)) :=
    fun W h => (h.below.block _ (Nat.lt_succ_self _)).trans HBX.out
  have HX := hid b0; clear b0
  have HV := hid hv0; clear hv0
  have HW0 := hid hw0; clear hw0
  go_enter Tryd.func10, Tryd.ntmps10
  go_wp2_with fail
  rw [← HW0.out]
  clear HW0
  refine (put_calls (w.heap.size + 1) (w.heap.size + 1) [] ⟨#[117, 109, 108, 97, 117, 116, 32]⟩ (by decide) _ hwr).mono ?_
  rintro e w1 ⟨rfl, hw1, hf1⟩
  have HX1 := hid (HX.out w1 hf1)
  have e0 : w1.cell? ⟨w.heap.size, 0, none⟩ = some (.int .i64 d.inn) := by rw [Lib.cell_of_heap HX1.out]; rfl
  have e1 : w1.cell? ⟨w.heap.size, 1, none⟩ = some (.int .i64 d.out) := by rw [Lib.cell_of_heap HX1.out]; rfl
  have e2 : w1.cell? ⟨w.heap.size, 2, none⟩ = some (.int .i64 d.states) := by rw [Lib.cell_of_heap HX1.out]; rfl
  have e3 : w1.cell? ⟨w.heap.size, 3, none⟩ = some (.int .i64 d.start) := by rw [Lib.cell_of_heap HX1.out]; rfl
  have hfN : Fr (w.heap.size + 1) (w.heap.size + 1) w1 (w1.alloc (.cells #[.int .i64 d.inn, .int .i64 d.out, .int .i64 d.states, .int .i64 d.start] 3)) := Fr.of_below ((Below.refl _ _).alloc (Nat.le_refl _) _) hw1.le
  have hwN : Wr (w.heap.size + 1) (w.heap.size + 1) ([] ++ [117, 109, 108, 97, 117, 116, 32]) (w1.alloc (.cells #[.int .i64 d.inn, .int .i64 d.out, .int .i64 d.states, .int .i64 d.start] 3)) := hw1.later ((Below.refl _ _).alloc (Nat.le_refl _) _)
  have HVN := hid ((HV.out.on hf1.below).on hfN.below)
  have hall : allI [d.inn, d.out, d.states, d.start] := by
    obtain ⟨i0, i1, i2, i3⟩ := hd
    intro z hz
    simp at hz
    rcases hz with rfl | rfl | rfl | rfl <;> assumption
  have hgb2 : w1.heap.size ≠ w.heap.size + 1 := by have := hw1.base.2; omega
  clear hd hwr HX1
  go_wp2_with fail
  refine (nums_calls (w.heap.size + 1) (w.heap.size + 1) ([] ++ [117, 109, 108, 97, 117, 116, 32]) _ [d.inn, d.out, d.states, d.start] 4 hall (by simp) _ hwN HVN.out (heap_alloc_new _ _) hgb2).mono ?_
  rintro e w2 ⟨rfl, hw2, hf2⟩
  clear e0 e1 e2 e3 hwN
  go_wp2_with fail
  refine (put_calls (w.heap.size + 1) (w.heap.size + 1) _ ⟨#[10]⟩ (by decide) _ hw2).mono ?_
  rintro e w3 ⟨rfl, hw3, hf3⟩
  have hfA := ((hf1.trans hfN).trans hf2).trans hf3
  have hwA : Wr (w.heap.size + 1) (w.heap.size + 1) (nl (headL d)) w3 := by simpa [nl, headL] using hw3
  clear hf1 hfN hf2 hf3 hw3 hw2 hw1 hall HVN hgb2
  go_wp2_with fail
  go_loopw [5] (fun vi wr => ∃ (k : Nat) (M : By), k ≤ d.rules.length ∧ vi = .int .i64 k ∧ Wr (w.heap.size + 1) (w.heap.size + 1) M wr ∧ M ++ rulesL (d.rules.drop k) = nl (headL d) ++ rulesL d.rules ∧ Fr (w.heap.size + 1) (w.heap.size + 1) w0 wr) (fun vi _ => d.rules.length - (intOf vi).toNat)
  case atStart => exact ⟨0, _, Nat.zero_le _, rfl, hwA, rfl, hfA⟩
  case round =>
    obtain ⟨wo, hwo⟩ : ∃ wo, wo = wr := ⟨_, rfl⟩
    subst hwo
    obtain ⟨k, M, hk, rfl, hw, hM, hf⟩ := hrel
    have HM := hid hM; clear hM
    have HVR := hid (HV.out.on hf.below)
    have hrr := (listR ruleR).mono (below_cells hf.below) (fun _ h => h) hr0
    have e4 : wo.cell? ⟨w.heap.size, 4, none⟩ = some (.slice A1 d.rules.length cp1) := by rw [Lib.cell_of_heap (HX.out wo hf)]; rfl
    by_cases hlt : k < d.rules.length
    · have HF := hid (full_calls (w.heap.size + 1) (w.heap.size + 1) M wo hw)
      have hlt' : (k : Int) < d.rules.length := by omega
      by_cases hfull : 65536 < M.length
      · rw [show decide (65536 < M.length) = true by simp [hfull]] at HF
        have hwD : Wr (w.heap.size + 1) (w.heap.size + 1) (nl (headL d) ++ rulesL d.rules) wo := by
          have h1 := hw.more hfull (rulesL (d.rules.drop k))
          rwa [HM.out] at h1
        have hfD := hf
        clear HM hrr hfull hw hf HVR hwA hfA
        go_wp2_with fail
        refine HF.out.mono ?_
        rintro e w1 ⟨rfl, rfl⟩
        clear HF hlt hlt'
        go_wp2_with fail
        go_loopw [7] (fun vi wr => ∃ (k : Nat) (M : By), k ≤ d.finals.length ∧ vi = .int .i64 k ∧ Wr (w.heap.size + 1) (w.heap.size + 1) M wr ∧ M ++ finalsL (d.finals.drop k) = printL d ∧ Fr (w.heap.size + 1) (w.heap.size + 1) w0 wr) (fun vi _ => d.finals.length - (intOf vi).toNat)
        case atStart => exact ⟨0, _, Nat.zero_le _, rfl, hwD, by simp [printL], hfD⟩
        case round =>
          obtain ⟨wo, hwo⟩ : ∃ wo, wo = wr := ⟨_, rfl⟩
          subst hwo
          obtain ⟨k, M, hk, rfl, hw, hM, hf⟩ := hrel
          have HM := hid hM; clear hM
          have HVR := hid (HV.out.on hf.below)
          have hfr := (listR finalR).mono (below_cells hf.below) (fun _ h => h) hf0
          have e5 : wo.cell? ⟨w.heap.size, 5, none⟩ = some (.slice A2 d.finals.length cp2) := by rw [Lib.cell_of_heap (HX.out wo hf)]; rfl
          by_cases hlt : k < d.finals.length
          · have HF := hid (full_calls (w.heap.size + 1) (w.heap.size + 1) M wo hw)
            have hlt' : (k : Int) < d.finals.length := by omega
            by_cases hfull : 65536 < M.length
            · rw [show decide (65536 < M.length) = true by simp [hfull]] at HF
              have hwE : Wr (w.heap.size + 1) (w.heap.size + 1) (printL d) wo := by
                have h1 := hw.more hfull (finalsL (d.finals.drop k))
                rwa [HM.out] at h1
              have hfE := hf
              clear HM hfr hfull hw hf HVR
              go_wp2_with fail
              refine HF.out.mono ?_
              rintro e w1 ⟨rfl, rfl⟩
              clear HF
              go_wp2_with fail
              by_cases hfull : 65536 < (printL d).length
              · have HF := hid (full_calls (w.heap.size + 1) (w.heap.size + 1) (printL d) _ hwE)
                rw [show decide (65536 < (printL d).length) = true by simp [hfull]] at HF
                have hP : Hid (printV d = .tuple #[.string ⟨#[]⟩, .int .i64 4]) := hid (by simp [printV, hfull])
                clear hfull
                go_wp2_with fail
                refine HF.out.mono ?_
                rintro e w8 ⟨rfl, rfl⟩
                go_wp2_with fail
                go_ret2
                exact ⟨by rw [hP.out]; rfl, HB0.out.trans (hfE.below.mono (by omega))⟩
              · have HF := hid (full_calls (w.heap.size + 1) (w.heap.size + 1) (printL d) _ hwE)
                rw [show decide (65536 < (printL d).length) = false by simp [hfull]] at HF
                have hP : Hid (printV d = .tuple #[.string ⟨(printL d).toArray⟩, .int .i64 0]) := hid (by simp [printV, hfull])
                obtain ⟨acc, hc, hi, hB⟩ := hwE
                obtain rfl : acc = printL d := by
                  rcases hc with ⟨_, h⟩ | ⟨h, _⟩
                  · exact h
                  · exact absurd h hfull
                have HSC := hid (String_calls (w.heap.size + 1) (w.heap.size + 1) (printL d) _ hi (printL_ne d))
                clear hfull hc hi
                go_wp2_with fail
                refine HF.out.mono ?_
                rintro e w8 ⟨rfl, rfl⟩
                go_wp2_with fail
                refine HSC.out.mono ?_
                rintro e w9 ⟨rfl, hb9⟩
                go_wp2_with fail
                go_ret2
                exact ⟨by rw [hP.out]; rfl, HB0.out.trans ((hfE.below.mono (by omega)).trans (hb9.mono (by omega)))⟩
            · rw [show decide (65536 < M.length) = false by simp [hfull]] at HF
              obtain ⟨x, hxk⟩ := at_lt hlt
              obtain ⟨b1, o1, y, z, rfl, hb1, c0, c1, c2, hI, hy, hz⟩ := final_at hfr hxk
              have hb1' : b1 < w.heap.size + 1 := hb1
              have HM2 : Hid ((((M ++ [102, 105, 110, 97, 108, 32]) ++ numsFrom 0 [x.src]) ++ nl (bodyL x.guards x.out)) ++ finalsL (d.finals.drop (k + 1)) = printL d) := hid (by have := HM.out; rw [drop_cons hxk] at this; simpa [finalsL, finalL, nl] using this)
              clear hxk hfr hfull HM
              go_wp2_with fail
              refine HF.out.mono ?_
              rintro e w1 ⟨rfl, rfl⟩
              clear HF
              go_wp2_with fail
              refine (put_calls (w.heap.size + 1) (w.heap.size + 1) M ⟨#[102, 105, 110, 97, 108, 32]⟩ (by decide) _ hw).mono ?_
              rintro e w2 ⟨rfl, hw2, hf2⟩
              have e5' : w2.cell? ⟨w.heap.size, 5, none⟩ = some (.slice (some ⟨b1, o1, none⟩) d.finals.length cp2) := by rw [Lib.cell_of_heap (HX.out w2 (hf.trans hf2))]; rfl
              have c0' : w2.cell? ⟨b1, o1 + k * 3, none⟩ = some (.int .i64 x.src) := (hf2.below.cell (p := ⟨b1, o1 + k * 3, none⟩) hb1').trans c0
              have hfN : Fr (w.heap.size + 1) (w.heap.size + 1) w2 (w2.alloc (.cells #[.int .i64 x.src] 3)) := Fr.of_below ((Below.refl _ _).alloc (Nat.le_refl _) _) hw2.le
              have hwN : Wr (w.heap.size + 1) (w.heap.size + 1) (M ++ [102, 105, 110, 97, 108, 32]) (w2.alloc (.cells #[.int .i64 x.src] 3)) := hw2.later ((Below.refl _ _).alloc (Nat.le_refl _) _)
              have HVN := hid ((HVR.out.on hf2.below).on hfN.below)
              have hall : allI [x.src] := by
                intro z hz
                simp at hz
                subst hz
                exact hI
              have hgb2 : w2.heap.size ≠ w.heap.size + 1 := by have := hw2.base.2; omega
              go_wp2_with fail
              refine (nums_calls (w.heap.size + 1) (w.heap.size + 1) (M ++ [102, 105, 110, 97, 108, 32]) _ [x.src] 1 hall (by simp) _ hwN HVN.out (heap_alloc_new _ _) hgb2).mono ?_
              rintro e w4 ⟨rfl, hw4, hf4⟩
              have hf04 := (hf2.trans hfN).trans hf4
              have hbl : ∀ g, g < w.heap.size + 1 → w4.heap[g]? = wo.heap[g]? := fun g hg => hf04.below.block g hg
              have HV4 := hid (HVN.out.on hf4.below)
              have hy4 := (listR spansR).mono (below_cells hf04.below) (fun _ h => h) hy
              have hz4 := (listR termR).mono (below_cells hf04.below) (fun _ h => h) hz
              have hff := hf.trans hf04
              have HXW := hid (HX.out w4 hff)
              have k1 := (hf04.below.cell (p := ⟨b1, o1 + k * 3 + 1, none⟩) hb1').trans c1
              have k2 := (hf04.below.cell (p := ⟨b1, o1 + k * 3 + 2, none⟩) hb1').trans c2
              clear c0 c1 c2 c0' e5 e5' hw2 hf2 hfN hf4 hwN HVN HVR hy hz hall hI hw hf hbl
              go_wp2_with fail
              obtain ⟨ι, W, ⟨i0, hi0⟩, hW, Wsur⟩ := held_class w4.drew (fun g => g < w.heap.size + 1)
              have hne : Nonempty ι := ⟨i0⟩
              have g0 : ∀ i, (W i).cell? ⟨w.heap.size, 5, none⟩ = some (.slice (some ⟨b1, o1, none⟩) d.finals.length cp2) := fun i => by rw [Lib.cell_of_heap ((hW i w.heap.size (Nat.lt_succ_self _)).trans HXW.out)]; rfl
              have g1 : ∀ i, (W i).cell? ⟨b1, o1 + k * 3 + 1, none⟩ = some y := fun i => (World.cell?_of_block (a := ⟨b1, o1 + k * 3 + 1, none⟩) (hW i b1 hb1')).trans k1
              have g2 : ∀ i, (W i).cell? ⟨b1, o1 + k * 3 + 2, none⟩ = some z := fun i => (World.cell?_of_block (a := ⟨b1, o1 + k * 3 + 2, none⟩) (hW i b1 hb1')).trans k2
              have WS := hid Wsur; clear Wsur
              have HW := hid hW; clear hW
              have Hi0 := hid hi0; clear hi0
              clear k1 k2
              refine region_anyL (S := fun w' => ∃ i, w' = W i) (last := 14) (by kernel_rfl) ?_
              refine anyL_seg 0 13 (by kernel_rfl) (fun _ _ _ _ _ h => h) ⟨i0, Hi0.out.symm⟩ (f := 1) rfl (by kernel_rfl) (by kernel_rfl) ?_
              simp only [List.drop_zero, List.take_succ_cons, List.take_zero]
              repeat go_big_quiet_step (fail)
              refine wpQuiet_nil ?_
              refine anyL_act (i := 13) (by kernel_rfl) rfl rfl ?_
              intro K hK
              go_wp2_with fail
              refine (body_calls (w.heap.size + 1) (w.heap.size + 1) _ x.guards x.out y z w4.drew (hw4.later (Below.drew (Below.refl _ _))) (HV4.out.on (Below.drew (Below.refl _ _))) hy4 hz4).mono ?_
              rintro e w7 ⟨rfl, hw7, hf7⟩
              go_wp2_with fail
              have hS3 : ∃ i, w7 = W i := WS.out w7 (fun g hg => hf7.below.block g hg)
              refine hK.out _ _ (fun _ => hS3) ?_
              clear hK K
              refine anyL_done (by kernel_rfl) ?_ _
              have hfR : Fr (w.heap.size + 1) (w.heap.size + 1) w4 w4.drew := Fr.of_below (Below.drew (Below.refl _ _)) hw4.le
              clear hS3 g0 g1 g2 WS HW Hi0 hne i0 W ι hw4 hy4 hz4
              go_wp2_with fail
              refine ⟨⟨k + 1, _, by omega, by go_num, hw7, HM2.out, (hff.trans hfR).trans hf7⟩, ?_⟩
              simp [intOf]; omega
          · have hlt' : ¬ (k : Int) < d.finals.length := by omega
            have hd' : decide ((k : Int) < d.finals.length) = false := by simpa using hlt'
            have hd'' : decide (k < d.finals.length) = false := by simpa using hlt
            have hwE : Wr (w.heap.size + 1) (w.heap.size + 1) (printL d) wo := by
              have : M = printL d := by have := HM.out; rw [show k = d.finals.length by omega, List.drop_length] at this; simpa only [finalsL, List.append_nil] using this
              rwa [this] at hw
            have hfE := hf
            clear HM hfr hw hf HVR hlt hlt'
            go_wp2_with fail
            by_cases hfull : 65536 < (printL d).length
            · have HF := hid (full_calls (w.heap.size + 1) (w.heap.size + 1) (printL d) _ hwE)
              rw [show decide (65536 < (printL d).length) = true by simp [hfull]] at HF
              have hP : Hid (printV d = .tuple #[.string ⟨#[]⟩, .int .i64 4]) := hid (by simp [printV, hfull])
              clear hfull
              go_wp2_with fail
              refine HF.out.mono ?_
              rintro e w8 ⟨rfl, rfl⟩
              go_wp2_with fail
              go_ret2
              exact ⟨by rw [hP.out]; rfl, HB0.out.trans (hfE.below.mono (by omega))⟩
            · have HF := hid (full_calls (w.heap.size + 1) (w.heap.size + 1) (printL d) _ hwE)
              rw [show decide (65536 < (printL d).length) = false by simp [hfull]] at HF
              have hP : Hid (printV d = .tuple #[.string ⟨(printL d).toArray⟩, .int .i64 0]) := hid (by simp [printV, hfull])
              obtain ⟨acc, hc, hi, hB⟩ := hwE
              obtain rfl : acc = printL d := by
                rcases hc with ⟨_, h⟩ | ⟨h, _⟩
                · exact h
                · exact absurd h hfull
              have HSC := hid (String_calls (w.heap.size + 1) (w.heap.size + 1) (printL d) _ hi (printL_ne d))
              clear hfull hc hi
              go_wp2_with fail
              refine HF.out.mono ?_
              rintro e w8 ⟨rfl, rfl⟩
              go_wp2_with fail
              refine HSC.out.mono ?_
              rintro e w9 ⟨rfl, hb9⟩
              go_wp2_with fail
              go_ret2
              exact ⟨by rw [hP.out]; rfl, HB0.out.trans ((hfE.below.mono (by omega)).trans (hb9.mono (by omega)))⟩
      · rw [show decide (65536 < M.length) = false by simp [hfull]] at HF
        obtain ⟨x, hxk⟩ := at_lt hlt
        obtain ⟨b1, o1, y, z, rfl, hb1, c0, c1, c2, c3, c4, hI, hy, hz⟩ := rule_at hrr hxk
        have HM2 : Hid ((((M ++ [114, 117, 108, 101, 32]) ++ numsFrom 0 [x.src, x.dst, x.eat]) ++ nl (bodyL x.guards x.out)) ++ rulesL (d.rules.drop (k + 1)) = nl (headL d) ++ rulesL d.rules) := hid (by have := HM.out; rw [drop_cons hxk] at this; simpa [rulesL, ruleL, nl] using this)
        have hwP : Wr (w.heap.size + 1) (w.heap.size + 1) M (wo.alloc (.cells #[.int .i64 x.src, .int .i64 x.dst, y, .int .i64 x.eat, z] 45)) := hw.later ((Below.refl _ _).alloc (Nat.le_refl _) _)
        have hfP : Fr (w.heap.size + 1) (w.heap.size + 1) wo (wo.alloc (.cells #[.int .i64 x.src, .int .i64 x.dst, y, .int .i64 x.eat, z] 45)) := Fr.of_below ((Below.refl _ _).alloc (Nat.le_refl _) _) hw.le
        have HPP := hid (heap_alloc_new wo (.cells #[.int .i64 x.src, .int .i64 x.dst, y, .int .i64 x.eat, z] 45))
        have hqb : wo.heap.size ≠ w.heap.size + 1 := by have := hw.base.2; omega
        obtain ⟨A5, cp5, rfl, _, _⟩ := list_form hy
        obtain ⟨A6, cp6, rfl, _, _⟩ := list_form hz
        clear hxk hrr hfull HM
        go_wp2_with fail
        refine HF.out.mono ?_
        rintro e w1 ⟨rfl, rfl⟩
        clear HF
        go_wp2_with fail
        refine (put_calls (w.heap.size + 1) (w.heap.size + 1) M ⟨#[114, 117, 108, 101, 32]⟩ (by decide) _ hwP).mono ?_
        rintro e w2 ⟨rfl, hw2, hf2⟩
        have HP2 := hid (hf2.kept _ _ HPP.out (by simp; exact hqb) (by intro c fz e; cases e))
        have d0 : w2.cell? ⟨wo.heap.size, 0, none⟩ = some (.int .i64 x.src) := by rw [Lib.cell_of_heap HP2.out]; rfl
        have d1 : w2.cell? ⟨wo.heap.size, 1, none⟩ = some (.int .i64 x.dst) := by rw [Lib.cell_of_heap HP2.out]; rfl
        have d3 : w2.cell? ⟨wo.heap.size, 3, none⟩ = some (.int .i64 x.eat) := by rw [Lib.cell_of_heap HP2.out]; rfl
        have hfN : Fr (w.heap.size + 1) (w.heap.size + 1) w2 (w2.alloc (.cells #[.int .i64 x.src, .int .i64 x.dst, .int .i64 x.eat] 3)) := Fr.of_below ((Below.refl _ _).alloc (Nat.le_refl _) _) hw2.le
        have hwN : Wr (w.heap.size + 1) (w.heap.size + 1) (M ++ [114, 117, 108, 101, 32]) (w2.alloc (.cells #[.int .i64 x.src, .int .i64 x.dst, .int .i64 x.eat] 3)) := hw2.later ((Below.refl _ _).alloc (Nat.le_refl _) _)
        have HVN := hid (((HVR.out.on hfP.below).on hf2.below).on hfN.below)
        have hall : allI [x.src, x.dst, x.eat] := by
          obtain ⟨i0, i1, i2⟩ := hI
          intro z hz
          simp at hz
          rcases hz with rfl | rfl | rfl <;> assumption
        have hgb2 : w2.heap.size ≠ w.heap.size + 1 := by have := hw2.base.2; omega
        have HPN := hid (hfN.kept _ _ HP2.out (by simp; exact hqb) (by intro c fz e; cases e))
        clear c0 c1 c2 c3 c4 e4 hwP
        go_wp2_with fail
        refine (nums_calls (w.heap.size + 1) (w.heap.size + 1) (M ++ [114, 117, 108, 101, 32]) _ [x.src, x.dst, x.eat] 3 hall (by simp) _ hwN HVN.out (heap_alloc_new _ _) hgb2).mono ?_
        rintro e w4 ⟨rfl, hw4, hf4⟩
        have HP4 := hid (hf4.kept _ _ HPN.out (by simp; exact hqb) (by intro c fz e; cases e))
        have k2 : w4.cell? ⟨wo.heap.size, 2, none⟩ = some (.slice A5 x.guards.length cp5) := by rw [Lib.cell_of_heap HP4.out]; rfl
        have k4 : w4.cell? ⟨wo.heap.size, 4, none⟩ = some (.slice A6 x.out.length cp6) := by rw [Lib.cell_of_heap HP4.out]; rfl
        have hf04 := ((hfP.trans hf2).trans hfN).trans hf4
        have HV4 := hid (HVN.out.on hf4.below)
        have hy4 := (listR spansR).mono (below_cells hf04.below) (fun _ h => h) hy
        have hz4 := (listR termR).mono (below_cells hf04.below) (fun _ h => h) hz
        have hff := hf.trans hf04
        clear d0 d1 d3 hwN hfP hf2 hfN hf4 HPP HP2 HPN HP4 hy hz hall hI
        go_wp2_with fail
        refine (body_calls (w.heap.size + 1) (w.heap.size + 1) _ x.guards x.out _ _ _ hw4 HV4.out hy4 hz4).mono ?_
        rintro e w7 ⟨rfl, hw7, hf7⟩
        clear k2 k4
        go_wp2_with fail
        refine ⟨⟨k + 1, _, by omega, by go_num, hw7, HM2.out, hff.trans hf7⟩, ?_⟩
        simp [intOf]; omega
    · have hlt' : ¬ (k : Int) < d.rules.length := by omega
      have hd' : decide ((k : Int) < d.rules.length) = false := by simpa using hlt'
      have hd'' : decide (k < d.rules.length) = false := by simpa using hlt
      have hwD : Wr (w.heap.size + 1) (w.heap.size + 1) (nl (headL d) ++ rulesL d.rules) wo := by
        have : M = nl (headL d) ++ rulesL d.rules := by have := HM.out; rw [show k = d.rules.length by omega, List.drop_length] at this; simpa only [rulesL, List.append_nil] using this
        rwa [this] at hw
      have hfD := hf
      clear HM hrr hw hf HVR hlt hlt' hwA hfA
      go_wp2_with fail
      go_loopw [7] (fun vi wr => ∃ (k : Nat) (M : By), k ≤ d.finals.length ∧ vi = .int .i64 k ∧ Wr (w.heap.size + 1) (w.heap.size + 1) M wr ∧ M ++ finalsL (d.finals.drop k) = printL d ∧ Fr (w.heap.size + 1) (w.heap.size + 1) w0 wr) (fun vi _ => d.finals.length - (intOf vi).toNat)
      case atStart => exact ⟨0, _, Nat.zero_le _, rfl, hwD, by simp [printL], hfD⟩
      case round =>
        obtain ⟨wo, hwo⟩ : ∃ wo, wo = wr := ⟨_, rfl⟩
        subst hwo
        obtain ⟨k, M, hk, rfl, hw, hM, hf⟩ := hrel
        have HM := hid hM; clear hM
        have HVR := hid (HV.out.on hf.below)
        have hfr := (listR finalR).mono (below_cells hf.below) (fun _ h => h) hf0
        have e5 : wo.cell? ⟨w.heap.size, 5, none⟩ = some (.slice A2 d.finals.length cp2) := by rw [Lib.cell_of_heap (HX.out wo hf)]; rfl
        by_cases hlt : k < d.finals.length
        · have HF := hid (full_calls (w.heap.size + 1) (w.heap.size + 1) M wo hw)
          have hlt' : (k : Int) < d.finals.length := by omega
          by_cases hfull : 65536 < M.length
          · rw [show decide (65536 < M.length) = true by simp [hfull]] at HF
            have hwE : Wr (w.heap.size + 1) (w.heap.size + 1) (printL d) wo := by
              have h1 := hw.more hfull (finalsL (d.finals.drop k))
              rwa [HM.out] at h1
            have hfE := hf
            clear HM hfr hfull hw hf HVR
            go_wp2_with fail
            refine HF.out.mono ?_
            rintro e w1 ⟨rfl, rfl⟩
            clear HF
            go_wp2_with fail
            by_cases hfull : 65536 < (printL d).length
            · have HF := hid (full_calls (w.heap.size + 1) (w.heap.size + 1) (printL d) _ hwE)
              rw [show decide (65536 < (printL d).length) = true by simp [hfull]] at HF
              have hP : Hid (printV d = .tuple #[.string ⟨#[]⟩, .int .i64 4]) := hid (by simp [printV, hfull])
              clear hfull
              go_wp2_with fail
              refine HF.out.mono ?_
              rintro e w8 ⟨rfl, rfl⟩
              go_wp2_with fail
              go_ret2
              exact ⟨by rw [hP.out]; rfl, HB0.out.trans (hfE.below.mono (by omega))⟩
            · have HF := hid (full_calls (w.heap.size + 1) (w.heap.size + 1) (printL d) _ hwE)
              rw [show decide (65536 < (printL d).length) = false by simp [hfull]] at HF
              have hP : Hid (printV d = .tuple #[.string ⟨(printL d).toArray⟩, .int .i64 0]) := hid (by simp [printV, hfull])
              obtain ⟨acc, hc, hi, hB⟩ := hwE
              obtain rfl : acc = printL d := by
                rcases hc with ⟨_, h⟩ | ⟨h, _⟩
                · exact h
                · exact absurd h hfull
              have HSC := hid (String_calls (w.heap.size + 1) (w.heap.size + 1) (printL d) _ hi (printL_ne d))
              clear hfull hc hi
              go_wp2_with fail
              refine HF.out.mono ?_
              rintro e w8 ⟨rfl, rfl⟩
              go_wp2_with fail
              refine HSC.out.mono ?_
              rintro e w9 ⟨rfl, hb9⟩
              go_wp2_with fail
              go_ret2
              exact ⟨by rw [hP.out]; rfl, HB0.out.trans ((hfE.below.mono (by omega)).trans (hb9.mono (by omega)))⟩
          · rw [show decide (65536 < M.length) = false by simp [hfull]] at HF
            obtain ⟨x, hxk⟩ := at_lt hlt
            obtain ⟨b1, o1, y, z, rfl, hb1, c0, c1, c2, hI, hy, hz⟩ := final_at hfr hxk
            have hb1' : b1 < w.heap.size + 1 := hb1
            have HM2 : Hid ((((M ++ [102, 105, 110, 97, 108, 32]) ++ numsFrom 0 [x.src]) ++ nl (bodyL x.guards x.out)) ++ finalsL (d.finals.drop (k + 1)) = printL d) := hid (by have := HM.out; rw [drop_cons hxk] at this; simpa [finalsL, finalL, nl] using this)
            clear hxk hfr hfull HM
            go_wp2_with fail
            refine HF.out.mono ?_
            rintro e w1 ⟨rfl, rfl⟩
            clear HF
            go_wp2_with fail
            refine (put_calls (w.heap.size + 1) (w.heap.size + 1) M ⟨#[102, 105, 110, 97, 108, 32]⟩ (by decide) _ hw).mono ?_
            rintro e w2 ⟨rfl, hw2, hf2⟩
            have e5' : w2.cell? ⟨w.heap.size, 5, none⟩ = some (.slice (some ⟨b1, o1, none⟩) d.finals.length cp2) := by rw [Lib.cell_of_heap (HX.out w2 (hf.trans hf2))]; rfl
            have c0' : w2.cell? ⟨b1, o1 + k * 3, none⟩ = some (.int .i64 x.src) := (hf2.below.cell (p := ⟨b1, o1 + k * 3, none⟩) hb1').trans c0
            have hfN : Fr (w.heap.size + 1) (w.heap.size + 1) w2 (w2.alloc (.cells #[.int .i64 x.src] 3)) := Fr.of_below ((Below.refl _ _).alloc (Nat.le_refl _) _) hw2.le
            have hwN : Wr (w.heap.size + 1) (w.heap.size + 1) (M ++ [102, 105, 110, 97, 108, 32]) (w2.alloc (.cells #[.int .i64 x.src] 3)) := hw2.later ((Below.refl _ _).alloc (Nat.le_refl _) _)
            have HVN := hid ((HVR.out.on hf2.below).on hfN.below)
            have hall : allI [x.src] := by
              intro z hz
              simp at hz
              subst hz
              exact hI
            have hgb2 : w2.heap.size ≠ w.heap.size + 1 := by have := hw2.base.2; omega
            go_wp2_with fail
            refine (nums_calls (w.heap.size + 1) (w.heap.size + 1) (M ++ [102, 105, 110, 97, 108, 32]) _ [x.src] 1 hall (by simp) _ hwN HVN.out (heap_alloc_new _ _) hgb2).mono ?_
            rintro e w4 ⟨rfl, hw4, hf4⟩
            have hf04 := (hf2.trans hfN).trans hf4
            have hbl : ∀ g, g < w.heap.size + 1 → w4.heap[g]? = wo.heap[g]? := fun g hg => hf04.below.block g hg
            have HV4 := hid (HVN.out.on hf4.below)
            have hy4 := (listR spansR).mono (below_cells hf04.below) (fun _ h => h) hy
            have hz4 := (listR termR).mono (below_cells hf04.below) (fun _ h => h) hz
            have hff := hf.trans hf04
            have HXW := hid (HX.out w4 hff)
            have k1 := (hf04.below.cell (p := ⟨b1, o1 + k * 3 + 1, none⟩) hb1').trans c1
            have k2 := (hf04.below.cell (p := ⟨b1, o1 + k * 3 + 2, none⟩) hb1').trans c2
            clear c0 c1 c2 c0' e5 e5' hw2 hf2 hfN hf4 hwN HVN HVR hy hz hall hI hw hf hbl
            go_wp2_with fail
            obtain ⟨ι, W, ⟨i0, hi0⟩, hW, Wsur⟩ := held_class w4.drew (fun g => g < w.heap.size + 1)
            have hne : Nonempty ι := ⟨i0⟩
            have g0 : ∀ i, (W i).cell? ⟨w.heap.size, 5, none⟩ = some (.slice (some ⟨b1, o1, none⟩) d.finals.length cp2) := fun i => by rw [Lib.cell_of_heap ((hW i w.heap.size (Nat.lt_succ_self _)).trans HXW.out)]; rfl
            have g1 : ∀ i, (W i).cell? ⟨b1, o1 + k * 3 + 1, none⟩ = some y := fun i => (World.cell?_of_block (a := ⟨b1, o1 + k * 3 + 1, none⟩) (hW i b1 hb1')).trans k1
            have g2 : ∀ i, (W i).cell? ⟨b1, o1 + k * 3 + 2, none⟩ = some z := fun i => (World.cell?_of_block (a := ⟨b1, o1 + k * 3 + 2, none⟩) (hW i b1 hb1')).trans k2
            have WS := hid Wsur; clear Wsur
            have HW := hid hW; clear hW
            have Hi0 := hid hi0; clear hi0
            clear k1 k2
            refine region_anyL (S := fun w' => ∃ i, w' = W i) (last := 14) (by kernel_rfl) ?_
            refine anyL_seg 0 13 (by kernel_rfl) (fun _ _ _ _ _ h => h) ⟨i0, Hi0.out.symm⟩ (f := 1) rfl (by kernel_rfl) (by kernel_rfl) ?_
            simp only [List.drop_zero, List.take_succ_cons, List.take_zero]
            repeat go_big_quiet_step (fail)
            refine wpQuiet_nil ?_
            refine anyL_act (i := 13) (by kernel_rfl) rfl rfl ?_
            intro K hK
            go_wp2_with fail
            refine (body_calls (w.heap.size + 1) (w.heap.size + 1) _ x.guards x.out y z w4.drew (hw4.later (Below.drew (Below.refl _ _))) (HV4.out.on (Below.drew (Below.refl _ _))) hy4 hz4).mono ?_
            rintro e w7 ⟨rfl, hw7, hf7⟩
            go_wp2_with fail
            have hS3 : ∃ i, w7 = W i := WS.out w7 (fun g hg => hf7.below.block g hg)
            refine hK.out _ _ (fun _ => hS3) ?_
            clear hK K
            refine anyL_done (by kernel_rfl) ?_ _
            have hfR : Fr (w.heap.size + 1) (w.heap.size + 1) w4 w4.drew := Fr.of_below (Below.drew (Below.refl _ _)) hw4.le
            clear hS3 g0 g1 g2 WS HW Hi0 hne i0 W ι hw4 hy4 hz4
            go_wp2_with fail
            refine ⟨⟨k + 1, _, by omega, by go_num, hw7, HM2.out, (hff.trans hfR).trans hf7⟩, ?_⟩
            simp [intOf]; omega
        · have hlt' : ¬ (k : Int) < d.finals.length := by omega
          have hd' : decide ((k : Int) < d.finals.length) = false := by simpa using hlt'
          have hd'' : decide (k < d.finals.length) = false := by simpa using hlt
          have hwE : Wr (w.heap.size + 1) (w.heap.size + 1) (printL d) wo := by
            have : M = printL d := by have := HM.out; rw [show k = d.finals.length by omega, List.drop_length] at this; simpa only [finalsL, List.append_nil] using this
            rwa [this] at hw
          have hfE := hf
          clear HM hfr hw hf HVR hlt hlt'
          go_wp2_with fail
          by_cases hfull : 65536 < (printL d).length
          · have HF := hid (full_calls (w.heap.size + 1) (w.heap.size + 1) (printL d) _ hwE)
            rw [show decide (65536 < (printL d).length) = true by simp [hfull]] at HF
            have hP : Hid (printV d = .tuple #[.string ⟨#[]⟩, .int .i64 4]) := hid (by simp [printV, hfull])
            clear hfull
            go_wp2_with fail
            refine HF.out.mono ?_
            rintro e w8 ⟨rfl, rfl⟩
            go_wp2_with fail
            go_ret2
            exact ⟨by rw [hP.out]; rfl, HB0.out.trans (hfE.below.mono (by omega))⟩
          · have HF := hid (full_calls (w.heap.size + 1) (w.heap.size + 1) (printL d) _ hwE)
            rw [show decide (65536 < (printL d).length) = false by simp [hfull]] at HF
            have hP : Hid (printV d = .tuple #[.string ⟨(printL d).toArray⟩, .int .i64 0]) := hid (by simp [printV, hfull])
            obtain ⟨acc, hc, hi, hB⟩ := hwE
            obtain rfl : acc = printL d := by
              rcases hc with ⟨_, h⟩ | ⟨h, _⟩
              · exact h
              · exact absurd h hfull
            have HSC := hid (String_calls (w.heap.size + 1) (w.heap.size + 1) (printL d) _ hi (printL_ne d))
            clear hfull hc hi
            go_wp2_with fail
            refine HF.out.mono ?_
            rintro e w8 ⟨rfl, rfl⟩
            go_wp2_with fail
            refine HSC.out.mono ?_
            rintro e w9 ⟨rfl, hb9⟩
            go_wp2_with fail
            go_ret2
            exact ⟨by rw [hP.out]; rfl, HB0.out.trans ((hfE.below.mono (by omega)).trans (hb9.mono (by omega)))⟩
end Go.Proofs.YtcdnkmefcldfmaaDoor
