/-
  The reference's borders.
-/
import Derived.Test.YtflllgbjlfpgcaaKPut
namespace Go.Um
theorem putF_len (x : Int) (l : List Int) : (putF x l).length ≤ l.length + 1 := by
  induction l with
  | nil => simp [putF]
  | cons y r ih =>
    unfold putF
    split
    · simp; omega
    · split <;> simp
end Go.Um
namespace Go.Proofs.Ytflllgbjlfpgcaa
open Go.RowKit Go.Um Go.Proofs
def BordI (w wr : World) (vl : Value) (set : List Span) (L0 : List Int) (lb j : Nat) : Prop := ∃ row, (set.take j).foldl bordS L0 = row ∧ wr.ownsInts w.heap.size 3 .i64 vl row ∧ Rising row ∧ row.length ≤ lb + 2 * j ∧ Below w.heap.size w wr
theorem own_one (w : World) (x : Int) (hx : (Lit.int .i64 x).wf = true) : (w.alloc (.cells #[.int .i64 x] 3)).ownsInts w.heap.size 3 .i64 (.slice (some ⟨w.heap.size, 0, none⟩) 1 1) [x] :=
  ⟨⟨by simp, .inr ⟨w.heap.size, 1, _, rfl, Nat.le_refl _, heap_alloc_new w _, Nat.le_refl _, by decide, rfl, rfl⟩⟩, fun z hz => by simp at hz; subst hz; exact hx⟩
set_option maxHeartbeats 3000000 in
set_option maxRecDepth 100000 in
theorem Rborders_calls (a bb : List Span) (v u : Value) (w : World) (ha : spansR.rel w (upto w.heap.size) [v] a) (hb' : spansR.rel w (upto w.heap.size) [u] bb) (hl : a.length + bb.length ≤ 4000000) :
    Calls Try.prog 26 #[v, u] w fun e w' => ∃ z, e = .returned z ∧ w'.ownsInts w.heap.size 3 .i64 z (bordersF a bb) ∧ Below w.heap.size w w' := by
  obtain ⟨A1, c1', rfl, hc1, hm1⟩ := list_form ha
  obtain ⟨A2, c2', rfl, hc2, hm2⟩ := list_form hb'
  unfold maxLen at hm1 hm2
  have ho1 : (w.alloc (.cells #[.int .i64 (-1073741824)] 3)).ownsInts w.heap.size 3 .i64 (.slice (some ⟨w.heap.size, 0, none⟩) 1 1) [-1073741824] := own_one w (-1073741824) (by decide)
  have HB1 := hid ((Below.refl w.heap.size w).alloc (Nat.le_refl _) (.cells #[.int .i64 (-1073741824)] 3))
  have HO1 := hid ho1
  clear ho1
  go_enter Try.func26, Try.ntmps26
  go_wp2_with fail
  go_loopw [5, 6] (fun vl vk wr => ∃ (k : Nat) (row : List Int), k ≤ 2 ∧ vk = .int .i64 k ∧ (k = 0 → row = [-1073741824]) ∧ (k = 1 → row = a.foldl bordS [-1073741824] ∧ row.length ≤ 1 + 2 * a.length) ∧ (k = 2 → row = bordersF a bb) ∧ wr.ownsInts w.heap.size 3 .i64 vl row ∧ Rising row ∧ Below w.heap.size w wr) (fun _ vk _ => 2 - (intOf vk).toNat)
  case atStart => exact ⟨0, _, by omega, rfl, fun _ => rfl, fun h => absurd h (by omega), fun h => absurd h (by omega), HO1.out, List.pairwise_singleton _ _, HB1.out⟩
  case round =>
    clear HO1 HB1
    obtain ⟨k, row, hk, rfl, h0, h1, h2, ho, hri, hB⟩ := hrel
    obtain ⟨wz, hwz⟩ : ∃ wz, wz = wr := ⟨_, rfl⟩
    subst hwz
    have HO := hid ho
    have HR := hid hri
    have HB := hid hB
    obtain ⟨B9, d9, rfl, _, _⟩ := list_form (intsR ho)
    by_cases k0 : k = 0
    · subst k0
      obtain rfl := h0 rfl
      clear h0 h1 h2 ho hri hB
      go_wp2_with fail
      go_loopw [5, 8] (fun vl vj wr => ∃ j : Nat, j ≤ a.length ∧ vj = .int .i64 j ∧ BordI w wr vl a ([-1073741824]) 1 j) (fun _ vj _ => a.length - (intOf vj).toNat)
      case atStart => exact ⟨0, Nat.zero_le _, rfl, _, rfl, HO.out, HR.out, by first | (simp; done) | (simp; omega), HB.out⟩
      case round =>
        clear HO HR HB
        obtain ⟨j, hj, rfl, row, hst, ho, hri, hlr, hB⟩ := hrel
        obtain ⟨wo, hwo⟩ : ∃ wo, wo = wr := ⟨_, rfl⟩
        subst hwo
        have HO0 := hid ho
        have HR0 := hid hri
        have HBo0 := hid hB
        obtain ⟨B0, d0, rfl, _, _⟩ := list_form (intsR ho)
        by_cases hlt : j < a.length
        · obtain ⟨x, hx⟩ := at_lt hlt
          obtain ⟨b, o, rfl, hb, r1, r2, ⟨x1, x2⟩, x3, x4⟩ := span_at ha hx
          have r01 := (hB.cell (p := ⟨b, o + j * 2, none⟩) hb).trans r1
          have r02 := (hB.cell (p := ⟨b, o + j * 2 + 1, none⟩) hb).trans r2
          have hbs : b < wo.heap.size := Nat.lt_of_lt_of_le hb hB.size
          have hlt' : (j : Int) < a.length := by omega
          have HSTEP : Hid ((a.take (j + 1)).foldl bordS ([-1073741824]) = bordS row x) := hid (by rw [take_snoc hx, List.foldl_append, hst]; rfl)
          clear hx hst ho hri hB r1 r2
          by_cases c1 : -1073741824 < x.lo
          · by_cases c2 : x.lo ≤ 1073741824
            · by_cases c3 : -1073741824 ≤ x.hi
              · by_cases c4 : x.hi < 1073741824
                · have HST : Hid ((a.take (j + 1)).foldl bordS ([-1073741824]) = putF (x.hi + 1) (putF x.lo row)) := hid (by rw [HSTEP.out]; unfold bordS; simp only [if_pos (show -1073741824 < x.lo ∧ x.lo ≤ 1073741824 from ⟨c1, c2⟩), if_pos (show -1073741824 ≤ x.hi ∧ x.hi < 1073741824 from ⟨c3, c4⟩)])
                  clear HSTEP
                  go_wp2_with fail
                  refine (Rput_calls (row) (x.lo) _ w.heap.size _ HO0.out HR0.out ⟨by omega, by omega⟩ (by omega) HBo0.out.size).mono ?_
                  rintro e w1 ⟨u1, rfl, ho1, hBp1⟩
                  have HO1 := hid ho1
                  have HR1 := hid (putF_rising (x := x.lo) HR0.out)
                  have HBo1 := hid (HBo0.out.trans hBp1)
                  have hln1 := putF_len (x.lo) (row)
                  obtain ⟨B1, d1, rfl, _, _⟩ := list_form (intsR ho1)
                  have r11 := (hBp1.cell (p := ⟨b, o + j * 2, none⟩) hb).trans r01
                  have r12 := (hBp1.cell (p := ⟨b, o + j * 2 + 1, none⟩) hb).trans r02
                  clear ho1 hBp1 r01 r02
                  go_wp2_with fail
                  refine (Rput_calls (putF x.lo row) (x.hi + 1) _ w.heap.size _ HO1.out HR1.out ⟨by omega, by omega⟩ (by omega) HBo1.out.size).mono ?_
                  rintro e w2 ⟨u2, rfl, ho2, hBp2⟩
                  have HO2 := hid ho2
                  have HR2 := hid (putF_rising (x := x.hi + 1) HR1.out)
                  have HBo2 := hid (HBo1.out.trans hBp2)
                  have hln2 := putF_len (x.hi + 1) (putF x.lo row)
                  obtain ⟨B2, d2, rfl, _, _⟩ := list_form (intsR ho2)
                  have r21 := (hBp2.cell (p := ⟨b, o + j * 2, none⟩) hb).trans r11
                  have r22 := (hBp2.cell (p := ⟨b, o + j * 2 + 1, none⟩) hb).trans r12
                  clear ho2 hBp2 r11 r12
                  go_wp2_with fail
                  have HE : Hid (∃ j' : Nat, j' ≤ a.length ∧ Value.int .i64 ((j : Int) + 1) = .int .i64 j' ∧ BordI w w2 _ a ([-1073741824]) 1 j') := hid ⟨j + 1, by omega, by push_cast; rfl, _, HST.out, HO2.out, HR2.out, by omega, HBo2.out⟩
                  clear HST HO2 HR2 HBo2
                  first
                    | (refine ⟨HE.out, ?_⟩; simp [intOf]; omega)
                    | (go_simp; refine ⟨by simpa using HE.out, ?_⟩; simp [intOf]; omega)

                · have HST : Hid ((a.take (j + 1)).foldl bordS ([-1073741824]) = putF x.lo row) := hid (by rw [HSTEP.out]; unfold bordS; simp only [if_pos (show -1073741824 < x.lo ∧ x.lo ≤ 1073741824 from ⟨c1, c2⟩), if_neg (show ¬ (-1073741824 ≤ x.hi ∧ x.hi < 1073741824) from fun h => c4 h.2)])
                  clear HSTEP
                  go_wp2_with fail
                  refine (Rput_calls (row) (x.lo) _ w.heap.size _ HO0.out HR0.out ⟨by omega, by omega⟩ (by omega) HBo0.out.size).mono ?_
                  rintro e w1 ⟨u1, rfl, ho1, hBp1⟩
                  have HO1 := hid ho1
                  have HR1 := hid (putF_rising (x := x.lo) HR0.out)
                  have HBo1 := hid (HBo0.out.trans hBp1)
                  have hln1 := putF_len (x.lo) (row)
                  obtain ⟨B1, d1, rfl, _, _⟩ := list_form (intsR ho1)
                  have r11 := (hBp1.cell (p := ⟨b, o + j * 2, none⟩) hb).trans r01
                  have r12 := (hBp1.cell (p := ⟨b, o + j * 2 + 1, none⟩) hb).trans r02
                  clear ho1 hBp1 r01 r02
                  go_wp2_with fail
                  have HE : Hid (∃ j' : Nat, j' ≤ a.length ∧ Value.int .i64 ((j : Int) + 1) = .int .i64 j' ∧ BordI w w1 _ a ([-1073741824]) 1 j') := hid ⟨j + 1, by omega, by push_cast; rfl, _, HST.out, HO1.out, HR1.out, by omega, HBo1.out⟩
                  clear HST HO1 HR1 HBo1
                  first
                    | (refine ⟨HE.out, ?_⟩; simp [intOf]; omega)
                    | (go_simp; refine ⟨by simpa using HE.out, ?_⟩; simp [intOf]; omega)

              · have HST : Hid ((a.take (j + 1)).foldl bordS ([-1073741824]) = putF x.lo row) := hid (by rw [HSTEP.out]; unfold bordS; simp only [if_pos (show -1073741824 < x.lo ∧ x.lo ≤ 1073741824 from ⟨c1, c2⟩), if_neg (show ¬ (-1073741824 ≤ x.hi ∧ x.hi < 1073741824) from fun h => c3 h.1)])
                clear HSTEP
                go_wp2_with fail
                refine (Rput_calls (row) (x.lo) _ w.heap.size _ HO0.out HR0.out ⟨by omega, by omega⟩ (by omega) HBo0.out.size).mono ?_
                rintro e w1 ⟨u1, rfl, ho1, hBp1⟩
                have HO1 := hid ho1
                have HR1 := hid (putF_rising (x := x.lo) HR0.out)
                have HBo1 := hid (HBo0.out.trans hBp1)
                have hln1 := putF_len (x.lo) (row)
                obtain ⟨B1, d1, rfl, _, _⟩ := list_form (intsR ho1)
                have r11 := (hBp1.cell (p := ⟨b, o + j * 2, none⟩) hb).trans r01
                have r12 := (hBp1.cell (p := ⟨b, o + j * 2 + 1, none⟩) hb).trans r02
                clear ho1 hBp1 r01 r02
                go_wp2_with fail
                have HE : Hid (∃ j' : Nat, j' ≤ a.length ∧ Value.int .i64 ((j : Int) + 1) = .int .i64 j' ∧ BordI w w1 _ a ([-1073741824]) 1 j') := hid ⟨j + 1, by omega, by push_cast; rfl, _, HST.out, HO1.out, HR1.out, by omega, HBo1.out⟩
                clear HST HO1 HR1 HBo1
                first
                  | (refine ⟨HE.out, ?_⟩; simp [intOf]; omega)
                  | (go_simp; refine ⟨by simpa using HE.out, ?_⟩; simp [intOf]; omega)
            · by_cases c3 : -1073741824 ≤ x.hi
              · by_cases c4 : x.hi < 1073741824
                · have HST : Hid ((a.take (j + 1)).foldl bordS ([-1073741824]) = putF (x.hi + 1) (row)) := hid (by rw [HSTEP.out]; unfold bordS; simp only [if_neg (show ¬ (-1073741824 < x.lo ∧ x.lo ≤ 1073741824) from fun h => c2 h.2), if_pos (show -1073741824 ≤ x.hi ∧ x.hi < 1073741824 from ⟨c3, c4⟩)])
                  clear HSTEP
                  go_wp2_with fail
                  refine (Rput_calls (row) (x.hi + 1) _ w.heap.size _ HO0.out HR0.out ⟨by omega, by omega⟩ (by omega) HBo0.out.size).mono ?_
                  rintro e w1 ⟨u1, rfl, ho1, hBp1⟩
                  have HO1 := hid ho1
                  have HR1 := hid (putF_rising (x := x.hi + 1) HR0.out)
                  have HBo1 := hid (HBo0.out.trans hBp1)
                  have hln1 := putF_len (x.hi + 1) (row)
                  obtain ⟨B1, d1, rfl, _, _⟩ := list_form (intsR ho1)
                  have r11 := (hBp1.cell (p := ⟨b, o + j * 2, none⟩) hb).trans r01
                  have r12 := (hBp1.cell (p := ⟨b, o + j * 2 + 1, none⟩) hb).trans r02
                  clear ho1 hBp1 r01 r02
                  go_wp2_with fail
                  have HE : Hid (∃ j' : Nat, j' ≤ a.length ∧ Value.int .i64 ((j : Int) + 1) = .int .i64 j' ∧ BordI w w1 _ a ([-1073741824]) 1 j') := hid ⟨j + 1, by omega, by push_cast; rfl, _, HST.out, HO1.out, HR1.out, by omega, HBo1.out⟩
                  clear HST HO1 HR1 HBo1
                  first
                    | (refine ⟨HE.out, ?_⟩; simp [intOf]; omega)
                    | (go_simp; refine ⟨by simpa using HE.out, ?_⟩; simp [intOf]; omega)

                · have HST : Hid ((a.take (j + 1)).foldl bordS ([-1073741824]) = row) := hid (by rw [HSTEP.out]; unfold bordS; simp only [if_neg (show ¬ (-1073741824 < x.lo ∧ x.lo ≤ 1073741824) from fun h => c2 h.2), if_neg (show ¬ (-1073741824 ≤ x.hi ∧ x.hi < 1073741824) from fun h => c4 h.2)])
                  clear HSTEP
                  go_wp2_with fail
                  have HE : Hid (∃ j' : Nat, j' ≤ a.length ∧ Value.int .i64 ((j : Int) + 1) = .int .i64 j' ∧ BordI w wo _ a ([-1073741824]) 1 j') := hid ⟨j + 1, by omega, by push_cast; rfl, _, HST.out, HO0.out, HR0.out, by omega, HBo0.out⟩
                  clear HST HO0 HR0 HBo0
                  first
                    | (refine ⟨HE.out, ?_⟩; simp [intOf]; omega)
                    | (go_simp; refine ⟨by simpa using HE.out, ?_⟩; simp [intOf]; omega)

              · have HST : Hid ((a.take (j + 1)).foldl bordS ([-1073741824]) = row) := hid (by rw [HSTEP.out]; unfold bordS; simp only [if_neg (show ¬ (-1073741824 < x.lo ∧ x.lo ≤ 1073741824) from fun h => c2 h.2), if_neg (show ¬ (-1073741824 ≤ x.hi ∧ x.hi < 1073741824) from fun h => c3 h.1)])
                clear HSTEP
                go_wp2_with fail
                have HE : Hid (∃ j' : Nat, j' ≤ a.length ∧ Value.int .i64 ((j : Int) + 1) = .int .i64 j' ∧ BordI w wo _ a ([-1073741824]) 1 j') := hid ⟨j + 1, by omega, by push_cast; rfl, _, HST.out, HO0.out, HR0.out, by omega, HBo0.out⟩
                clear HST HO0 HR0 HBo0
                first
                  | (refine ⟨HE.out, ?_⟩; simp [intOf]; omega)
                  | (go_simp; refine ⟨by simpa using HE.out, ?_⟩; simp [intOf]; omega)
          · by_cases c3 : -1073741824 ≤ x.hi
            · by_cases c4 : x.hi < 1073741824
              · have HST : Hid ((a.take (j + 1)).foldl bordS ([-1073741824]) = putF (x.hi + 1) (row)) := hid (by rw [HSTEP.out]; unfold bordS; simp only [if_neg (show ¬ (-1073741824 < x.lo ∧ x.lo ≤ 1073741824) from fun h => c1 h.1), if_pos (show -1073741824 ≤ x.hi ∧ x.hi < 1073741824 from ⟨c3, c4⟩)])
                clear HSTEP
                go_wp2_with fail
                refine (Rput_calls (row) (x.hi + 1) _ w.heap.size _ HO0.out HR0.out ⟨by omega, by omega⟩ (by omega) HBo0.out.size).mono ?_
                rintro e w1 ⟨u1, rfl, ho1, hBp1⟩
                have HO1 := hid ho1
                have HR1 := hid (putF_rising (x := x.hi + 1) HR0.out)
                have HBo1 := hid (HBo0.out.trans hBp1)
                have hln1 := putF_len (x.hi + 1) (row)
                obtain ⟨B1, d1, rfl, _, _⟩ := list_form (intsR ho1)
                have r11 := (hBp1.cell (p := ⟨b, o + j * 2, none⟩) hb).trans r01
                have r12 := (hBp1.cell (p := ⟨b, o + j * 2 + 1, none⟩) hb).trans r02
                clear ho1 hBp1 r01 r02
                go_wp2_with fail
                have HE : Hid (∃ j' : Nat, j' ≤ a.length ∧ Value.int .i64 ((j : Int) + 1) = .int .i64 j' ∧ BordI w w1 _ a ([-1073741824]) 1 j') := hid ⟨j + 1, by omega, by push_cast; rfl, _, HST.out, HO1.out, HR1.out, by omega, HBo1.out⟩
                clear HST HO1 HR1 HBo1
                first
                  | (refine ⟨HE.out, ?_⟩; simp [intOf]; omega)
                  | (go_simp; refine ⟨by simpa using HE.out, ?_⟩; simp [intOf]; omega)

              · have HST : Hid ((a.take (j + 1)).foldl bordS ([-1073741824]) = row) := hid (by rw [HSTEP.out]; unfold bordS; simp only [if_neg (show ¬ (-1073741824 < x.lo ∧ x.lo ≤ 1073741824) from fun h => c1 h.1), if_neg (show ¬ (-1073741824 ≤ x.hi ∧ x.hi < 1073741824) from fun h => c4 h.2)])
                clear HSTEP
                go_wp2_with fail
                have HE : Hid (∃ j' : Nat, j' ≤ a.length ∧ Value.int .i64 ((j : Int) + 1) = .int .i64 j' ∧ BordI w wo _ a ([-1073741824]) 1 j') := hid ⟨j + 1, by omega, by push_cast; rfl, _, HST.out, HO0.out, HR0.out, by omega, HBo0.out⟩
                clear HST HO0 HR0 HBo0
                first
                  | (refine ⟨HE.out, ?_⟩; simp [intOf]; omega)
                  | (go_simp; refine ⟨by simpa using HE.out, ?_⟩; simp [intOf]; omega)

            · have HST : Hid ((a.take (j + 1)).foldl bordS ([-1073741824]) = row) := hid (by rw [HSTEP.out]; unfold bordS; simp only [if_neg (show ¬ (-1073741824 < x.lo ∧ x.lo ≤ 1073741824) from fun h => c1 h.1), if_neg (show ¬ (-1073741824 ≤ x.hi ∧ x.hi < 1073741824) from fun h => c3 h.1)])
              clear HSTEP
              go_wp2_with fail
              have HE : Hid (∃ j' : Nat, j' ≤ a.length ∧ Value.int .i64 ((j : Int) + 1) = .int .i64 j' ∧ BordI w wo _ a ([-1073741824]) 1 j') := hid ⟨j + 1, by omega, by push_cast; rfl, _, HST.out, HO0.out, HR0.out, by omega, HBo0.out⟩
              clear HST HO0 HR0 HBo0
              first
                | (refine ⟨HE.out, ?_⟩; simp [intOf]; omega)
                | (go_simp; refine ⟨by simpa using HE.out, ?_⟩; simp [intOf]; omega)
        · obtain rfl : j = a.length := by omega
          rw [List.take_length] at hst
          have HST := hid hst
          clear hst ho hri hB hlt
          go_wp2_with fail
          refine ⟨⟨1, row, by omega, rfl, fun h => absurd h (by omega), fun _ => ⟨HST.out.symm, by omega⟩, fun h => absurd h (by omega), HO0.out, HR0.out, HBo0.out⟩, ?_⟩
          simp [intOf]
    by_cases k1 : k = 1
    · subst k1
      obtain ⟨h1a, hrl⟩ := h1 rfl
      have H1 := hid h1a
      clear h1a
      clear h0 h1 h2 ho hri hB
      go_wp2_with fail
      obtain ⟨row1, hrow1⟩ : ∃ row1, row1 = row := ⟨_, rfl⟩
      subst hrow1
      go_loopw [5, 8] (fun vl vj wr => ∃ j : Nat, j ≤ bb.length ∧ vj = .int .i64 j ∧ BordI w wr vl bb (row1) (1 + 2 * a.length) j) (fun _ vj _ => bb.length - (intOf vj).toNat)
      case atStart => exact ⟨0, Nat.zero_le _, rfl, _, rfl, HO.out, HR.out, by first | (simp; done) | (simp; omega), HB.out⟩
      case round =>
        clear HO HR HB
        obtain ⟨j, hj, rfl, row, hst, ho, hri, hlr, hB⟩ := hrel
        obtain ⟨wo, hwo⟩ : ∃ wo, wo = wr := ⟨_, rfl⟩
        subst hwo
        have HO0 := hid ho
        have HR0 := hid hri
        have HBo0 := hid hB
        obtain ⟨B0, d0, rfl, _, _⟩ := list_form (intsR ho)
        by_cases hlt : j < bb.length
        · obtain ⟨x, hx⟩ := at_lt hlt
          obtain ⟨b, o, rfl, hb, r1, r2, ⟨x1, x2⟩, x3, x4⟩ := span_at hb' hx
          have r01 := (hB.cell (p := ⟨b, o + j * 2, none⟩) hb).trans r1
          have r02 := (hB.cell (p := ⟨b, o + j * 2 + 1, none⟩) hb).trans r2
          have hbs : b < wo.heap.size := Nat.lt_of_lt_of_le hb hB.size
          have hlt' : (j : Int) < bb.length := by omega
          have HSTEP : Hid ((bb.take (j + 1)).foldl bordS (row1) = bordS row x) := hid (by rw [take_snoc hx, List.foldl_append, hst]; rfl)
          clear hx hst ho hri hB r1 r2
          by_cases c1 : -1073741824 < x.lo
          · by_cases c2 : x.lo ≤ 1073741824
            · by_cases c3 : -1073741824 ≤ x.hi
              · by_cases c4 : x.hi < 1073741824
                · have HST : Hid ((bb.take (j + 1)).foldl bordS (row1) = putF (x.hi + 1) (putF x.lo row)) := hid (by rw [HSTEP.out]; unfold bordS; simp only [if_pos (show -1073741824 < x.lo ∧ x.lo ≤ 1073741824 from ⟨c1, c2⟩), if_pos (show -1073741824 ≤ x.hi ∧ x.hi < 1073741824 from ⟨c3, c4⟩)])
                  clear HSTEP
                  go_wp2_with fail
                  refine (Rput_calls (row) (x.lo) _ w.heap.size _ HO0.out HR0.out ⟨by omega, by omega⟩ (by omega) HBo0.out.size).mono ?_
                  rintro e w1 ⟨u1, rfl, ho1, hBp1⟩
                  have HO1 := hid ho1
                  have HR1 := hid (putF_rising (x := x.lo) HR0.out)
                  have HBo1 := hid (HBo0.out.trans hBp1)
                  have hln1 := putF_len (x.lo) (row)
                  obtain ⟨B1, d1, rfl, _, _⟩ := list_form (intsR ho1)
                  have r11 := (hBp1.cell (p := ⟨b, o + j * 2, none⟩) hb).trans r01
                  have r12 := (hBp1.cell (p := ⟨b, o + j * 2 + 1, none⟩) hb).trans r02
                  clear ho1 hBp1 r01 r02
                  go_wp2_with fail
                  refine (Rput_calls (putF x.lo row) (x.hi + 1) _ w.heap.size _ HO1.out HR1.out ⟨by omega, by omega⟩ (by omega) HBo1.out.size).mono ?_
                  rintro e w2 ⟨u2, rfl, ho2, hBp2⟩
                  have HO2 := hid ho2
                  have HR2 := hid (putF_rising (x := x.hi + 1) HR1.out)
                  have HBo2 := hid (HBo1.out.trans hBp2)
                  have hln2 := putF_len (x.hi + 1) (putF x.lo row)
                  obtain ⟨B2, d2, rfl, _, _⟩ := list_form (intsR ho2)
                  have r21 := (hBp2.cell (p := ⟨b, o + j * 2, none⟩) hb).trans r11
                  have r22 := (hBp2.cell (p := ⟨b, o + j * 2 + 1, none⟩) hb).trans r12
                  clear ho2 hBp2 r11 r12
                  go_wp2_with fail
                  have HE : Hid (∃ j' : Nat, j' ≤ bb.length ∧ Value.int .i64 ((j : Int) + 1) = .int .i64 j' ∧ BordI w w2 _ bb (row1) (1 + 2 * a.length) j') := hid ⟨j + 1, by omega, by push_cast; rfl, _, HST.out, HO2.out, HR2.out, by omega, HBo2.out⟩
                  clear HST HO2 HR2 HBo2
                  first
                    | (refine ⟨HE.out, ?_⟩; simp [intOf]; omega)
                    | (go_simp; refine ⟨by simpa using HE.out, ?_⟩; simp [intOf]; omega)

                · have HST : Hid ((bb.take (j + 1)).foldl bordS (row1) = putF x.lo row) := hid (by rw [HSTEP.out]; unfold bordS; simp only [if_pos (show -1073741824 < x.lo ∧ x.lo ≤ 1073741824 from ⟨c1, c2⟩), if_neg (show ¬ (-1073741824 ≤ x.hi ∧ x.hi < 1073741824) from fun h => c4 h.2)])
                  clear HSTEP
                  go_wp2_with fail
                  refine (Rput_calls (row) (x.lo) _ w.heap.size _ HO0.out HR0.out ⟨by omega, by omega⟩ (by omega) HBo0.out.size).mono ?_
                  rintro e w1 ⟨u1, rfl, ho1, hBp1⟩
                  have HO1 := hid ho1
                  have HR1 := hid (putF_rising (x := x.lo) HR0.out)
                  have HBo1 := hid (HBo0.out.trans hBp1)
                  have hln1 := putF_len (x.lo) (row)
                  obtain ⟨B1, d1, rfl, _, _⟩ := list_form (intsR ho1)
                  have r11 := (hBp1.cell (p := ⟨b, o + j * 2, none⟩) hb).trans r01
                  have r12 := (hBp1.cell (p := ⟨b, o + j * 2 + 1, none⟩) hb).trans r02
                  clear ho1 hBp1 r01 r02
                  go_wp2_with fail
                  have HE : Hid (∃ j' : Nat, j' ≤ bb.length ∧ Value.int .i64 ((j : Int) + 1) = .int .i64 j' ∧ BordI w w1 _ bb (row1) (1 + 2 * a.length) j') := hid ⟨j + 1, by omega, by push_cast; rfl, _, HST.out, HO1.out, HR1.out, by omega, HBo1.out⟩
                  clear HST HO1 HR1 HBo1
                  first
                    | (refine ⟨HE.out, ?_⟩; simp [intOf]; omega)
                    | (go_simp; refine ⟨by simpa using HE.out, ?_⟩; simp [intOf]; omega)

              · have HST : Hid ((bb.take (j + 1)).foldl bordS (row1) = putF x.lo row) := hid (by rw [HSTEP.out]; unfold bordS; simp only [if_pos (show -1073741824 < x.lo ∧ x.lo ≤ 1073741824 from ⟨c1, c2⟩), if_neg (show ¬ (-1073741824 ≤ x.hi ∧ x.hi < 1073741824) from fun h => c3 h.1)])
                clear HSTEP
                go_wp2_with fail
                refine (Rput_calls (row) (x.lo) _ w.heap.size _ HO0.out HR0.out ⟨by omega, by omega⟩ (by omega) HBo0.out.size).mono ?_
                rintro e w1 ⟨u1, rfl, ho1, hBp1⟩
                have HO1 := hid ho1
                have HR1 := hid (putF_rising (x := x.lo) HR0.out)
                have HBo1 := hid (HBo0.out.trans hBp1)
                have hln1 := putF_len (x.lo) (row)
                obtain ⟨B1, d1, rfl, _, _⟩ := list_form (intsR ho1)
                have r11 := (hBp1.cell (p := ⟨b, o + j * 2, none⟩) hb).trans r01
                have r12 := (hBp1.cell (p := ⟨b, o + j * 2 + 1, none⟩) hb).trans r02
                clear ho1 hBp1 r01 r02
                go_wp2_with fail
                have HE : Hid (∃ j' : Nat, j' ≤ bb.length ∧ Value.int .i64 ((j : Int) + 1) = .int .i64 j' ∧ BordI w w1 _ bb (row1) (1 + 2 * a.length) j') := hid ⟨j + 1, by omega, by push_cast; rfl, _, HST.out, HO1.out, HR1.out, by omega, HBo1.out⟩
                clear HST HO1 HR1 HBo1
                first
                  | (refine ⟨HE.out, ?_⟩; simp [intOf]; omega)
                  | (go_simp; refine ⟨by simpa using HE.out, ?_⟩; simp [intOf]; omega)
            · by_cases c3 : -1073741824 ≤ x.hi
              · by_cases c4 : x.hi < 1073741824
                · have HST : Hid ((bb.take (j + 1)).foldl bordS (row1) = putF (x.hi + 1) (row)) := hid (by rw [HSTEP.out]; unfold bordS; simp only [if_neg (show ¬ (-1073741824 < x.lo ∧ x.lo ≤ 1073741824) from fun h => c2 h.2), if_pos (show -1073741824 ≤ x.hi ∧ x.hi < 1073741824 from ⟨c3, c4⟩)])
                  clear HSTEP
                  go_wp2_with fail
                  refine (Rput_calls (row) (x.hi + 1) _ w.heap.size _ HO0.out HR0.out ⟨by omega, by omega⟩ (by omega) HBo0.out.size).mono ?_
                  rintro e w1 ⟨u1, rfl, ho1, hBp1⟩
                  have HO1 := hid ho1
                  have HR1 := hid (putF_rising (x := x.hi + 1) HR0.out)
                  have HBo1 := hid (HBo0.out.trans hBp1)
                  have hln1 := putF_len (x.hi + 1) (row)
                  obtain ⟨B1, d1, rfl, _, _⟩ := list_form (intsR ho1)
                  have r11 := (hBp1.cell (p := ⟨b, o + j * 2, none⟩) hb).trans r01
                  have r12 := (hBp1.cell (p := ⟨b, o + j * 2 + 1, none⟩) hb).trans r02
                  clear ho1 hBp1 r01 r02
                  go_wp2_with fail
                  have HE : Hid (∃ j' : Nat, j' ≤ bb.length ∧ Value.int .i64 ((j : Int) + 1) = .int .i64 j' ∧ BordI w w1 _ bb (row1) (1 + 2 * a.length) j') := hid ⟨j + 1, by omega, by push_cast; rfl, _, HST.out, HO1.out, HR1.out, by omega, HBo1.out⟩
                  clear HST HO1 HR1 HBo1
                  first
                    | (refine ⟨HE.out, ?_⟩; simp [intOf]; omega)
                    | (go_simp; refine ⟨by simpa using HE.out, ?_⟩; simp [intOf]; omega)

                · have HST : Hid ((bb.take (j + 1)).foldl bordS (row1) = row) := hid (by rw [HSTEP.out]; unfold bordS; simp only [if_neg (show ¬ (-1073741824 < x.lo ∧ x.lo ≤ 1073741824) from fun h => c2 h.2), if_neg (show ¬ (-1073741824 ≤ x.hi ∧ x.hi < 1073741824) from fun h => c4 h.2)])
                  clear HSTEP
                  go_wp2_with fail
                  have HE : Hid (∃ j' : Nat, j' ≤ bb.length ∧ Value.int .i64 ((j : Int) + 1) = .int .i64 j' ∧ BordI w wo _ bb (row1) (1 + 2 * a.length) j') := hid ⟨j + 1, by omega, by push_cast; rfl, _, HST.out, HO0.out, HR0.out, by omega, HBo0.out⟩
                  clear HST HO0 HR0 HBo0
                  first
                    | (refine ⟨HE.out, ?_⟩; simp [intOf]; omega)
                    | (go_simp; refine ⟨by simpa using HE.out, ?_⟩; simp [intOf]; omega)

              · have HST : Hid ((bb.take (j + 1)).foldl bordS (row1) = row) := hid (by rw [HSTEP.out]; unfold bordS; simp only [if_neg (show ¬ (-1073741824 < x.lo ∧ x.lo ≤ 1073741824) from fun h => c2 h.2), if_neg (show ¬ (-1073741824 ≤ x.hi ∧ x.hi < 1073741824) from fun h => c3 h.1)])
                clear HSTEP
                go_wp2_with fail
                have HE : Hid (∃ j' : Nat, j' ≤ bb.length ∧ Value.int .i64 ((j : Int) + 1) = .int .i64 j' ∧ BordI w wo _ bb (row1) (1 + 2 * a.length) j') := hid ⟨j + 1, by omega, by push_cast; rfl, _, HST.out, HO0.out, HR0.out, by omega, HBo0.out⟩
                clear HST HO0 HR0 HBo0
                first
                  | (refine ⟨HE.out, ?_⟩; simp [intOf]; omega)
                  | (go_simp; refine ⟨by simpa using HE.out, ?_⟩; simp [intOf]; omega)
          · by_cases c3 : -1073741824 ≤ x.hi
            · by_cases c4 : x.hi < 1073741824
              · have HST : Hid ((bb.take (j + 1)).foldl bordS (row1) = putF (x.hi + 1) (row)) := hid (by rw [HSTEP.out]; unfold bordS; simp only [if_neg (show ¬ (-1073741824 < x.lo ∧ x.lo ≤ 1073741824) from fun h => c1 h.1), if_pos (show -1073741824 ≤ x.hi ∧ x.hi < 1073741824 from ⟨c3, c4⟩)])
                clear HSTEP
                go_wp2_with fail
                refine (Rput_calls (row) (x.hi + 1) _ w.heap.size _ HO0.out HR0.out ⟨by omega, by omega⟩ (by omega) HBo0.out.size).mono ?_
                rintro e w1 ⟨u1, rfl, ho1, hBp1⟩
                have HO1 := hid ho1
                have HR1 := hid (putF_rising (x := x.hi + 1) HR0.out)
                have HBo1 := hid (HBo0.out.trans hBp1)
                have hln1 := putF_len (x.hi + 1) (row)
                obtain ⟨B1, d1, rfl, _, _⟩ := list_form (intsR ho1)
                have r11 := (hBp1.cell (p := ⟨b, o + j * 2, none⟩) hb).trans r01
                have r12 := (hBp1.cell (p := ⟨b, o + j * 2 + 1, none⟩) hb).trans r02
                clear ho1 hBp1 r01 r02
                go_wp2_with fail
                have HE : Hid (∃ j' : Nat, j' ≤ bb.length ∧ Value.int .i64 ((j : Int) + 1) = .int .i64 j' ∧ BordI w w1 _ bb (row1) (1 + 2 * a.length) j') := hid ⟨j + 1, by omega, by push_cast; rfl, _, HST.out, HO1.out, HR1.out, by omega, HBo1.out⟩
                clear HST HO1 HR1 HBo1
                first
                  | (refine ⟨HE.out, ?_⟩; simp [intOf]; omega)
                  | (go_simp; refine ⟨by simpa using HE.out, ?_⟩; simp [intOf]; omega)

              · have HST : Hid ((bb.take (j + 1)).foldl bordS (row1) = row) := hid (by rw [HSTEP.out]; unfold bordS; simp only [if_neg (show ¬ (-1073741824 < x.lo ∧ x.lo ≤ 1073741824) from fun h => c1 h.1), if_neg (show ¬ (-1073741824 ≤ x.hi ∧ x.hi < 1073741824) from fun h => c4 h.2)])
                clear HSTEP
                go_wp2_with fail
                have HE : Hid (∃ j' : Nat, j' ≤ bb.length ∧ Value.int .i64 ((j : Int) + 1) = .int .i64 j' ∧ BordI w wo _ bb (row1) (1 + 2 * a.length) j') := hid ⟨j + 1, by omega, by push_cast; rfl, _, HST.out, HO0.out, HR0.out, by omega, HBo0.out⟩
                clear HST HO0 HR0 HBo0
                first
                  | (refine ⟨HE.out, ?_⟩; simp [intOf]; omega)
                  | (go_simp; refine ⟨by simpa using HE.out, ?_⟩; simp [intOf]; omega)

            · have HST : Hid ((bb.take (j + 1)).foldl bordS (row1) = row) := hid (by rw [HSTEP.out]; unfold bordS; simp only [if_neg (show ¬ (-1073741824 < x.lo ∧ x.lo ≤ 1073741824) from fun h => c1 h.1), if_neg (show ¬ (-1073741824 ≤ x.hi ∧ x.hi < 1073741824) from fun h => c3 h.1)])
              clear HSTEP
              go_wp2_with fail
              have HE : Hid (∃ j' : Nat, j' ≤ bb.length ∧ Value.int .i64 ((j : Int) + 1) = .int .i64 j' ∧ BordI w wo _ bb (row1) (1 + 2 * a.length) j') := hid ⟨j + 1, by omega, by push_cast; rfl, _, HST.out, HO0.out, HR0.out, by omega, HBo0.out⟩
              clear HST HO0 HR0 HBo0
              first
                | (refine ⟨HE.out, ?_⟩; simp [intOf]; omega)
                | (go_simp; refine ⟨by simpa using HE.out, ?_⟩; simp [intOf]; omega)
        · obtain rfl : j = bb.length := by omega
          rw [List.take_length] at hst
          have HST := hid hst
          clear hst ho hri hB hlt
          go_wp2_with fail
          refine ⟨⟨2, row, by omega, rfl, fun h => absurd h (by omega), fun h => absurd h (by omega), fun _ => by rw [← HST.out, H1.out]; rfl, HO0.out, HR0.out, HBo0.out⟩, ?_⟩
          simp [intOf]
    · obtain rfl : k = 2 := by omega
      have H2 := hid (h2 rfl)
      clear h0 h1 h2 ho hri hB
      go_wp2_with fail
      go_ret
      exact ⟨_, rfl, by rw [← H2.out]; exact HO.out, HB.out⟩
end Go.Proofs.Ytflllgbjlfpgcaa
