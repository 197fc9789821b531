/-
  The reference's other put: a number more, at its place, in a row of the call's own.
-/
import Derived.Test.YtflllgbjlfpgcaaKPut
namespace Go.Proofs.Ytflllgbjlfpgcaa
open Go.RowKit Go.Um
set_option maxHeartbeats 1000000 in
set_option maxRecDepth 100000 in
theorem Put6_calls (zs : List Int) (x : Int) (v : Value) (base : Nat) (w : World) (h : w.ownsInts base 3 .i64 v zs) (hr : Rising zs) (hx : I64 x) (hl : zs.length ≤ 10000000) (hbase : base ≤ w.heap.size) :
    Calls Try.prog 61 #[v, .int .i64 x] w fun e w' => ∃ u, e = .returned u ∧ w'.ownsInts base 3 .i64 u (putF x zs) ∧ Below base w w' := by
  have hz := intsR h
  obtain ⟨A, c, rfl, hc, hm⟩ := list_form hz
  unfold maxLen at hm
  have HO := hid h
  clear h
  go_enter Try.func61, Try.ntmps61
  go_wp2_with fail
  go_loop [5, 6] (fun vl vh => ∃ lo hi : Nat, lo ≤ hi ∧ hi ≤ zs.length ∧ vl = .int .i64 lo ∧ vh = .int .i64 hi ∧ (∀ (j : Nat) (y : Int), zs[j]? = some y → j < lo → y < x) ∧ (∀ (j : Nat) (y : Int), zs[j]? = some y → hi ≤ j → x ≤ y)) (fun vl vh => (intOf vh).toNat - (intOf vl).toNat)
  case atStart => exact ⟨0, zs.length, Nat.zero_le _, Nat.le_refl _, rfl, rfl, fun _ _ _ h => absurd h (by omega), fun j y hy h => by have := (List.getElem?_eq_some_iff.1 hy).1; omega⟩
  case round =>
    obtain ⟨lo, hi, h1, h2, rfl, rfl, h3, h4⟩ := hrel
    have H3 := hid h3; clear h3
    have H4 := hid h4; clear h4
    by_cases hlt : lo < hi
    · obtain ⟨m, hm'⟩ : ∃ m : Nat, m = (lo + hi) / 2 := ⟨_, rfl⟩
      obtain ⟨y, hy⟩ := at_lt (xs := zs) (i := m) (by omega)
      obtain ⟨b1, o1, y1, rfl, hb1, ⟨hy1, hy2⟩, hcz⟩ := list_at1 rfl hz hy
      simp only [List.cons.injEq, and_true] at hy1
      subst hy1
      have hd : ((lo : Int) + (hi : Int)).tdiv 2 = (m : Int) := by rw [hm', Int.tdiv_eq_ediv_of_nonneg (by omega)]; omega
      have hlt' : (lo : Int) < hi := by omega
      have hmz : (m : Int) < zs.length := by omega
      have HY := hid hy
      have hm1 : lo ≤ m := by omega
      have hm2 : m < hi := by omega
      have HM := hid hm'
      clear hm' hy hlt
      by_cases hc1 : y < x
      · go_wp2_with fail
        refine ⟨⟨m + 1, hi, by omega, h2, by go_num, rfl, fun j z hz hj => ?_, H4.out⟩, ?_⟩
        · rcases Nat.lt_or_ge j m with q | q
          · have := rising_lt hr hz HY.out q; omega
          · obtain rfl : j = m := by omega
            rw [HY.out] at hz; cases hz; exact hc1
        · simp [intOf]; omega
      · go_wp2_with fail
        refine ⟨⟨lo, m, by omega, by omega, rfl, rfl, H3.out, fun j z hz hj => ?_⟩, ?_⟩
        · rcases Nat.lt_or_ge m j with q | q
          · have := rising_lt hr HY.out hz q; omega
          · obtain rfl : j = m := by omega
            rw [HY.out] at hz; cases hz; omega
        · simp [intOf]; omega
    · obtain rfl : lo = hi := by omega
      have hpf := putF_eq (fun j y a b => H3.out j y a b) (fun j y a b => H4.out j y a b) h2
      have HPF := hid hpf
      clear hpf H3 H4
      by_cases hln : lo < zs.length
      · obtain ⟨y, hy⟩ := at_lt hln
        obtain ⟨b1, o1, y1, rfl, hb1, ⟨hy1, hy2⟩, hcz⟩ := list_at1 rfl hz hy
        simp only [List.cons.injEq, and_true] at hy1
        subst hy1
        have hln' : (lo : Int) < zs.length := by omega
        have HY := hid hy
        clear hy hln
        by_cases hyx : y = x
        · subst hyx
          have hF : Hid (zs = putF y zs) := hid (by rw [HPF.out, if_pos HY.out])
          clear HPF
          go_wp2_with fail
          go_ret
          exact ⟨_, rfl, by rw [← hF.out]; exact HO.out, Below.refl _ _⟩
        · have e1 : (y == x) = false := by simpa using hyx
          have hF : Hid (zs.take lo ++ x :: zs.drop lo = putF x zs) := hid (by rw [HPF.out, if_neg (by rw [HY.out]; simpa using hyx)])
          have HYX := hid hyx
          clear HPF hyx
          go_wp2_with (at_builtin; refine Hid.out ?_)
          refine hid ?_
          obtain ⟨inf, hi0, hz0, hz1, hz2⟩ := info_parts info3
          refine wpList_append_own _ rfl _ _ 51 rfl base 3 inf (.int .i64 0) 1 8 Try.underlying51 hi0 hz0 hz1 hz2 rfl (by decide) _ _ _ rfl (HO.out.1.alloc _) ⟨w.heap.size, 0, none⟩ 1 1 [.int .i64 0] rfl rfl
            (news_at (w := w) (cs := #[_]) rfl) (ints_oneCell .i64 [0]) (by unfold maxLen; omega) (by omega) (by simp; omega) ?_
          intro v' w3 hown hg hn
          have hB3 : Below base w w3 := ((Below.refl base w).alloc hbase _).trans (below_grown (HO.out.1.alloc _) hg (Nat.le_refl _) (by simp; omega))
          obtain ⟨g, cap, rfl⟩ := own_form hown (by omega)
          have hrow : w3.ownsInts base 3 .i64 (.slice (some ⟨g, 0, none⟩) (zs.length + 1) cap) (zs ++ [0]) := World.ownsInts.appended (HO.out.alloc (.cells #[.int .i64 0] 3)) hown (by decide)
          have hg0 := (hown.lt g rfl).1
          clear hown hg hn
          go_wp2_with fail
          go_loopw [8] (fun vi wr => ∃ (i : Nat) (row : List Int), lo ≤ i ∧ i ≤ zs.length ∧ vi = .int .i64 i ∧ row.length = zs.length + 1 ∧ row.take i = zs.take i ∧ row.drop (i + 1) = zs.drop i ∧ wr.ownsInts base 3 .i64 (.slice (some ⟨g, 0, none⟩) (zs.length + 1) cap) row ∧ Below base w wr) (fun vi _ => (intOf vi).toNat)
          case atStart => exact ⟨zs.length, zs ++ [0], h2, Nat.le_refl _, by go_num, by simp, by simp, by simp, hrow, hB3⟩
          case round =>
            obtain ⟨i, row, q1, q2, rfl, q3, q4, q5, q6, q7⟩ := hrel
            have HQ4 := hid q4
            have HQ5 := hid q5
            clear q4 q5
            have hzr := intsR q6
            by_cases hgt : lo < i
            · obtain ⟨y, hy⟩ := at_lt (xs := row) (i := i - 1) (by omega)
              have hyz : zs[i - 1]? = some y := by
                have e := congrArg (·[i - 1]?) HQ4.out
                simp only [List.getElem?_take] at e
                rw [if_pos (by omega), if_pos (by omega), hy] at e
                exact e.symm
              obtain ⟨b2, o2, y2, hA2, _, ⟨hv1, hv2⟩, hcz2⟩ := list_at1 rfl hzr hy
              simp only [Option.some.injEq, Addr.mk.injEq, and_true] at hA2
              obtain ⟨rfl, rfl⟩ := hA2
              simp only [List.cons.injEq, and_true] at hv1
              subst hv1
              obtain ⟨yi, hyi⟩ := at_lt (xs := row) (i := i) (by omega)
              obtain ⟨b3, o3, y3, hA3, _, ⟨hv3, _⟩, hcz3⟩ := list_at1 rfl hzr hyi
              simp only [Option.some.injEq, Addr.mk.injEq, and_true] at hA3
              obtain ⟨rfl, rfl⟩ := hA3
              simp only [Nat.zero_add] at hcz3
              clear hyi hv3
              obtain ⟨i', hi'⟩ : ∃ i', i' = i - 1 := ⟨_, rfl⟩
              rw [← hi'] at hy hyz hcz2
              simp only [Nat.zero_add] at hcz2
              have hsub : (i : Int) - 1 = (i' : Int) := by omega
              have q8 := q6.1
              rw [q3] at q8
              have hst := World.ownsRow.stored q8 i (.int .i64 y)
              have hfr := World.ownsRow.frozenAt q8 i
              have hgt' : (lo : Int) < (i : Int) := by omega
              have hin : (i : Int) < (zs.length : Int) + 1 := by omega
              have hin2 : (i' : Int) < (zs.length : Int) + 1 := by omega
              have HI := hid hi'
              have HYZ := hid hyz
              have HQ6 := hid q6
              have HQ3 := hid q3
              clear hi' hy hyz q6 q8 hzr q3 hrow hB3
              have HST := hid hst
              clear hst
              go_wp2_with fail
              have hi1 : i = i' + 1 := by have := HI.out; omega
              refine ⟨⟨i', row.set i y, by omega, by omega, by go_num, by rw [List.length_set]; exact HQ3.out, ?_, ?_, ⟨?_, ?_⟩, ?_⟩, ?_⟩
              · have e := congrArg (List.take i') HQ4.out
                rw [List.take_take, List.take_take, Nat.min_eq_left (by omega)] at e
                rw [List.take_set_of_le (by omega), e]
              · rw [← hi1, drop_cons (x := y) (List.getElem?_set_self (by rw [HQ3.out]; omega)), List.drop_set_of_lt (by omega), HQ5.out, drop_cons HYZ.out, ← hi1]
              · have e := HST.out.1
                rw [List.length_set, HQ3.out, List.map_set]
                exact e
              · intro z hz
                rcases List.mem_or_eq_of_mem_set hz with hz | rfl
                · exact HQ6.out.2 z hz
                · exact WalkArith.wf_i64 hv2
              · exact q7.setCell hg0 _
              · simp [intOf]; omega
            · obtain rfl : i = lo := by omega
              have q8 := q6.1
              rw [q3] at q8
              have hst := World.ownsRow.stored q8 i (.int .i64 x)
              have hfr := World.ownsRow.frozenAt q8 i
              obtain ⟨yi, hyi⟩ := at_lt (xs := row) (i := i) (by omega)
              obtain ⟨b3, o3, y3, hA3, _, ⟨hv3, _⟩, hcz3⟩ := list_at1 rfl hzr hyi
              simp only [Option.some.injEq, Addr.mk.injEq, and_true] at hA3
              obtain ⟨rfl, rfl⟩ := hA3
              simp only [Nat.zero_add] at hcz3
              have hin : (i : Int) < (zs.length : Int) + 1 := by omega
              have HST := hid hst
              have HQ3 := hid q3
              have HQ6 := hid q6
              have hfin : Hid (row.set i x = putF x zs) := hid (by
                rw [← hF.out, ← HQ4.out, ← HQ5.out]
                rw [List.set_eq_take_append_cons_drop, if_pos (by omega)])
              clear hyi hv3 q6 q8 hzr q3 hrow hB3 hst
              go_wp2_with fail
              go_ret
              refine ⟨_, rfl, ?_, q7.setCell hg0 _⟩
              rw [← hfin.out]
              refine ⟨?_, fun z hz => ?_⟩
              · have e := HST.out.1
                rw [List.length_set, HQ3.out, List.map_set]
                exact e
              · rcases List.mem_or_eq_of_mem_set hz with hz | rfl
                · exact HQ6.out.2 z hz
                · exact WalkArith.wf_i64 hx
      · have hln' : ¬ (lo : Int) < zs.length := by omega
        have hF : Hid (zs.take lo ++ x :: zs.drop lo = putF x zs) := hid (by rw [HPF.out, if_neg (by rw [List.getElem?_eq_none (by omega)]; simp)])
        clear HPF
        go_wp2_with (at_builtin; refine Hid.out ?_)
        refine hid ?_
        obtain ⟨inf, hi0, hz0, hz1, hz2⟩ := info_parts info3
        refine wpList_append_own _ rfl _ _ 51 rfl base 3 inf (.int .i64 0) 1 8 Try.underlying51 hi0 hz0 hz1 hz2 rfl (by decide) _ _ _ rfl (HO.out.1.alloc _) ⟨w.heap.size, 0, none⟩ 1 1 [.int .i64 0] rfl rfl
          (news_at (w := w) (cs := #[_]) rfl) (ints_oneCell .i64 [0]) (by unfold maxLen; omega) (by omega) (by simp; omega) ?_
        intro v' w3 hown hg hn
        have hB3 : Below base w w3 := ((Below.refl base w).alloc hbase _).trans (below_grown (HO.out.1.alloc _) hg (Nat.le_refl _) (by simp; omega))
        obtain ⟨g, cap, rfl⟩ := own_form hown (by omega)
        have hrow : w3.ownsInts base 3 .i64 (.slice (some ⟨g, 0, none⟩) (zs.length + 1) cap) (zs ++ [0]) := World.ownsInts.appended (HO.out.alloc (.cells #[.int .i64 0] 3)) hown (by decide)
        have hg0 := (hown.lt g rfl).1
        clear hown hg hn
        go_wp2_with fail
        go_loopw [8] (fun vi wr => ∃ (i : Nat) (row : List Int), lo ≤ i ∧ i ≤ zs.length ∧ vi = .int .i64 i ∧ row.length = zs.length + 1 ∧ row.take i = zs.take i ∧ row.drop (i + 1) = zs.drop i ∧ wr.ownsInts base 3 .i64 (.slice (some ⟨g, 0, none⟩) (zs.length + 1) cap) row ∧ Below base w wr) (fun vi _ => (intOf vi).toNat)
        case atStart => exact ⟨zs.length, zs ++ [0], h2, Nat.le_refl _, by go_num, by simp, by simp, by simp, hrow, hB3⟩
        case round =>
          obtain ⟨i, row, q1, q2, rfl, q3, q4, q5, q6, q7⟩ := hrel
          have HQ4 := hid q4
          have HQ5 := hid q5
          clear q4 q5
          have hzr := intsR q6
          by_cases hgt : lo < i
          · exact absurd hgt (by omega)
          · obtain rfl : i = lo := by omega
            have q8 := q6.1
            rw [q3] at q8
            have hst := World.ownsRow.stored q8 i (.int .i64 x)
            have hfr := World.ownsRow.frozenAt q8 i
            obtain ⟨yi, hyi⟩ := at_lt (xs := row) (i := i) (by omega)
            obtain ⟨b3, o3, y3, hA3, _, ⟨hv3, _⟩, hcz3⟩ := list_at1 rfl hzr hyi
            simp only [Option.some.injEq, Addr.mk.injEq, and_true] at hA3
            obtain ⟨rfl, rfl⟩ := hA3
            simp only [Nat.zero_add] at hcz3
            have hin : (i : Int) < (zs.length : Int) + 1 := by omega
            have HST := hid hst
            have HQ3 := hid q3
            have HQ6 := hid q6
            have hfin : Hid (row.set i x = putF x zs) := hid (by
              rw [← hF.out, ← HQ4.out, ← HQ5.out]
              rw [List.set_eq_take_append_cons_drop, if_pos (by omega)])
            clear hyi hv3 q6 q8 hzr q3 hrow hB3 hst
            go_wp2_with fail
            go_ret
            refine ⟨_, rfl, ?_, q7.setCell hg0 _⟩
            rw [← hfin.out]
            refine ⟨?_, fun z hz => ?_⟩
            · have e := HST.out.1
              rw [List.length_set, HQ3.out, List.map_set]
              exact e
            · rcases List.mem_or_eq_of_mem_set hz with hz | rfl
              · exact HQ6.out.2 z hz
              · exact WalkArith.wf_i64 hx
end Go.Proofs.Ytflllgbjlfpgcaa
