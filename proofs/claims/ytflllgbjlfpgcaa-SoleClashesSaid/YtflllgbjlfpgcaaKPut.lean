/-
  Walks over the reference's sets: Domain, Same, Has. The reference's put: a number more, at its place, in a row of the call's own.
-/
import Derived.Test.YtflllgbjlfpgcaaKSole
import Derived.Test.YtflllgbjlfpgcaaKPlain
import Derived.Test.YtflllgbjlfpgcaaKClash
namespace Go.Proofs.Ytflllgbjlfpgcaa
open Go.RowKit Go.Um
set_option maxHeartbeats 1000000 in
theorem RHas_calls (l : List Span) (x : Int) (v : Value) (w : World) (S : Nat → Prop) (h : spansR.rel w S [v] l) : Calls Try.prog 27 #[v, .int .i64 x] w fun e w' => e = .returned (.bool (hasF l x)) ∧ w = w' := by
  obtain ⟨A, c, rfl, hc, hm⟩ := list_form h
  unfold maxLen at hm
  go_enter Try.func27, Try.ntmps27
  go_wp2_with fail
  go_loop [5] (fun vi => ∃ k : Nat, k ≤ l.length ∧ vi = .int .i64 k ∧ hasF (l.drop k) x = hasF l x) (fun vi => l.length - (intOf vi).toNat)
  case atStart => exact ⟨0, Nat.zero_le _, rfl, rfl⟩
  case round =>
    obtain ⟨k, hk, rfl, hp⟩ := hrel
    have HP := hid hp; clear hp
    by_cases hlt : k < l.length
    · obtain ⟨s, hx⟩ := at_lt hlt
      obtain ⟨b1, o1, rfl, hb1, h1, h2, hp1, hp2⟩ := span_at h hx
      have hlt' : (k : Int) < l.length := by omega
      have HP2 : Hid (((decide (s.lo ≤ x) && decide (x ≤ s.hi) && decide (-1073741824 ≤ x) && decide (x ≤ 1073741824)) || hasF (l.drop (k + 1)) x) = hasF l x) := hid (by have := HP.out; rw [drop_cons hx] at this; exact this)
      clear hx hp1 hp2
      by_cases c1 : s.lo ≤ x
      · by_cases c2 : x ≤ s.hi
        · by_cases c3 : -1073741824 ≤ x
          · by_cases c4 : x ≤ 1073741824
            · have hF : Hid (true = hasF l x) := hid (by have := HP2.out; simpa [c1, c2, c3, c4] using this)
              go_wp2_with fail
              go_ret
              exact ⟨by rw [← hF.out]; rfl, rfl⟩
            · have hF : Hid (hasF (l.drop (k + 1)) x = hasF l x) := hid (by have := HP2.out; simpa [c4] using this)
              go_wp2_with fail
              refine ⟨⟨k + 1, by omega, by go_num, hF.out⟩, ?_⟩
              simp [intOf]; omega
          · have hF : Hid (hasF (l.drop (k + 1)) x = hasF l x) := hid (by have := HP2.out; simpa [c3] using this)
            go_wp2_with fail
            refine ⟨⟨k + 1, by omega, by go_num, hF.out⟩, ?_⟩
            simp [intOf]; omega
        · have hF : Hid (hasF (l.drop (k + 1)) x = hasF l x) := hid (by have := HP2.out; simpa [c2] using this)
          go_wp2_with fail
          refine ⟨⟨k + 1, by omega, by go_num, hF.out⟩, ?_⟩
          simp [intOf]; omega
      · have hF : Hid (hasF (l.drop (k + 1)) x = hasF l x) := hid (by have := HP2.out; simpa [c1] using this)
        go_wp2_with fail
        refine ⟨⟨k + 1, by omega, by go_num, hF.out⟩, ?_⟩
        simp [intOf]; omega
    · have hke : k = l.length := by omega
      subst hke
      have hF : Hid (false = hasF l x) := hid (by have := HP.out; simpa [hasF] using this)
      clear HP
      go_wp2_with fail
      go_ret
      exact ⟨by rw [← hF.out]; rfl, rfl⟩
set_option maxHeartbeats 400000 in
theorem RDomain_calls (s : Int) (w : World) : Calls Try.prog 36 #[.int .i64 s] w fun e w' => ∃ u, e = .returned u ∧ OwnS 46 w' w.heap.size u (domF s) ∧ Below w.heap.size w w' := by
  by_cases h1 : s = 1
  · subst h1
    go_enter Try.func36, Try.ntmps36
    go_wp2_with fail
    go_ret
    refine ⟨_, rfl, ⟨World.ownsRow_lit w #[.int .i64 0, .int .i64 255] 1 (Nat.le_refl _) (by decide) rfl, ?_⟩, (Below.refl _ _).alloc (Nat.le_refl _) _⟩
    intro x hx; simp [domF] at hx; subst hx; exact ⟨I64.of (by decide) (by decide), I64.of (by decide) (by decide)⟩
  · have e1 : (s == 1) = false := by simpa using h1
    by_cases h2 : s = 2
    · subst h2
      go_enter Try.func36, Try.ntmps36
      go_wp2_with fail
      go_ret
      refine ⟨_, rfl, ⟨World.ownsRow_lit w #[.int .i64 0, .int .i64 55295, .int .i64 57344, .int .i64 1114111] 2 (Nat.le_refl _) (by decide) rfl, ?_⟩, (Below.refl _ _).alloc (Nat.le_refl _) _⟩
      intro x hx; simp [domF] at hx; rcases hx with rfl | rfl <;> exact ⟨I64.of (by decide) (by decide), I64.of (by decide) (by decide)⟩
    · have e2 : (s == 2) = false := by simpa using h2
      have hd : domF s = [] := by simp [domF, h1, h2]
      rw [hd]
      clear hd h1 h2
      go_enter Try.func36, Try.ntmps36
      go_wp2_with fail
      go_ret
      exact ⟨_, rfl, ⟨World.ownsRow_nil _ _ _ _, by simp⟩, Below.refl _ _⟩


def sameF : List Span → List Span → Bool
  | [], [] => true
  | x :: a, y :: b => decide (x = y) && sameF a b
  | _, _ => false
theorem sameF_iff (a b : List Span) : sameF a b = decide (a = b) := by
  induction a generalizing b with
  | nil => cases b <;> simp [sameF]
  | cons x a ih => cases b with
    | nil => simp [sameF]
    | cons y b => simp [sameF, ih]
set_option maxHeartbeats 1000000 in
theorem RSame_calls (a b : List Span) (v u : Value) (w : World) (ha : spansR.rel w (upto w.heap.size) [v] a) (hb : spansR.rel w (upto w.heap.size) [u] b) :
    Calls Try.prog 34 #[v, u] w fun e w' => e = .returned (.bool (sameF a b)) ∧ Below w.heap.size w w' := by
  obtain ⟨A1, c1, rfl, hc1, hm1⟩ := list_form ha
  obtain ⟨A2, c2, rfl, hc2, hm2⟩ := list_form hb
  unfold maxLen at hm1 hm2
  by_cases hl : a.length = b.length
  · have e1 : ((a.length : Int) == b.length) = true := by simp [hl]
    have e2 : ((a.length : Int) != b.length) = false := by simp [hl]
    have HL := hid hl; clear hl
    go_enter Try.func34, Try.ntmps34
    go_wp2_with fail
    go_loopw [5] (fun vi wr => ∃ k : Nat, k ≤ a.length ∧ vi = .int .i64 k ∧ sameF (a.drop k) (b.drop k) = sameF a b ∧ Below w.heap.size w wr) (fun vi _ => a.length - (intOf vi).toNat)
    case atStart => exact ⟨0, Nat.zero_le _, rfl, rfl, Below.refl _ _⟩
    case round =>
      obtain ⟨k, hk, rfl, hp, hB⟩ := hrel
      have HP := hid hp; clear hp
      have har := spansR.mono (below_cells hB) (fun _ h => h) ha
      have hbr := spansR.mono (below_cells hB) (fun _ h => h) hb
      by_cases hlt : k < a.length
      · obtain ⟨x, hx⟩ := at_lt hlt
        obtain ⟨y, hy⟩ := at_lt (xs := b) (i := k) (by have := HL.out; omega)
        obtain ⟨b1, o1, rfl, hb1, h1, h2, hp1, hp2⟩ := span_at har hx
        obtain ⟨b2, o2, rfl, hb2, h3, h4, hq1, hq2⟩ := span_at hbr hy
        have hka : (k : Int) < a.length := by omega
        have hkb : (k : Int) < b.length := by have := HL.out; omega
        have HP2 : Hid ((decide (x = y) && sameF (a.drop (k + 1)) (b.drop (k + 1))) = sameF a b) := hid (by have := HP.out; rw [drop_cons hx, drop_cons hy] at this; exact this)
        clear hx hy har hbr hp1 hp2 hq1 hq2 HP
        obtain ⟨xl, xh⟩ := x
        obtain ⟨yl, yh⟩ := y
        dsimp only at h1 h2 h3 h4
        by_cases q1 : xl = yl
        · subst q1
          by_cases q2 : xh = yh
          · subst q2
            have hF : Hid (sameF (a.drop (k + 1)) (b.drop (k + 1)) = sameF a b) := hid (by have := HP2.out; simpa using this)
            go_wp2_with fail
            go_quiet (fail)
            go_wp2_with fail
            refine ⟨⟨k + 1, by omega, by go_num, hF.out, below_drewN hB _⟩, ?_⟩
            simp [intOf]; omega
          · have hF : Hid (false = sameF a b) := hid (by have := HP2.out; simpa [q2] using this)
            have e5 : (xh == yh) = false := by simpa using q2
            have HQ := hid q2; clear q2
            go_wp2_with fail
            go_quiet (fail)
            go_wp2_with fail
            go_ret
            exact ⟨by rw [← hF.out]; rfl, below_drewN hB _⟩
        · have hF : Hid (false = sameF a b) := hid (by have := HP2.out; simpa [q1] using this)
          have e5 : (xl == yl) = false := by simpa using q1
          have HQ := hid q1; clear q1
          go_wp2_with fail
          go_quiet (fail)
          go_wp2_with fail
          go_ret
          exact ⟨by rw [← hF.out]; rfl, below_drewN hB _⟩
      · have hke : k = a.length := by omega
        subst hke
        have hF : Hid (true = sameF a b) := hid (by have := HP.out; rw [List.drop_length, HL.out, List.drop_length] at this; exact this)
        clear HP har hbr
        go_wp2_with fail
        go_ret
        exact ⟨by rw [← hF.out]; rfl, hB⟩
  · have hF : Hid (false = sameF a b) := hid (by rw [sameF_iff]; simp; intro h; exact hl (by rw [h]))
    have e1 : ((a.length : Int) == b.length) = false := by simp; exact_mod_cast hl
    have e2 : ((a.length : Int) != b.length) = true := by simp; exact_mod_cast hl
    have HL := hid hl; clear hl ha hb
    go_enter Try.func34, Try.ntmps34
    go_wp2_with fail
    go_ret
    exact ⟨by rw [← hF.out]; rfl, Below.refl _ _⟩
end Go.Proofs.Ytflllgbjlfpgcaa
namespace Go.Um
theorem putF_eq {x : Int} {l : List Int} {lo : Nat} (h1 : ∀ (j : Nat) (y : Int), l[j]? = some y → j < lo → y < x) (h2 : ∀ (j : Nat) (y : Int), l[j]? = some y → lo ≤ j → x ≤ y) (hlo : lo ≤ l.length) :
    putF x l = if l[lo]? = some x then l else l.take lo ++ x :: l.drop lo := by
  induction l generalizing lo with
  | nil => simp at hlo; subst hlo; simp [putF]
  | cons y r ih =>
    cases lo with
    | zero =>
      have hx := h2 0 y rfl (Nat.le_refl _)
      unfold putF
      rw [if_neg (by omega)]
      by_cases he : y = x
      · subst he; simp
      · rw [if_neg he]; simp [he]
    | succ lo =>
      have hy := h1 0 y rfl (by omega)
      unfold putF
      rw [if_pos hy, ih (lo := lo) (fun j z hz hj => h1 (j + 1) z (by simpa using hz) (by omega)) (fun j z hz hj => h2 (j + 1) z (by simpa using hz) (by omega)) (by simpa using hlo)]
      simp only [List.getElem?_cons_succ, List.take_succ_cons, List.drop_succ_cons, List.cons_append]
      split <;> rfl
theorem rising_lt {l : List Int} (h : Rising l) {i j : Nat} {a b : Int} (hi : l[i]? = some a) (hj : l[j]? = some b) (hij : i < j) : a < b := by
  obtain ⟨h1, rfl⟩ := List.getElem?_eq_some_iff.1 hi
  obtain ⟨h2, rfl⟩ := List.getElem?_eq_some_iff.1 hj
  exact (List.pairwise_iff_getElem.1 h) i j h1 h2 hij
end Go.Um
namespace Go.Proofs.Ytflllgbjlfpgcaa
open Go.RowKit Go.Um
set_option maxHeartbeats 1000000 in
set_option maxRecDepth 100000 in
theorem Rput_calls (zs : List Int) (x : Int) (v : Value) (base : Nat) (w : World) (h : w.ownsInts base 3 .i64 v zs) (hr : Rising zs) (hx : I64 x) (hl : zs.length ≤ 10000000) (hbase : base ≤ w.heap.size) :
    Calls Try.prog 41 #[v, .int .i64 x] w fun e w' => ∃ u, e = .returned u ∧ w'.ownsInts base 3 .i64 u (putF x zs) ∧ Below base w w' := by
  have hz := intsR h
  obtain ⟨A, c, rfl, hc, hm⟩ := list_form hz
  unfold maxLen at hm
  have HO := hid h
  clear h
  go_enter Try.func41, Try.ntmps41
  go_wp2_with fail
  go_loop [5, 6] (fun vl vh => ∃ lo hi : Nat, lo ≤ hi ∧ hi ≤ zs.length ∧ vl = .int .i64 lo ∧ vh = .int .i64 hi ∧ (∀ (j : Nat) (y : Int), zs[j]? = some y → j < lo → y < x) ∧ (∀ (j : Nat) (y : Int), zs[j]? = some y → hi ≤ j → x ≤ y)) (fun vl vh => (intOf vh).toNat - (intOf vl).toNat)
  case atStart => exact ⟨0, zs.length, Nat.zero_le _, Nat.le_refl _, rfl, rfl, fun _ _ _ h => absurd h (by omega), fun j y hy h => by have := (List.getElem?_eq_some_iff.1 hy).1; omega⟩
  case round =>
    obtain ⟨lo, hi, h1, h2, rfl, rfl, h3, h4⟩ := hrel
    have H3 := hid h3; clear h3
    have H4 := hid h4; clear h4
    by_cases hlt : lo < hi
    · obtain ⟨m, hm'⟩ : ∃ m : Nat, m = (lo + hi) / 2 := ⟨_, rfl⟩
      obtain ⟨y, hy⟩ := at_lt (xs := zs) (i := m) (by omega)
      obtain ⟨b1, o1, y1, rfl, hb1, ⟨hy1, hy2⟩, hcz⟩ := list_at1 rfl hz hy
      simp only [List.cons.injEq, and_true] at hy1
      subst hy1
      have hd : ((lo : Int) + (hi : Int)).tdiv 2 = (m : Int) := by rw [hm', Int.tdiv_eq_ediv_of_nonneg (by omega)]; omega
      have hlt' : (lo : Int) < hi := by omega
      have hmz : (m : Int) < zs.length := by omega
      have HY := hid hy
      have hm1 : lo ≤ m := by omega
      have hm2 : m < hi := by omega
      have HM := hid hm'
      clear hm' hy hlt
      by_cases hc1 : y < x
      · go_wp2_with fail
        refine ⟨⟨m + 1, hi, by omega, h2, by go_num, rfl, fun j z hz hj => ?_, H4.out⟩, ?_⟩
        · rcases Nat.lt_or_ge j m with q | q
          · have := rising_lt hr hz HY.out q; omega
          · obtain rfl : j = m := by omega
            rw [HY.out] at hz; cases hz; exact hc1
        · simp [intOf]; omega
      · go_wp2_with fail
        refine ⟨⟨lo, m, by omega, by omega, rfl, rfl, H3.out, fun j z hz hj => ?_⟩, ?_⟩
        · rcases Nat.lt_or_ge m j with q | q
          · have := rising_lt hr HY.out hz q; omega
          · obtain rfl : j = m := by omega
            rw [HY.out] at hz; cases hz; omega
        · simp [intOf]; omega
    · obtain rfl : lo = hi := by omega
      have hpf := putF_eq (fun j y a b => H3.out j y a b) (fun j y a b => H4.out j y a b) h2
      have HPF := hid hpf
      clear hpf H3 H4
      by_cases hln : lo < zs.length
      · obtain ⟨y, hy⟩ := at_lt hln
        obtain ⟨b1, o1, y1, rfl, hb1, ⟨hy1, hy2⟩, hcz⟩ := list_at1 rfl hz hy
        simp only [List.cons.injEq, and_true] at hy1
        subst hy1
        have hln' : (lo : Int) < zs.length := by omega
        have HY := hid hy
        clear hy hln
        by_cases hyx : y = x
        · subst hyx
          have hF : Hid (zs = putF y zs) := hid (by rw [HPF.out, if_pos HY.out])
          clear HPF
          go_wp2_with fail
          go_ret
          exact ⟨_, rfl, by rw [← hF.out]; exact HO.out, Below.refl _ _⟩
        · have e1 : (y == x) = false := by simpa using hyx
          have hF : Hid (zs.take lo ++ x :: zs.drop lo = putF x zs) := hid (by rw [HPF.out, if_neg (by rw [HY.out]; simpa using hyx)])
          have HYX := hid hyx
          clear HPF hyx
          go_wp2_with (at_builtin; refine Hid.out ?_)
          refine hid ?_
          obtain ⟨inf, hi0, hz0, hz1, hz2⟩ := info_parts info3
          refine wpList_append_own _ rfl _ _ 51 rfl base 3 inf (.int .i64 0) 1 8 Try.underlying51 hi0 hz0 hz1 hz2 rfl (by decide) _ _ _ rfl (HO.out.1.alloc _) ⟨w.heap.size, 0, none⟩ 1 1 [.int .i64 0] rfl rfl
            (news_at (w := w) (cs := #[_]) rfl) (ints_oneCell .i64 [0]) (by unfold maxLen; omega) (by omega) (by simp; omega) ?_
          intro v' w3 hown hg hn
          have hB3 : Below base w w3 := ((Below.refl base w).alloc hbase _).trans (below_grown (HO.out.1.alloc _) hg (Nat.le_refl _) (by simp; omega))
          obtain ⟨g, cap, rfl⟩ := own_form hown (by omega)
          have hrow : w3.ownsInts base 3 .i64 (.slice (some ⟨g, 0, none⟩) (zs.length + 1) cap) (zs ++ [0]) := World.ownsInts.appended (HO.out.alloc (.cells #[.int .i64 0] 3)) hown (by decide)
          have hg0 := (hown.lt g rfl).1
          clear hown hg hn
          go_wp2_with fail
          go_loopw [8] (fun vi wr => ∃ (i : Nat) (row : List Int), lo ≤ i ∧ i ≤ zs.length ∧ vi = .int .i64 i ∧ row.length = zs.length + 1 ∧ row.take i = zs.take i ∧ row.drop (i + 1) = zs.drop i ∧ wr.ownsInts base 3 .i64 (.slice (some ⟨g, 0, none⟩) (zs.length + 1) cap) row ∧ Below base w wr) (fun vi _ => (intOf vi).toNat)
          case atStart => exact ⟨zs.length, zs ++ [0], h2, Nat.le_refl _, by go_num, by simp, by simp, by simp, hrow, hB3⟩
          case round =>
            obtain ⟨i, row, q1, q2, rfl, q3, q4, q5, q6, q7⟩ := hrel
            have HQ4 := hid q4
            have HQ5 := hid q5
            clear q4 q5
            have hzr := intsR q6
            by_cases hgt : lo < i
            · obtain ⟨y, hy⟩ := at_lt (xs := row) (i := i - 1) (by omega)
              have hyz : zs[i - 1]? = some y := by
                have e := congrArg (·[i - 1]?) HQ4.out
                simp only [List.getElem?_take] at e
                rw [if_pos (by omega), if_pos (by omega), hy] at e
                exact e.symm
              obtain ⟨b2, o2, y2, hA2, _, ⟨hv1, hv2⟩, hcz2⟩ := list_at1 rfl hzr hy
              simp only [Option.some.injEq, Addr.mk.injEq, and_true] at hA2
              obtain ⟨rfl, rfl⟩ := hA2
              simp only [List.cons.injEq, and_true] at hv1
              subst hv1
              obtain ⟨yi, hyi⟩ := at_lt (xs := row) (i := i) (by omega)
              obtain ⟨b3, o3, y3, hA3, _, ⟨hv3, _⟩, hcz3⟩ := list_at1 rfl hzr hyi
              simp only [Option.some.injEq, Addr.mk.injEq, and_true] at hA3
              obtain ⟨rfl, rfl⟩ := hA3
              simp only [Nat.zero_add] at hcz3
              clear hyi hv3
              obtain ⟨i', hi'⟩ : ∃ i', i' = i - 1 := ⟨_, rfl⟩
              rw [← hi'] at hy hyz hcz2
              simp only [Nat.zero_add] at hcz2
              have hsub : (i : Int) - 1 = (i' : Int) := by omega
              have q8 := q6.1
              rw [q3] at q8
              have hst := World.ownsRow.stored q8 i (.int .i64 y)
              have hfr := World.ownsRow.frozenAt q8 i
              have hgt' : (lo : Int) < (i : Int) := by omega
              have hin : (i : Int) < (zs.length : Int) + 1 := by omega
              have hin2 : (i' : Int) < (zs.length : Int) + 1 := by omega
              have HI := hid hi'
              have HYZ := hid hyz
              have HQ6 := hid q6
              have HQ3 := hid q3
              clear hi' hy hyz q6 q8 hzr q3 hrow hB3
              have HST := hid hst
              clear hst
              go_wp2_with fail
              have hi1 : i = i' + 1 := by have := HI.out; omega
              refine ⟨⟨i', row.set i y, by omega, by omega, by go_num, by rw [List.length_set]; exact HQ3.out, ?_, ?_, ⟨?_, ?_⟩, ?_⟩, ?_⟩
              · have e := congrArg (List.take i') HQ4.out
                rw [List.take_take, List.take_take, Nat.min_eq_left (by omega)] at e
                rw [List.take_set_of_le (by omega), e]
              · rw [← hi1, drop_cons (x := y) (List.getElem?_set_self (by rw [HQ3.out]; omega)), List.drop_set_of_lt (by omega), HQ5.out, drop_cons HYZ.out, ← hi1]
              · have e := HST.out.1
                rw [List.length_set, HQ3.out, List.map_set]
                exact e
              · intro z hz
                rcases List.mem_or_eq_of_mem_set hz with hz | rfl
                · exact HQ6.out.2 z hz
                · exact WalkArith.wf_i64 hv2
              · exact q7.setCell hg0 _
              · simp [intOf]; omega
            · obtain rfl : i = lo := by omega
              have q8 := q6.1
              rw [q3] at q8
              have hst := World.ownsRow.stored q8 i (.int .i64 x)
              have hfr := World.ownsRow.frozenAt q8 i
              obtain ⟨yi, hyi⟩ := at_lt (xs := row) (i := i) (by omega)
              obtain ⟨b3, o3, y3, hA3, _, ⟨hv3, _⟩, hcz3⟩ := list_at1 rfl hzr hyi
              simp only [Option.some.injEq, Addr.mk.injEq, and_true] at hA3
              obtain ⟨rfl, rfl⟩ := hA3
              simp only [Nat.zero_add] at hcz3
              have hin : (i : Int) < (zs.length : Int) + 1 := by omega
              have HST := hid hst
              have HQ3 := hid q3
              have HQ6 := hid q6
              have hfin : Hid (row.set i x = putF x zs) := hid (by
                rw [← hF.out, ← HQ4.out, ← HQ5.out]
                rw [List.set_eq_take_append_cons_drop, if_pos (by omega)])
              clear hyi hv3 q6 q8 hzr q3 hrow hB3 hst
              go_wp2_with fail
              go_ret
              refine ⟨_, rfl, ?_, q7.setCell hg0 _⟩
              rw [← hfin.out]
              refine ⟨?_, fun z hz => ?_⟩
              · have e := HST.out.1
                rw [List.length_set, HQ3.out, List.map_set]
                exact e
              · rcases List.mem_or_eq_of_mem_set hz with hz | rfl
                · exact HQ6.out.2 z hz
                · exact WalkArith.wf_i64 hx
      · have hln' : ¬ (lo : Int) < zs.length := by omega
        have hF : Hid (zs.take lo ++ x :: zs.drop lo = putF x zs) := hid (by rw [HPF.out, if_neg (by rw [List.getElem?_eq_none (by omega)]; simp)])
        clear HPF
        go_wp2_with (at_builtin; refine Hid.out ?_)
        refine hid ?_
        obtain ⟨inf, hi0, hz0, hz1, hz2⟩ := info_parts info3
        refine wpList_append_own _ rfl _ _ 51 rfl base 3 inf (.int .i64 0) 1 8 Try.underlying51 hi0 hz0 hz1 hz2 rfl (by decide) _ _ _ rfl (HO.out.1.alloc _) ⟨w.heap.size, 0, none⟩ 1 1 [.int .i64 0] rfl rfl
          (news_at (w := w) (cs := #[_]) rfl) (ints_oneCell .i64 [0]) (by unfold maxLen; omega) (by omega) (by simp; omega) ?_
        intro v' w3 hown hg hn
        have hB3 : Below base w w3 := ((Below.refl base w).alloc hbase _).trans (below_grown (HO.out.1.alloc _) hg (Nat.le_refl _) (by simp; omega))
        obtain ⟨g, cap, rfl⟩ := own_form hown (by omega)
        have hrow : w3.ownsInts base 3 .i64 (.slice (some ⟨g, 0, none⟩) (zs.length + 1) cap) (zs ++ [0]) := World.ownsInts.appended (HO.out.alloc (.cells #[.int .i64 0] 3)) hown (by decide)
        have hg0 := (hown.lt g rfl).1
        clear hown hg hn
        go_wp2_with fail
        go_loopw [8] (fun vi wr => ∃ (i : Nat) (row : List Int), lo ≤ i ∧ i ≤ zs.length ∧ vi = .int .i64 i ∧ row.length = zs.length + 1 ∧ row.take i = zs.take i ∧ row.drop (i + 1) = zs.drop i ∧ wr.ownsInts base 3 .i64 (.slice (some ⟨g, 0, none⟩) (zs.length + 1) cap) row ∧ Below base w wr) (fun vi _ => (intOf vi).toNat)
        case atStart => exact ⟨zs.length, zs ++ [0], h2, Nat.le_refl _, by go_num, by simp, by simp, by simp, hrow, hB3⟩
        case round =>
          obtain ⟨i, row, q1, q2, rfl, q3, q4, q5, q6, q7⟩ := hrel
          have HQ4 := hid q4
          have HQ5 := hid q5
          clear q4 q5
          have hzr := intsR q6
          by_cases hgt : lo < i
          · exact absurd hgt (by omega)
          · obtain rfl : i = lo := by omega
            have q8 := q6.1
            rw [q3] at q8
            have hst := World.ownsRow.stored q8 i (.int .i64 x)
            have hfr := World.ownsRow.frozenAt q8 i
            obtain ⟨yi, hyi⟩ := at_lt (xs := row) (i := i) (by omega)
            obtain ⟨b3, o3, y3, hA3, _, ⟨hv3, _⟩, hcz3⟩ := list_at1 rfl hzr hyi
            simp only [Option.some.injEq, Addr.mk.injEq, and_true] at hA3
            obtain ⟨rfl, rfl⟩ := hA3
            simp only [Nat.zero_add] at hcz3
            have hin : (i : Int) < (zs.length : Int) + 1 := by omega
            have HST := hid hst
            have HQ3 := hid q3
            have HQ6 := hid q6
            have hfin : Hid (row.set i x = putF x zs) := hid (by
              rw [← hF.out, ← HQ4.out, ← HQ5.out]
              rw [List.set_eq_take_append_cons_drop, if_pos (by omega)])
            clear hyi hv3 q6 q8 hzr q3 hrow hB3 hst
            go_wp2_with fail
            go_ret
            refine ⟨_, rfl, ?_, q7.setCell hg0 _⟩
            rw [← hfin.out]
            refine ⟨?_, fun z hz => ?_⟩
            · have e := HST.out.1
              rw [List.length_set, HQ3.out, List.map_set]
              exact e
            · rcases List.mem_or_eq_of_mem_set hz with hz | rfl
              · exact HQ6.out.2 z hz
              · exact WalkArith.wf_i64 hx
end Go.Proofs.Ytflllgbjlfpgcaa
