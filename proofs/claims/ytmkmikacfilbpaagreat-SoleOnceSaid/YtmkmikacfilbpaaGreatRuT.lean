/-
  What is told of each place: the closure of run.Outputs.
-/
import Derived.Test.YtmkmikacfilbpaaGreatRuO
namespace Go.Proofs.YtmkmikacfilbpaaGreat
open Go.Proofs Go.Um Go.RowKit
theorem finOut_len (d : Desc) (x : List Int) (a : Nat) (z : Int) : (finOut d x a z).length ≤ 1 := by
  unfold finOut
  split
  · split <;> simp
  · simp
theorem ruleOut_len {d : Desc} {x : List Int} {n a most : Nat} {W : Nat → List (List Int)} {z : Int} (h : ∀ r, d.rules[z.toNat]? = some r → fitsB x r.guards a = true → (W ((a + r.eat.toNat) * n + r.dst.toNat)).length ≤ most) : (ruleOut d x n a W z).length ≤ most := by
  unfold ruleOut
  split
  · rename_i r hr
    split
    · rename_i hf
      rw [List.length_map]
      exact h r hr hf
    · simp
  · simp
/-- the boxes that the closure captures. -/
structure OutE (w1 : World) (d : Desc) (n most D0 KB PR SX MB SB H2 : Nat) (vr vf : Value) : Prop where
  d0 : w1.heap[D0]? = some (.cells #[.int .i64 d.inn, .int .i64 d.out, .int .i64 n, .int .i64 d.start, vr, vf] 26)
  kb : w1.heap[KB]? = some (.cells #[.int .i64 most] 3)
  vr_ : (listR ruleR).rel w1 (upto w1.heap.size) [vr] d.rules
  vf_ : (listR finalR).rel w1 (upto w1.heap.size) [vf] d.finals
  pr : w1.heap.size ≤ PR ∧ PR < H2
  sx : w1.heap.size ≤ SX ∧ SX < H2
  mb : w1.heap.size ≤ MB ∧ MB < H2
  sb : w1.heap.size ≤ SB ∧ SB < H2
  ne : MB ≠ PR ∧ MB ≠ SX ∧ MB ≠ SB ∧ SB ≠ PR ∧ SB ≠ SX
def OutI (w1 : World) (RB _ : Nat) (d : Desc) (x : List Int) (n : Nat) (ord : List Int) (most PR SX MB SB H2 : Nat) (a q : Nat) (w : World) : Prop :=
  Below w1.heap.size w1 w ∧ H2 ≤ w.heap.size ∧ w.heap[PR]? = some (.cells #[.pointer (some ⟨RB, 0, none⟩)] 69) ∧ w.heap[SX]? = some (.cells #[.slice (some ⟨SB, 0, none⟩) ((x.length + 1) * n) ((x.length + 1) * n)] 71) ∧
    ∃ (f : Nat → Value) (W : Nat → List (List Int)) (many : Bool), w.heap[MB]? = some (.cells #[.bool many] 4) ∧ w.rowIs SB 33 ((x.length + 1) * n) f ∧ (many = true → TooMany d x most) ∧
      (many = false → ∀ a' s' : Nat, s' < n → a' ≤ x.length → DoneP ord a q a' s' → liveF d x n ord (x.length + 1) (a' * n + s') = true →
        (listR nwordR).rel w (fun b => H2 ≤ b ∧ b < w.heap.size) [f (a' * n + s')] (W (a' * n + s')) ∧ WordsOf d x a' s' most (W (a' * n + s')))
set_option maxHeartbeats 4000000 in
set_option maxRecDepth 100000 in
theorem tell_calls (w1 : World) (RB LV : Nat) (d : Desc) (x : List Int) (n : Nat) (ord : List Int) (most D0 KB PR SX MB SB H2 : Nat) (vr0 vf0 : Value) (hR : RunIs w1 RB LV d x n ord) (hE : OutE w1 d n most D0 KB PR SX MB SB H2 vr0 vf0) (hok : RuleOk d n) (hn1 : n ≤ 1024) (hl1 : d.rules.length ≤ 4096) (hl2 : d.finals.length ≤ 4096)
    (hxl : x.length ≤ 1024) (hxs : ∀ z ∈ x, 0 ≤ z ∧ z ≤ 1114111) (hmost : 1 ≤ most ∧ most ≤ 100000) (ho : Ord d ord) (hm : ∀ t ∈ ord, ∃ k : Nat, t = k ∧ k < n) (hall : ∀ s : Nat, s < n → (s : Int) ∈ ord) (hrl : ∀ (a : Nat) (s : Int) (y : List Int), a ≤ x.length → Run d x a s y → y.length ≤ 100000000)
    (a q s : Nat) (w : World) (hI : OutI w1 RB LV d x n ord most PR SX MB SB H2 a q w) (ha : a ≤ x.length) (hq : ord[q]? = some (s : Int)) (hsn : s < n) (hlive : liveF d x n ord (x.length + 1) (a * n + s) = true) :
    Calls Tryz.prog 50 #[.int .i64 a, .int .i64 s, .pointer (some ⟨MB, 0, none⟩), .pointer (some ⟨PR, 0, none⟩), .pointer (some ⟨D0, 0, none⟩), .pointer (some ⟨SX, 0, none⟩), .pointer (some ⟨KB, 0, none⟩)] w
      fun e w' => e = .returned (.tuple #[]) ∧ OutI w1 RB LV d x n ord most PR SX MB SB H2 a (q + 1) w' := by
  obtain ⟨inf, hi0, hz0, hz1, hz2⟩ := info_parts infoW
  have hI' := hI
  obtain ⟨hB1, hH, hPR, hSX, f, W, many, hMB, hSB, hT, hF⟩ := hI'
  have cMB := cell_of_row _ _ 0 _ _ _ hMB
  cases many with
  | true =>
    have HP : Hid (OutI w1 RB LV d x n ord most PR SX MB SB H2 a (q + 1) w) := hid ⟨hB1, hH, hPR, hSX, f, W, true, hMB, hSB, hT, fun h => (by cases h)⟩
    clear hI hB1 hPR hSX hMB hSB hT hF hR hE hok ho hm hall hrl
    go_enter Tryz.func50, Tryz.ntmps50
    go_wp2_with fail
    refine bodyPost_ret (results_none rfl _ _ _) rfl ?_
    exact ⟨rfl, HP.out⟩
  | false =>
    obtain ⟨vr, vf, vx, R, F, vo, h1, h2, h3, h4, h5, h6, h7, h8⟩ := hR
    have hs1 := hB1.size
    have K1 : ∀ g, g < w1.heap.size → w.heap[g]? = w1.heap[g]? := fun g hg => hB1.block g hg
    obtain ⟨Af, cf, rfl, _, hmf⟩ := list_form hE.vf_
    obtain ⟨Ar, cr, rfl, _, hmr⟩ := list_form hE.vr_
    obtain ⟨Ax, cx, rfl, _, hmx⟩ := list_form h4
    unfold maxLen at hmf hmr hmx
    obtain ⟨vx, hvx⟩ : ∃ vx, vx = Value.slice Ax x.length cx := ⟨_, rfl⟩
    rw [← hvx] at h1 h4
    have hRw : RB < w.heap.size := by have := heapLtW h1; omega
    have hD0w : D0 < w.heap.size := by have := heapLtW hE.d0; omega
    have hD01 : D0 < w1.heap.size := heapLtW hE.d0
    have hKBw : KB < w.heap.size := by have := heapLtW hE.kb; omega
    obtain ⟨⟨hp1, hp2⟩, ⟨hx1, hx2⟩, ⟨hm1, hm2⟩, ⟨hb1, hb2⟩, ne1, ne2, ne3, ne4, ne5⟩ := And.intro hE.pr (And.intro hE.sx (And.intro hE.mb (And.intro hE.sb hE.ne)))
    have hPRw : PR < w.heap.size := by omega
    have hSXw : SX < w.heap.size := by omega
    have hSBw : SB < w.heap.size := by omega
    obtain ⟨M, hM⟩ : ∃ M, M = (x.length + 1) * n := ⟨_, rfl⟩
    have hMl : M ≤ 2000000 := by rw [hM]; exact Nat.le_trans (Nat.mul_le_mul (show x.length + 1 ≤ 1025 by omega) hn1) (by decide)
    have HM := hid hM
    rw [← hM] at hSB hSX
    clear hM
    have HRB := hid ((K1 RB (heapLtW h1)).trans h1)
    have HD0 := hid ((K1 D0 (heapLtW hE.d0)).trans hE.d0)
    have HKB0 := hid ((K1 KB (heapLtW hE.kb)).trans hE.kb)
    have HPR := hid hPR
    have HSX := hid hSX
    have HMB := hid hMB
    have HSB := hid hSB
    have up : ∀ {α : Type} (r : RepOf α) (cs : List Value) (y : α), r.rel w1 (upto w1.heap.size) cs y → r.rel w (upto w.heap.size) cs y := fun r cs y h => r.below h hB1 hs1
    have HX := hid (up _ _ _ h4)
    have HVF := hid (up _ _ _ hE.vf_)
    have HVR := hid (up _ _ _ hE.vr_)
    obtain ⟨bF, oF, y, hA, hbF, hy, hcF⟩ := list_at1 (i := s) rfl (up _ _ _ h6) (by rw [List.getElem?_map, List.getElem?_range hsn]; rfl)
    injection hA with hA
    injection hA with hA1 hA2
    subst hA1 hA2
    rw [Nat.zero_add] at hcF
    obtain ⟨A7, c7, rfl, _, hm7⟩ := list_form hy
    unfold maxLen at hm7
    obtain ⟨bR, oR, y, hA, hbR, hy', hcR⟩ := list_at1 (i := s) rfl (up _ _ _ h5) (by rw [List.getElem?_map, List.getElem?_range hsn]; rfl)
    injection hA with hA
    injection hA with hA1 hA2
    subst hA1 hA2
    rw [Nat.zero_add] at hcR
    obtain ⟨A8', c8', rfl, _, hm8⟩ := list_form hy'
    unfold maxLen at hm8
    have hfl : (finalsOf d s).length ≤ 4096 := Nat.le_trans (idxF_len _ _ _) hl2
    have hrll : (rulesOf d s).length ≤ 4096 := Nat.le_trans (idxF_len _ _ _) hl1
    have HYF := hid hy
    have HYR := hid hy'
    have HCR := hid hcR
    have HOK := hid hok
    have HXS := hid hxs
    have HF := hid (hF rfl)
    have HI := hid hI
    have HO := hid (And.intro ho (And.intro hm hall))
    have HRL := hid hrl
    have HQ := hid hq
    have HLV := hid hlive
    have cPR := cell_of_row _ _ 0 _ _ _ hPR
    have cR8 : w.cell? ⟨RB, 8, none⟩ = some (.slice (some ⟨F, 0, none⟩) n n) := cell_of_row _ _ 8 _ _ _ HRB.out
    have hsn' : (s : Int) < n := by omega
    clear hI hF hE hok hxs ho hm hall hrl hq hlive hy hy' hcR up h1 h2 h3 h4 h5 h6 h7 h8 K1 hB1 hPR hSX hMB hSB hvx
    go_enter Tryz.func50, Tryz.ntmps50
    go_wp2_with fail
    clear cMB cPR cR8 hcF
    go_loopw [9, 28] (fun vl vi wr => ∃ i : Nat, i ≤ (finalsOf d s).length ∧ vi = .int .i64 i ∧ FL 27 nwordR wr w.heap.size w.heap.size vl (((finalsOf d s).take i).flatMap (finOut d x a)) ∧ Below w.heap.size w wr) (fun _ vi _ => (finalsOf d s).length - (intOf vi).toNat)
    case atStart => exact ⟨0, Nat.zero_le _, rfl, FL.nil, Below.refl _ _⟩
    case round =>
      obtain ⟨i, hi, rfl, hFL, hB⟩ := hrel
      obtain ⟨wo, hwo⟩ : ∃ wo, wo = wr := ⟨_, rfl⟩
      subst hwo
      have hs := hB.size
      obtain ⟨L, hL⟩ : ∃ L, L = ((finalsOf d s).take i).flatMap (finOut d x a) := ⟨_, rfl⟩
      rw [← hL] at hFL
      have hLl : L.length ≤ 4096 := by
        rw [hL]
        refine Nat.le_trans (flat_le (m := 1) fun z _ => finOut_len d x a z) ?_
        rw [List.length_take]
        omega
      have KO : ∀ g, g < w.heap.size → wo.heap[g]? = w.heap[g]? := fun g hg => hB.block g hg
      obtain ⟨Al, cl, rfl⟩ := hFL.len
      by_cases hil : i < (finalsOf d s).length
      · have hil' : (i : Int) < (finalsOf d s).length := by omega
        obtain ⟨z, hz⟩ := at_lt hil
        obtain ⟨q', ⟨fs, fg, fo⟩, rfl, hq, hsrc⟩ := finalsOf_mem.1 (List.mem_of_getElem? hz)
        dsimp only at hsrc
        subst hsrc
        obtain ⟨b1, o1, y1, rfl, hb1, ⟨hy1, _⟩, hcy⟩ := list_at1 rfl ((listR intR).mono (w' := wo) (S' := upto w.heap.size) (fun p hp => World.cell?_of_block (KO _ hp)) (fun _ h => h) HYF.out) hz
        injection hy1 with hy1 _
        subst hy1
        obtain ⟨b2, o2, v2, u2, rfl, hb2, q1, q2, q3, q6, q7, q8⟩ := final_at ((listR finalR).mono (w' := wo) (S' := upto w.heap.size) (fun p hp => World.cell?_of_block (KO _ hp)) (fun _ h => h) HVF.out) hq
        dsimp only at q1 q7 q8
        obtain ⟨A5, c5, rfl, _, _⟩ := list_form q7
        obtain ⟨A6, c6, rfl, _, _⟩ := list_form q8
        have hql : (q' : Int) < d.finals.length := by have := (List.getElem?_eq_some_iff.1 hq).1; omega
        obtain ⟨_, hfo, hfg, hfw⟩ := HOK.out.final _ (List.mem_of_getElem? hq)
        dsimp only at hfo hfg hfw
        obtain ⟨wb, hwb⟩ : ∃ wb, wb = wo.alloc (.cells #[.int .i64 s, .slice A5 fg.length c5, .slice A6 fo.length c6] 59) := ⟨_, rfl⟩
        have hBb : Below wo.heap.size wo wb := by rw [hwb]; exact (Below.refl _ wo).alloc (Nat.le_refl _) _
        have hbx : wb.heap[wo.heap.size]? = some (.cells #[.int .i64 s, .slice A5 fg.length c5, .slice A6 fo.length c6] 59) := by rw [hwb]; exact heap_alloc_new _ _
        have hsb : wo.heap.size + 1 ≤ wb.heap.size := by rw [hwb]; simp
        have KB' : ∀ g, g < w.heap.size → wb.heap[g]? = w.heap[g]? := fun g hg => (hBb.block g (by omega)).trans (KO g hg)
        have hgr : (listR spansR).rel wb (upto wb.heap.size) [.slice A5 fg.length c5] fg := (listR spansR).mono (fun p hp => hBb.cell (by have : p.block < w.heap.size := hp; omega)) (fun b hb => by have : b < w.heap.size := hb; show b < _; omega) q7
        have hor : (listR termR).rel wb (upto wb.heap.size) [.slice A6 fo.length c6] fo := (listR termR).mono (fun p hp => hBb.cell (by have : p.block < w.heap.size := hp; omega)) (fun b hb => by have : b < w.heap.size := hb; show b < _; omega) q8
        have hxr : wordR.rel wb (upto wb.heap.size) [vx] x := wordR.mono (fun p hp => World.cell?_of_block (KB' _ hp)) (fun b hb => by have : b < w.heap.size := hb; show b < _; omega) HX.out
        have hvx : wb.cell? ⟨RB, 6, none⟩ = some vx := cell_of_row _ _ 6 _ _ _ ((KB' RB hRw).trans HRB.out)
        have HEN := hid (ends_calls RB vx (.slice A5 fg.length c5) (.slice A6 fo.length c6) s x fg a wb hvx hxr hgr ha)
        have HWR := hid fun W5 (hW : Below wb.heap.size wb W5) (hf : fitsX x fg a) => rwrites_calls RB vx (.slice A6 fo.length c6) x fo a fg.length W5 ((hW.cell (p := ⟨RB, 6, none⟩) (by show RB < _; omega)).trans hvx) (wordR.below hxr hW hW.size) ((listR termR).below hor hW hW.size) (by have := hf.1; omega) HXS.out (terms_ok hfw hfg hf ha) (by omega)
        have hfin : finOut d x a (q' : Int) = if endsB x fg a then [writesV fo (winF x a fg.length)] else [] := by
          unfold finOut
          rw [Int.toNat_natCast, hq]
        have HSN : Hid (((finalsOf d s).take (i + 1)).flatMap (finOut d x a) = L ++ if endsB x fg a then [writesV fo (winF x a fg.length)] else []) := hid (by rw [flat_take hz, hfin, ← hL])
        have e1 : wo.cell? ⟨D0, 5, none⟩ = some (.slice (some ⟨b2, o2, none⟩) d.finals.length cf) := cell_of_row _ _ 5 _ _ _ ((KO D0 hD0w).trans HD0.out)
        have x1 : wb.cell? ⟨PR, 0, none⟩ = some (.pointer (some ⟨RB, 0, none⟩)) := cell_of_row _ _ 0 _ _ _ ((KB' PR hPRw).trans HPR.out)
        have x2 : wb.cell? ⟨wo.heap.size, 0, none⟩ = some (.int .i64 s) := cell_of_row _ _ 0 _ _ _ hbx
        have x3 : wb.cell? ⟨wo.heap.size, 1, none⟩ = some (.slice A5 fg.length c5) := cell_of_row _ _ 1 _ _ _ hbx
        have x4 : wb.cell? ⟨wo.heap.size, 2, none⟩ = some (.slice A6 fo.length c6) := cell_of_row _ _ 2 _ _ _ hbx
        have HFL := hid hFL
        have HB := hid hB
        have HBb := hid hBb
        have HBX := hid hbx
        have HWB := hid hwb
        have HKB := hid KB'
        have hend : endsB x fg a = true → fitsX x fg a := fun h => ((endsB_iff ha).1 h).2
        obtain ⟨te, hte⟩ : ∃ te, te = endsB x fg a := ⟨_, rfl⟩
        rw [← hte] at HEN HSN hend
        have HFO := hid (show fo.length ≤ 64 from hfo)
        rw [hwb] at x1 x2 x3 x4
        clear hz hq q6 q7 q8 hfg hfw hfo hgr hor hxr hvx hfin hte hFL hB hBb hbx KB' KO hwb hil hL
        go_wp2_with fail
        rw [← HWB.out]
        refine HEN.out.mono ?_
        rintro e w5 ⟨rfl, hB5⟩
        have hs5 := hB5.size
        have HB5 := hid hB5
        cases te with
        | true =>
          have hfx := hend rfl
          have HW6 := hid (HWR.out w5 hB5 hfx)
          have y1 : w5.cell? ⟨PR, 0, none⟩ = some (.pointer (some ⟨RB, 0, none⟩)) := cell_of_row _ _ 0 _ _ _ ((hB5.block PR (by omega)).trans ((HKB.out PR hPRw).trans HPR.out))
          have y3 : w5.cell? ⟨wo.heap.size, 1, none⟩ = some (.slice A5 fg.length c5) := cell_of_row _ _ 1 _ _ _ ((hB5.block wo.heap.size (by omega)).trans HBX.out)
          have y4 : w5.cell? ⟨wo.heap.size, 2, none⟩ = some (.slice A6 fo.length c6) := cell_of_row _ _ 2 _ _ _ ((hB5.block wo.heap.size (by omega)).trans HBX.out)
          clear x1 x2 x3 x4 e1 hcy q1 q2 q3 hB5 HWR HEN
          go_wp2_with fail
          refine HW6.out.mono ?_
          rintro e w6 ⟨u6, rfl, hO6, hB6⟩
          have hs6 := hB6.size
          have hu6 := hO6.fresh (b := wo.heap.size) (by omega)
          obtain ⟨A9, c9, rfl, _, _⟩ := list_form hu6.1
          have hBw6 : Below wo.heap.size wo w6 := (HBb.out.trans (HB5.out.mono (by omega))).trans (hB6.mono (by omega))
          clear y1 y3 y4 hO6
          go_wp2_with (at_builtin; refine Hid.out ?_)
          refine hid ?_
          have hB2a : Below wo.heap.size wo (w6.alloc (.cells #[.slice A9 (writesV fo (winF x a fg.length)).length c9] 27)) := hBw6.alloc hBw6.size _
          have hel := rel_els (rel_fresh hu6 ((Below.refl _ w6).alloc (Nat.le_refl _) (.cells #[.slice A9 (writesV fo (winF x a fg.length)).length c9] 27))) HFL.out.own_lt hs
          show wpList _ _ _ _ _ _
          refine wpList_append_fl (r := nwordR) (v := .slice Al L.length cl) (xs := L) (by rfl) _ _ 33 (by rfl) inf _ 24 Tryz.underlying33 hi0 hz0 hz1 hz2 rfl (by decide) (by rfl) HFL.out hB2a (Nat.le_trans hs hB2a.size) ⟨w6.heap.size, 0, none⟩ 1 (writesV fo (winF x a fg.length)) [.slice A9 (writesV fo (winF x a fg.length)).length c9] (by rfl) hel
            (news_at (w := w6) (cs := #[_]) rfl) (by simp [Value.oneCell']) (by unfold maxLen; omega) (by omega) ?_
          intro v' w3 hFL3 hB3
          obtain ⟨A8, c8, rfl⟩ := hFL3.len
          have HFL3 := hid hFL3
          have HB3 := hid ((HB.out.trans (hB2a.mono hs)).trans hB3)
          rw [show (L ++ [writesV fo (winF x a fg.length)]).length = L.length + 1 by simp] at HFL3 ⊢
          clear hFL3 hB3 hu6 hBw6 hB6 hel hB2a
          go_wp2_with fail
          refine ⟨⟨i + 1, by omega, by go_num, (by rw [HSN.out]; simp only [if_true]; exact HFL3.out), HB3.out⟩, ?_⟩
          simp [intOf]; omega
        | false =>
          have HFL5 := hid (HFL.out.later (HBb.out.trans (hB5.mono (by omega))))
          have HBw5 := hid (HB.out.trans ((HBb.out.trans (hB5.mono (by omega))).mono hs))
          clear x1 x2 x3 x4 e1 hcy q1 q2 q3 hB5 HWR HEN
          go_wp2_with fail
          refine ⟨⟨i + 1, by omega, by go_num, (by rw [HSN.out]; simp only [Bool.false_eq_true, reduceIte, List.append_nil]; exact HFL5.out), HBw5.out⟩, ?_⟩
          simp [intOf]; omega
      · obtain rfl : i = (finalsOf d s).length := by omega
        have hil' : ¬ (((finalsOf d s).length : Int) < (finalsOf d s).length) := by omega
        rw [List.take_length] at hL
        have KO2 : ∀ g, g < w.heap.size → wo.heap[g]? = w.heap[g]? := KO
        have cPR := cell_of_row _ _ 0 _ _ _ ((KO2 PR hPRw).trans HPR.out)
        have cR7 : wo.cell? ⟨RB, 7, none⟩ = some (.slice (some ⟨R, 0, none⟩) n n) := cell_of_row _ _ 7 _ _ _ ((KO2 RB hRw).trans HRB.out)
        have cRs : wo.cell? ⟨R, s, none⟩ = some (.slice A8' (rulesOf d s).length c8') := (World.cell?_of_block (KO2 R (block_lt_of_cell HCR.out))).trans HCR.out
        have HL1 := hid hL
        have HFL1 := hid hFL
        have HB1 := hid hB
        clear hL hFL hB KO KO2 hil
        go_wp2_with fail
        clear cPR cR7 cRs
        generalize wo = wz at *
        go_loopw [9, 61] (fun vl vi wr => ∃ i : Nat, i ≤ (rulesOf d s).length ∧ vi = .int .i64 i ∧ FL 27 nwordR wr w.heap.size w.heap.size vl ((finalsOf d s).flatMap (finOut d x a) ++ ((rulesOf d s).take i).flatMap (ruleOut d x n a W)) ∧ Below w.heap.size w wr) (fun _ vi _ => (rulesOf d s).length - (intOf vi).toNat)
        case atStart => exact ⟨0, Nat.zero_le _, rfl, by rw [List.take_zero, List.flatMap_nil, List.append_nil, ← HL1.out]; exact HFL1.out, HB1.out⟩
        case round =>
          obtain ⟨i, hi, rfl, hFL, hB⟩ := hrel
          obtain ⟨wo, hwo⟩ : ∃ wo, wo = wr := ⟨_, rfl⟩
          subst hwo
          have hs := hB.size
          obtain ⟨L, hL⟩ : ∃ L, L = ((finalsOf d s).flatMap (finOut d x a) ++ ((rulesOf d s).take i).flatMap (ruleOut d x n a W)) := ⟨_, rfl⟩
          rw [← hL] at hFL
          have hsucc : ∀ (r : Rule), r ∈ d.rules → r.src = (s : Int) → fitsX x r.guards a → (listR nwordR).rel w (fun b => H2 ≤ b ∧ b < w.heap.size) [f ((a + r.eat.toNat) * n + r.dst.toNat)] (W ((a + r.eat.toNat) * n + r.dst.toNat)) ∧ WordsOf d x (a + r.eat.toNat) r.dst.toNat most (W ((a + r.eat.toNat) * n + r.dst.toNat)) := fun r hr hsr hfx => by
            obtain ⟨_, g2, g3, g4, g5, _⟩ := HOK.out.rule r hr
            have hfl2 := hfx.1
            refine HF.out (a + r.eat.toNat) r.dst.toNat (by omega) (by omega) ?_ ((live_iff HOK.out HO.out.1 HO.out.2.1 HO.out.2.2 (by omega)).2 ?_)
            · by_cases he : r.eat = 0
              · right
                rw [he]
                refine ⟨rfl, ?_⟩
                obtain ⟨j, hj1, hj2⟩ := HO.out.1.eps q s r.dst HQ.out ⟨r, hr, g5 he, hsr, rfl⟩
                rw [show ((r.dst.toNat : Nat) : Int) = r.dst by omega]
                exact List.mem_of_getElem? (i := j) (by rw [List.getElem?_take, if_pos hj1]; exact hj2)
              · exact .inl (by omega)
            · have := Reach.step r ((live_iff HOK.out HO.out.1 HO.out.2.1 HO.out.2.2 hsn).1 HLV.out) hr hsr hfx
              rwa [show ((r.dst.toNat : Nat) : Int) = r.dst by omega]
          have hrlen : ∀ (z : Int), z ∈ rulesOf d s → (ruleOut d x n a W z).length ≤ most := fun z hz => ruleOut_len fun r hr hf => by
            obtain ⟨q', r', rfl, hq', hsr⟩ := rulesOf_mem.1 hz
            rw [Int.toNat_natCast, hq'] at hr
            injection hr with hr
            subst hr
            exact (hsucc r' (List.mem_of_getElem? hq') hsr (fitsB_iff.1 hf)).2.2.2
          have hLl : L.length ≤ 4096 + 4096 * most := by
            rw [hL, List.length_append]
            have p1 := flat_le (m := 1) (f := finOut d x a) (l := finalsOf d s) fun z _ => finOut_len d x a z
            have p2 := flat_le (m := most) (f := ruleOut d x n a W) (l := (rulesOf d s).take i) fun z hz => hrlen z (List.mem_of_mem_take hz)
            have p3 : ((rulesOf d s).take i).length * most ≤ 4096 * most := Nat.mul_le_mul_right _ (by rw [List.length_take]; omega)
            omega
          have KO : ∀ g, g < w.heap.size → wo.heap[g]? = w.heap[g]? := fun g hg => hB.block g hg
          obtain ⟨Al, cl, rfl⟩ := hFL.len
          by_cases hil : i < (rulesOf d s).length
          · have hil' : (i : Int) < (rulesOf d s).length := by omega
            obtain ⟨z, hz⟩ := at_lt hil
            obtain ⟨q', ⟨rs, rd, rg, re, ro⟩, rfl, hq, hsrc⟩ := rulesOf_mem.1 (List.mem_of_getElem? hz)
            dsimp only at hsrc
            subst hsrc
            obtain ⟨b1, o1, y1, rfl, hb1, ⟨hy1, _⟩, hcy⟩ := list_at1 rfl ((listR intR).mono (w' := wo) (S' := upto w.heap.size) (fun p hp => World.cell?_of_block (KO _ hp)) (fun _ h => h) HYR.out) hz
            injection hy1 with hy1 _
            subst hy1
            obtain ⟨b2, o2, v2, u2, rfl, hb2, q1, q2, q3, q4, q5, q6, q7, q8⟩ := rule_at ((listR ruleR).mono (w' := wo) (S' := upto w.heap.size) (fun p hp => World.cell?_of_block (KO _ hp)) (fun _ h => h) HVR.out) hq
            dsimp only at q1 q2 q4 q7 q8
            obtain ⟨A5, c5, rfl, _, _⟩ := list_form q7
            obtain ⟨A6, c6, rfl, _, _⟩ := list_form q8
            have hql : (q' : Int) < d.rules.length := by have := (List.getElem?_eq_some_iff.1 hq).1; omega
            obtain ⟨_, hrd, hre0, hre, _, hfo, hfg, hfw⟩ := HOK.out.rule _ (List.mem_of_getElem? hq)
            have hsc := hsucc _ (List.mem_of_getElem? hq) rfl
            dsimp only at hrd hre0 hre hfo hfg hfw hsc
            obtain ⟨t, rfl⟩ : ∃ t : Nat, rd = t := ⟨rd.toNat, by omega⟩
            obtain ⟨ee, rfl⟩ : ∃ ee : Nat, re = ee := ⟨re.toNat, by omega⟩
            simp only [Int.toNat_natCast] at hsc
            have htn : t < n := by omega
            have heg : ee ≤ rg.length := by omega
            obtain ⟨wb, hwb⟩ : ∃ wb, wb = wo.alloc (.cells #[.int .i64 s, .int .i64 t, .slice A5 rg.length c5, .int .i64 ee, .slice A6 ro.length c6] 56) := ⟨_, rfl⟩
            have hBb : Below wo.heap.size wo wb := by rw [hwb]; exact (Below.refl _ wo).alloc (Nat.le_refl _) _
            have hbx : wb.heap[wo.heap.size]? = some (.cells #[.int .i64 s, .int .i64 t, .slice A5 rg.length c5, .int .i64 ee, .slice A6 ro.length c6] 56) := by rw [hwb]; exact heap_alloc_new _ _
            have hsb : wo.heap.size + 1 ≤ wb.heap.size := by rw [hwb]; simp
            have KB' : ∀ g, g < w.heap.size → wb.heap[g]? = w.heap[g]? := fun g hg => (hBb.block g (by omega)).trans (KO g hg)
            have hgr : (listR spansR).rel wb (upto wb.heap.size) [.slice A5 rg.length c5] rg := (listR spansR).mono (fun p hp => hBb.cell (by have : p.block < w.heap.size := hp; omega)) (fun b hb => by have : b < w.heap.size := hb; show b < _; omega) q7
            have hor : (listR termR).rel wb (upto wb.heap.size) [.slice A6 ro.length c6] ro := (listR termR).mono (fun p hp => hBb.cell (by have : p.block < w.heap.size := hp; omega)) (fun b hb => by have : b < w.heap.size := hb; show b < _; omega) q8
            have hxr : wordR.rel wb (upto wb.heap.size) [vx] x := wordR.mono (fun p hp => World.cell?_of_block (KB' _ hp)) (fun b hb => by have : b < w.heap.size := hb; show b < _; omega) HX.out
            have hvx : wb.cell? ⟨RB, 6, none⟩ = some vx := cell_of_row _ _ 6 _ _ _ ((KB' RB hRw).trans HRB.out)
            have HEN := hid (rfits_calls RB vx (.slice A5 rg.length c5) x rg a wb hvx hxr hgr ha)
            have HWR := hid fun W5 (hW : Below wb.heap.size wb W5) (hf : fitsX x rg a) => rwrites_calls RB vx (.slice A6 ro.length c6) x ro a rg.length W5 ((hW.cell (p := ⟨RB, 6, none⟩) (by show RB < _; omega)).trans hvx) (wordR.below hxr hW hW.size) ((listR termR).below hor hW hW.size) (by have := hf.1; omega) HXS.out (terms_ok hfw hfg hf ha) (by omega)
            obtain ⟨JE, hJE⟩ : ∃ JE, JE = (a + ee) * n := ⟨_, rfl⟩
            have hJEi : ((a : Int) + (ee : Int)) * (n : Int) = (JE : Int) := by rw [hJE]; push_cast; rfl
            rw [← hJE] at hsc
            have hout : ruleOut d x n a W (q' : Int) = if fitsB x rg a then (W (JE + t)).map (writesV ro (winF x a rg.length) ++ ·) else [] := by
              unfold ruleOut
              rw [Int.toNat_natCast, hq, hJE]
              rfl
            have HSN : Hid ((finalsOf d s).flatMap (finOut d x a) ++ ((rulesOf d s).take (i + 1)).flatMap (ruleOut d x n a W) = L ++ if fitsB x rg a then (W (JE + t)).map (writesV ro (winF x a rg.length) ++ ·) else []) := hid (by rw [flat_take hz, hout, hL, List.append_assoc])
            have e1 : wo.cell? ⟨D0, 4, none⟩ = some (.slice (some ⟨b2, o2, none⟩) d.rules.length cr) := cell_of_row _ _ 4 _ _ _ ((KO D0 hD0w).trans HD0.out)
            have x1 : wb.cell? ⟨PR, 0, none⟩ = some (.pointer (some ⟨RB, 0, none⟩)) := cell_of_row _ _ 0 _ _ _ ((KB' PR hPRw).trans HPR.out)
            have x3 : wb.cell? ⟨wo.heap.size, 2, none⟩ = some (.slice A5 rg.length c5) := cell_of_row _ _ 2 _ _ _ hbx
            have HFL := hid hFL
            have HB := hid hB
            have HBb := hid hBb
            have HBX := hid hbx
            have HWB := hid hwb
            have HKB := hid KB'
            have HSC := hid hsc
            have HLE := hid hL
            have hend : fitsB x rg a = true → fitsX x rg a := fun h => fitsB_iff.1 h
            obtain ⟨te, hte⟩ : ∃ te, te = fitsB x rg a := ⟨_, rfl⟩
            rw [← hte] at HEN HSN hend
            have HFO := hid (show ro.length ≤ 64 from hfo)
            have HJE := hid hJE
            rw [hwb] at x1 x3
            clear hz hq q6 q7 q8 hfg hfw hfo hgr hor hxr hvx hout hte hFL hB hBb hbx KB' KO hwb hil hL hJE hsc hsucc hrlen
            go_wp2_with fail
            rw [← HWB.out]
            refine HEN.out.mono ?_
            rintro e w5 ⟨rfl, hB5⟩
            have hs5 := hB5.size
            have HB5 := hid hB5
            cases te with
            | false =>
              have HFL5 := hid (HFL.out.later (HBb.out.trans (hB5.mono (by omega))))
              have HBw5 := hid (HB.out.trans ((HBb.out.trans (hB5.mono (by omega))).mono hs))
              clear x1 x3 e1 hcy q1 q2 q3 q4 q5 hB5 HWR HEN
              go_wp2_with fail
              refine ⟨⟨i + 1, by omega, by go_num, (by rw [HSN.out]; simp only [Bool.false_eq_true, reduceIte, List.append_nil]; exact HFL5.out), HBw5.out⟩, ?_⟩
              simp [intOf]; omega
            | true =>
              have hfx := hend rfl
              have hge := hfx.1
              have HW6 := hid (HWR.out w5 hB5 hfx)
              obtain ⟨hsw, hsw2⟩ := HSC.out hfx
              have y1 : w5.cell? ⟨PR, 0, none⟩ = some (.pointer (some ⟨RB, 0, none⟩)) := cell_of_row _ _ 0 _ _ _ ((hB5.block PR (by omega)).trans ((HKB.out PR hPRw).trans HPR.out))
              have y3 : w5.cell? ⟨wo.heap.size, 2, none⟩ = some (.slice A5 rg.length c5) := cell_of_row _ _ 2 _ _ _ ((hB5.block wo.heap.size (by omega)).trans HBX.out)
              have y4 : w5.cell? ⟨wo.heap.size, 4, none⟩ = some (.slice A6 ro.length c6) := cell_of_row _ _ 4 _ _ _ ((hB5.block wo.heap.size (by omega)).trans HBX.out)
              clear x1 x3 e1 hcy q1 q2 q3 q4 q5 hB5 HWR HEN
              go_wp2_with fail
              refine HW6.out.mono ?_
              rintro e w6 ⟨u6, rfl, hO6, hB6⟩
              have hs6 := hB6.size
              have hu6 := hO6.fresh (b := wo.heap.size) (by omega)
              obtain ⟨hd, hhd⟩ : ∃ hd, hd = writesV ro (winF x a rg.length) := ⟨_, rfl⟩
              have hhl : hd.length ≤ 64 := by rw [hhd]; unfold writesV; rw [List.length_map]; exact HFO.out
              rw [← hhd] at hu6 HSN
              obtain ⟨A9, c9, rfl, _, _⟩ := list_form hu6.1
              have hBw6 : Below wo.heap.size wo w6 := (HBb.out.trans (HB5.out.mono (by omega))).trans (hB6.mono (by omega))
              have K6 : ∀ g, g < w.heap.size → w6.heap[g]? = w.heap[g]? := fun g hg => (hBw6.block g (by omega)).trans (HB.out.block g hg)
              have hbx6 := (hB6.block wo.heap.size (by omega)).trans ((HB5.out.block wo.heap.size (by omega)).trans HBX.out)
              have hix : JE + t < M := by
                have q1 : (a + ee + 1) * n ≤ (x.length + 1) * n := Nat.mul_le_mul_right _ (by omega)
                rw [HM.out, HJE.out]
                rw [Nat.add_mul] at q1
                omega
              have hix' : (JE : Int) + t < M := by omega
              obtain ⟨ws, hws⟩ : ∃ ws, ws = W (JE + t) := ⟨_, rfl⟩
              rw [← hws] at hsw hsw2 HSN
              obtain ⟨Aw, cw, hfw, _, hmw⟩ := list_form hsw
              unfold maxLen at hmw
              have hcs : w6.cell? ⟨SB, JE + t, none⟩ = some (.slice Aw ws.length cw) := by
                rw [← hfw]
                exact (HSB.out.of_block (K6 SB hSBw)).cell hix
              rw [hfw] at hsw
              have z1 := cell_of_row _ _ 0 _ _ _ ((K6 SX hSXw).trans HSX.out)
              have z2 : w6.cell? ⟨wo.heap.size, 3, none⟩ = some (.int .i64 ee) := cell_of_row _ _ 3 _ _ _ hbx6
              have z3 : w6.cell? ⟨D0, 2, none⟩ = some (.int .i64 n) := cell_of_row _ _ 2 _ _ _ ((K6 D0 hD0w).trans HD0.out)
              have z4 : w6.cell? ⟨wo.heap.size, 1, none⟩ = some (.int .i64 t) := cell_of_row _ _ 1 _ _ _ hbx6
              have HST : Hid (FL 27 nwordR w6 w.heap.size w.heap.size (.slice Al L.length cl) L ∧ Below w.heap.size w w6 ∧ nwordR.rel w6 (Els w6 w.heap.size (.slice Al L.length cl)) [.slice A9 hd.length c9] hd) := hid ⟨HFL.out.later hBw6, HB.out.trans (hBw6.mono hs), rel_els hu6 HFL.out.own_lt hs⟩
              have HSW := hid hsw
              have HHD := hid hhd
              have hwl : ws.length ≤ most := hsw2.2.2
              have HWL : Hid (∀ y ∈ ws, y.length ≤ 100000000) := hid fun y hy => HRL.out _ _ y (by omega) ((hsw2.1 y).1 hy)
              clear y1 y3 y4 hO6 hB6 hu6 hBw6 hbx6 K6 hsw hsw2 hhd hws hfw
              go_wp2_with fail
              clear z1 z2 z3 z4 hcs
              go_loopw [9, 98] (fun vl vi wr => ∃ p : Nat, p ≤ ws.length ∧ vi = .int .i64 p ∧ FL 27 nwordR wr w.heap.size w.heap.size vl (L ++ (ws.take p).map (hd ++ ·)) ∧ Below w.heap.size w wr ∧ nwordR.rel wr (Els wr w.heap.size vl) [.slice A9 hd.length c9] hd) (fun _ vi _ => ws.length - (intOf vi).toNat)
              case atStart => exact ⟨0, Nat.zero_le _, rfl, by rw [List.take_zero, List.map_nil, List.append_nil]; exact HST.out.1, HST.out.2.1, HST.out.2.2⟩
              case round =>
                obtain ⟨p, hp, rfl, hFL, hB, hhr⟩ := hrel
                obtain ⟨wi, hwi⟩ : ∃ wi, wi = wr := ⟨_, rfl⟩
                subst hwi
                have hsi := hB.size
                obtain ⟨L2, hL2⟩ : ∃ L2, L2 = L ++ (ws.take p).map (hd ++ ·) := ⟨_, rfl⟩
                rw [← hL2] at hFL
                have hL2l : L2.length ≤ 4096 + 4096 * most + most := by
                  rw [hL2, List.length_append, List.length_map, List.length_take]
                  omega
                obtain ⟨Ai, ci, rfl⟩ := hFL.len
                by_cases hpl : p < ws.length
                · have hpl' : (p : Int) < ws.length := by omega
                  obtain ⟨y, hy⟩ := at_lt hpl
                  obtain ⟨b3, o3, yv, rfl, hb3, hyr, hcy3⟩ := list_at1 rfl ((listR nwordR).mono (w' := wi) (S' := upto w.heap.size) (fun p hp => World.cell?_of_block (hB.block _ hp.2)) (fun _ h => h.2) HSW.out) hy
                  obtain ⟨A4, c4, rfl, _, _⟩ := list_form hyr.1
                  have HSN2 : Hid (L ++ (ws.take (p + 1)).map (hd ++ ·) = L2 ++ [hd ++ y]) := hid (by rw [List.take_add_one, hy, hL2]; simp)
                  have hyl := HWL.out y (List.mem_of_getElem? hy)
                  obtain ⟨wa, hwa⟩ : ∃ wa, wa = wi.alloc (.cells #[.slice A9 hd.length c9, .slice A4 y.length c4] 27) := ⟨_, rfl⟩
                  have hBa : Below wi.heap.size wi wa := by rw [hwa]; exact (Below.refl _ wi).alloc (Nat.le_refl _) _
                  have hsa : wi.heap.size + 1 ≤ wa.heap.size := by rw [hwa]; simp
                  have HCC := hid (Concat_calls hd y wi.heap.size (.slice A9 hd.length c9) (.slice A4 y.length c4) wa (by rw [hwa]; exact heap_alloc_new _ _) (nwordR.mono (fun p hp => hBa.cell hp.2.1) (fun b hb => by have := hb.2.1; show b < _; omega) hhr) (nwordR.mono (fun p hp => hBa.cell (by have : p.block < w.heap.size := hp; omega)) (fun b hb => by have : b < w.heap.size := hb; show b < _; omega) hyr) (by omega) (by omega))
                  have HFL2 := hid hFL
                  have HBi := hid hB
                  have HHR := hid hhr
                  have HBa := hid hBa
                  have HWA := hid hwa
                  clear hy hyr hFL hB hhr hBa hwa hL2 hpl
                  go_wp2_with fail
                  rw [← HWA.out]
                  refine HCC.out.mono ?_
                  rintro e w7 ⟨u7, rfl, hu7, hB7⟩
                  have hs7 := hB7.size
                  obtain ⟨A3, c3, rfl, _, _⟩ := list_form hu7.1
                  have hBw7 : Below wi.heap.size wi w7 := HBa.out.trans (hB7.mono (by omega))
                  have hu7' : nwordR.rel w7 (Fresh wi.heap.size w7) [.slice A3 (hd ++ y).length c3] (hd ++ y) := rel_low hu7 (by omega)
                  clear hu7 hcy3
                  rw [show (hd ++ y).length = hd.length + y.length by simp] at hu7' ⊢
                  go_wp2_with (at_builtin; refine Hid.out ?_)
                  refine hid ?_
                  have hB2a : Below wi.heap.size wi (w7.alloc (.cells #[.slice A3 (hd.length + y.length) c3] 27)) := hBw7.alloc hBw7.size _
                  have hel := rel_els (rel_fresh hu7' ((Below.refl _ w7).alloc (Nat.le_refl _) (.cells #[.slice A3 (hd.length + y.length) c3] 27))) HFL2.out.own_lt hsi
                  have hhr2 : nwordR.rel (w7.alloc (.cells #[.slice A3 (hd.length + y.length) c3] 27)) (Els (w7.alloc (.cells #[.slice A3 (hd.length + y.length) c3] 27)) w.heap.size (.slice Ai L2.length ci)) [.slice A9 hd.length c9] hd := nwordR.mono (fun p hp => hB2a.cell hp.2.1) (fun b hb => ⟨hb.1, by have := hb.2.1; have := hB2a.size; omega, hb.2.2⟩) HHR.out
                  show wpList _ _ _ _ _ _
                  refine wpList_append_fl2 (r := nwordR) (v := .slice Ai L2.length ci) (xs := L2) (by rfl) _ _ 33 (by rfl) inf _ 24 Tryz.underlying33 hi0 hz0 hz1 hz2 rfl (by decide) (by rfl) HFL2.out hB2a (Nat.le_trans hsi hB2a.size) ⟨w7.heap.size, 0, none⟩ 1 (hd ++ y) [.slice A3 (hd.length + y.length) c3] (by rfl) hel
                    (news_at (w := w7) (cs := #[_]) rfl) (by simp [Value.oneCell']) (by unfold maxLen; omega) (by omega) ?_
                  intro v' w3 hFL3 hB3 hE3
                  have hhr3 := nwordR.mono (fun p hp => World.cell?_of_block (hE3 _ hp).1) (fun b hb => (hE3 b hb).2) hhr2
                  obtain ⟨A2, c2, rfl⟩ := hFL3.len
                  have HFL3 := hid hFL3
                  have HHR3 := hid hhr3
                  have HB3 := hid ((HBi.out.trans (hB2a.mono hsi)).trans hB3)
                  rw [show (L2 ++ [hd ++ y]).length = L2.length + 1 by simp] at HFL3 HHR3 ⊢
                  clear hFL3 hB3 hE3 hhr3 hhr2 hel hB2a hu7' hBw7 hB7
                  go_wp2_with fail
                  refine ⟨⟨p + 1, by omega, by go_num, (by rw [HSN2.out]; exact HFL3.out), HB3.out, HHR3.out⟩, ?_⟩
                  simp [intOf]; omega
                · obtain rfl : p = ws.length := by omega
                  have hpl' : ¬ ((ws.length : Int) < ws.length) := by omega
                  rw [List.take_length] at hL2
                  have HFLn := hid hFL
                  have HBn := hid hB
                  have HL2 := hid hL2
                  clear hFL hB hhr hL2 hpl
                  go_wp2_with fail
                  refine ⟨⟨i + 1, by omega, by go_num, (by rw [HSN.out]; simp only [if_true]; rw [← HL2.out]; exact HFLn.out), HBn.out⟩, ?_⟩
                  simp [intOf]; omega
          · obtain rfl : i = (rulesOf d s).length := by omega
            have hil' : ¬ (((rulesOf d s).length : Int) < (rulesOf d s).length) := by omega
            rw [List.take_length] at hL
            have hmemL : ∀ y, y ∈ L ↔ Run d x a s y := fun y => by
              rw [hL]
              refine outs_iff ha (fun r hr hsr hfx y => ?_) y
              obtain ⟨_, g2, _⟩ := HOK.out.rule r hr
              have := (hsucc r hr hsr hfx).2.1 y
              rwa [show ((r.dst.toNat : Nat) : Int) = r.dst by omega] at this
            have HSO := hid (Sort_calls L (.slice Al L.length cl) wo hFL.upto (by omega) (fun y hy => by have := HRL.out a s y ha ((hmemL y).1 hy); omega))
            have HME := hid hmemL
            have HB := hid hB
            clear hL hFL hsucc hrlen hmemL hB hil
            go_wp2_with fail
            refine HSO.out.mono ?_
            rintro e w5 ⟨u, ls, rfl, hu, hmem, hpw, hB5⟩
            obtain ⟨A9, c9, rfl, _, hm9⟩ := list_form hu
            unfold maxLen at hm9
            have hs5 := hB5.size
            have hBw : Below w.heap.size w w5 := HB.out.trans (hB5.mono hs)
            have K5 : ∀ g, g < w.heap.size → w5.heap[g]? = w.heap[g]? := fun g hg => hBw.block g hg
            obtain ⟨JK, hJK⟩ : ∃ JK, JK = a * n := ⟨_, rfl⟩
            have hJKi : (a : Int) * (n : Int) = (JK : Int) := by rw [hJK]; push_cast; rfl
            have hix : JK + s < M := by
              have q1 : (a + 1) * n ≤ (x.length + 1) * n := Nat.mul_le_mul_right _ (by omega)
              rw [HM.out, hJK]
              rw [Nat.add_mul] at q1
              omega
            have hix' : (JK : Int) + s < M := by omega
            have cKB := cell_of_row _ _ 0 _ _ _ ((K5 KB hKBw).trans HKB0.out)
            have hMB5 := (K5 MB (by omega)).trans HMB.out
            have cMB := cell_of_row _ _ 0 _ _ _ hMB5
            have fMB : w5.frozen? ⟨MB, 0, none⟩ = false := frozen_of_row _ _ _ _ _ hMB5
            obtain ⟨mb, hmb⟩ : ∃ mb : Bool, mb = decide (most < ls.length) := ⟨_, rfl⟩
            have hdec : decide (most < ls.length) = mb := hmb.symm
            obtain ⟨w6, hw6⟩ : ∃ w6, w6 = w5.setCell ⟨MB, 0, none⟩ (.bool mb) := ⟨_, rfl⟩
            have K6 : ∀ g, g < w5.heap.size → g ≠ MB → w6.heap[g]? = w5.heap[g]? := fun g hg hne => by rw [hw6]; exact heap_setCell_other _ _ _ _ hne
            have hs6 : w6.heap.size = w5.heap.size := by rw [hw6]; simp
            have hSB6 : w6.rowIs SB 33 M f := (HSB.out.of_block (K5 SB hSBw)).of_block (K6 SB (by omega) (by omega))
            have cSB := hSB6.cell hix
            have fSB := hSB6.frozen (JK + s)
            have z1 := cell_of_row _ _ 0 _ _ _ ((K6 SX (by omega) (by omega)).trans ((K5 SX hSXw).trans HSX.out))
            have z3 : w6.cell? ⟨D0, 2, none⟩ = some (.int .i64 n) := cell_of_row _ _ 2 _ _ _ ((K6 D0 (by omega) (by omega)).trans ((K5 D0 hD0w).trans HD0.out))
            rw [hw6] at z1 z3 cSB fSB
            have hmk : most < ls.length ↔ mb = true := by rw [hmb]; simp
            obtain ⟨w7, hw7⟩ : ∃ w7, w7 = w6.setCell ⟨SB, JK + s, none⟩ (.slice A9 ls.length c9) := ⟨_, rfl⟩
            have K7 : ∀ g, g < w5.heap.size → g ≠ MB → g ≠ SB → w7.heap[g]? = w5.heap[g]? := fun g hg h1 h2 => by rw [hw7]; exact (heap_setCell_other _ _ _ _ h2).trans (K6 g hg h1)
            have hs7 : w7.heap.size = w5.heap.size := by rw [hw7]; simp [hs6]
            have hMB7 : w7.heap[MB]? = some (.cells #[.bool mb] 4) := by
              rw [hw7, heap_setCell_other _ _ _ _ (by show MB ≠ SB; omega), hw6, heap_setCell_same w5 MB 0 _ _ _ hMB5]
              rfl
            have hSB7 : w7.rowIs SB 33 M (fun i => if i = JK + s then .slice A9 ls.length c9 else f i) := by rw [hw7]; exact hSB6.set (JK + s) _
            have HFin : Hid (OutI w1 RB LV d x n ord most PR SX MB SB H2 a (q + 1) w7) := hid (by
              obtain ⟨hI1, hI2, hI3, hI4, _⟩ := HI.out
              refine ⟨hI1.trans ⟨by rw [hw7, hw6]; exact hBw.os, by rw [hw7, hw6]; exact hBw.tape, by rw [hw7, hw6]; exact hBw.output, by omega, fun g hg => (K7 g (by omega) (by omega) (by omega)).trans (K5 g (by omega))⟩, by omega, (K7 PR (by omega) (by omega) (by omega)).trans ((K5 PR hPRw).trans hI3), (K7 SX (by omega) (by omega) (by omega)).trans ((K5 SX hSXw).trans hI4), (fun i => if i = JK + s then .slice A9 ls.length c9 else f i), (fun i => if i = JK + s then ls else W i), mb, hMB7, by rw [← HM.out]; exact hSB7, fun h => ?_, fun h a' s' hs' ha' hdn hlv => ?_⟩
              · exact ⟨a, s, ls, (live_iff HOK.out HO.out.1 HO.out.2.1 HO.out.2.2 hsn).1 HLV.out, fun y hy => (HME.out y).1 ((hmem y).1 hy), hpw, hmk.2 h⟩
              · by_cases e : a' * n + s' = JK + s
                · rw [hJK] at e
                  obtain ⟨rfl, rfl⟩ := code_inj hs' hsn e
                  dsimp only
                  rw [← hJK, if_pos rfl, if_pos rfl]
                  refine ⟨(listR nwordR).mono (fun p hp => World.cell?_of_block (K7 _ hp.2 (by have := hp.1; omega) (by have := hp.1; omega))) (fun b hb => ⟨by have := hb.1; omega, by have := hb.2; omega⟩) hu, fun y => (hmem y).trans (HME.out y), hpw, ?_⟩
                  have : ¬ most < ls.length := fun h2 => by rw [hmk.1 h2] at h; cases h
                  omega
                · dsimp only
                  rw [if_neg e, if_neg e]
                  have hdn2 : DoneP ord a q a' s' := by
                    rcases hdn with h2 | ⟨h2, h3⟩
                    · exact .inl h2
                    · rw [List.take_add_one, HQ.out] at h3
                      rcases List.mem_append.1 h3 with h4 | h4
                      · exact .inr ⟨h2, h4⟩
                      · simp at h4
                        exfalso
                        apply e
                        rw [hJK, h2]
                        omega
                  obtain ⟨g1, g2⟩ := HF.out a' s' hs' ha' hdn2 hlv
                  exact ⟨(listR nwordR).mono (fun p hp => World.cell?_of_block ((K7 _ (by have := hp.2; omega) (by have := hp.1; omega) (by have := hp.1; omega)).trans (K5 _ hp.2))) (fun b hb => ⟨hb.1, by have := hb.2; omega⟩) g1, g2⟩)
            have HW6 := hid hw6
            have HW7 := hid hw7
            rw [hw6] at hw7
            have HW7' := hid hw7
            clear hJK hu hmem hpw hB5 hBw K5 hMB5 hmb hw6 K6 hs6 hSB6 hmk hw7 K7 hs7 hMB7 hSB7
            go_wp2_with fail
            rw [← HW7'.out]
            refine bodyPost_end (results_none rfl _ _ _) rfl ?_
            exact ⟨rfl, HFin.out⟩
end Go.Proofs.YtmkmikacfilbpaaGreat
