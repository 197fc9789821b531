/-
  The program's desc.Free and desc.Ahead, for any description; whether bytes begin in guards' window.
-/
import Derived.Test.YthfcbbdghggefaaGreatRCsA
import Derived.Test.YthfcbbdghggefaaGreatRShA
import Derived.Test.YthfcbbdghggefaaGreatRCdG
import Derived.Test.YthfcbbdghggefaaGreatRCdH
import Derived.Test.YthfcbbdghggefaaGreatPc
import Derived.Test.YthfcbbdghggefaaGreatPi
namespace Go.Proofs.YthfcbbdghggefaaGreat
open Go.Proofs Go.Um Go.RowKit
def freeF (l : List Rule) : Bool := !(l.any fun r => decide (r.guards.length = 0))
set_option maxHeartbeats 1000000 in
set_option maxRecDepth 100000 in
theorem free1_calls (r : Rule) (v u : Value) (w : World) (hv : (listR spansR).rel w (upto w.heap.size) [v] r.guards) (hu : (listR termR).rel w (upto w.heap.size) [u] r.out) :
    Calls Tryz.prog 61 #[.agg #[.int .i64 r.src, .int .i64 r.dst, v, .int .i64 r.eat, u]] w fun e w' => e = .returned (.bool (decide (r.guards.length = 0))) ∧ Below w.heap.size w w' := by
  obtain ⟨A1, c1, rfl, hc1, hm1⟩ := list_form hv
  obtain ⟨A2, c2, rfl, hc2, hm2⟩ := list_form hu
  clear hv hu
  by_cases h : r.guards.length = 0
  · have h' := beq_t (show (r.guards.length : Int) = 0 by omega)
    have HE : Hid (decide (r.guards.length = 0) = true) := hid (decide_eq_true h)
    clear h
    go_enter Tryz.func61, Tryz.ntmps61
    go_wp2_with fail
    go_ret
    exact ⟨by rw [HE.out]; rfl, (Below.refl _ w).alloc (Nat.le_refl _) _⟩
  · have h' := beq_f (show ¬ (r.guards.length : Int) = 0 by omega)
    have HE : Hid (decide (r.guards.length = 0) = false) := hid (decide_eq_false h)
    clear h
    go_enter Tryz.func61, Tryz.ntmps61
    go_wp2_with fail
    go_ret
    exact ⟨by rw [HE.out]; rfl, (Below.refl _ w).alloc (Nat.le_refl _) _⟩
set_option maxHeartbeats 1000000 in
set_option maxRecDepth 100000 in
theorem fits_calls (gs : List (List Span)) (y : List Int) (_hy : byteL y) (hl : gs.length ≤ y.length) (v u : Value) (w : World) (hv : (listR spansR).rel w (upto w.heap.size) [v] gs) (hu : bytesR.rel w (upto w.heap.size) [u] y) :
    Calls Tryz.prog 23 #[v, u] w fun e w' => e = .returned (.bool (fitL gs y)) ∧ Below w.heap.size w w' := by
  obtain ⟨A1, c1, rfl, hc1, hm1⟩ := list_form hv
  obtain ⟨A2, c2, rfl, hc2, hm2⟩ := list_form hu
  unfold maxLen at hm1 hm2
  have HV := hid hv
  have HU := hid hu
  have HH := hid fun l x v W h => Has_calls l x v W h
  obtain ⟨b, hb⟩ : ∃ b, b = fitL gs y := ⟨_, rfl⟩
  rw [← hb]
  have HBE := hid hb
  clear hv hu hb
  go_enter Tryz.func23, Tryz.ntmps23
  go_wp2_with fail
  go_loopw [5] (fun vi wr => ∃ k : Nat, k ≤ gs.length ∧ vi = .int .i64 k ∧ b = fitL (gs.drop k) (y.drop k) ∧ Below w.heap.size w wr) (fun vi _ => gs.length - (intOf vi).toNat)
  case atStart => exact ⟨0, Nat.zero_le _, rfl, HBE.out, Below.refl _ _⟩
  case round =>
    obtain ⟨k, hk, rfl, hb, hB⟩ := hrel
    obtain ⟨wo, hwo⟩ : ∃ wo, wo = wr := ⟨_, rfl⟩
    subst hwo
    by_cases hlt : k < gs.length
    · have hlt' : (k : Int) < gs.length := by omega
      obtain ⟨g, hg⟩ := at_lt hlt
      obtain ⟨z, hz⟩ := at_lt (xs := y) (i := k) (by omega)
      have hyl : (k : Int) < y.length := by omega
      obtain ⟨b1, o1, y1, rfl, hb1, hy1, hcy⟩ := list_at1 rfl HV.out hg
      obtain ⟨G, O, rfl, hG, c0, hz0, hz1⟩ := byte_at HU.out hz
      have hgW := spansR.below hy1 hB hB.size
      have HHX := hid fun W (hW : Below wo.heap.size wo W) => HH.out g z y1 W (spansR.below hgW hW hW.size)
      obtain ⟨A3, c3, rfl, _, _⟩ := list_form hy1
      have q1 := (hB.cell (p := ⟨b1, o1 + k, none⟩) hb1).trans hcy
      have q2 := (hB.cell (p := ⟨G, O + k, none⟩) hG).trans c0
      have hb1' : b1 < wo.heap.size := Nat.lt_of_lt_of_le hb1 hB.size
      have hG' : G < wo.heap.size := Nat.lt_of_lt_of_le hG hB.size
      have hP : b = (hasB g z && fitL (gs.drop (k + 1)) (y.drop (k + 1))) := by
        rw [hb, List.drop_eq_getElem_cons hlt, List.drop_eq_getElem_cons (show k < y.length by omega)]
        rw [show gs[k] = g from Option.some.inj ((List.getElem?_eq_getElem hlt).symm.trans hg), show y[k]'(show k < y.length by omega) = z from Option.some.inj ((List.getElem?_eq_getElem (show k < y.length by omega)).symm.trans hz)]
        rfl
      have hI : hasI g z = hasB g z := by unfold hasI; rw [decide_eq_true (by omega), decide_eq_true (by omega)]; rfl
      rw [hI] at HHX
      have HB := hid hB
      clear hg hz hy1 hcy c0 hgW hB hb hI
      obtain ⟨t, ht⟩ : ∃ t, t = hasB g z := ⟨_, rfl⟩
      rw [← ht] at HHX hP
      have HP := hid hP
      clear ht hP
      go_wp2_with fail
      obtain ⟨ι, Wc, ⟨i0, hi0'⟩, hWc, Wsur⟩ := held_class wo.drew (fun q => q = b1 ∨ q = G)
      have hne : Nonempty ι := ⟨i0⟩
      have WS := hid Wsur; clear Wsur
      have HWc := hid hWc; clear hWc
      have Hi0 := hid hi0'; clear hi0'
      have g1 : ∀ i, (Wc i).cell? ⟨b1, o1 + k, none⟩ = some _ := fun i => (World.cell?_of_block (a := ⟨b1, o1 + k, none⟩) (HWc.out i _ (.inl rfl))).trans q1
      have g2 : ∀ i, (Wc i).cell? ⟨G, O + k, none⟩ = some _ := fun i => (World.cell?_of_block (a := ⟨G, O + k, none⟩) (HWc.out i _ (.inr rfl))).trans q2
      refine region_anyL (S := fun w' => ∃ i, w' = Wc i) (last := 11) (by kernel_rfl) ?_
      refine anyL_seg 0 9 (by kernel_rfl) (fun _ _ _ _ _ h => h) ⟨i0, Hi0.out.symm⟩ (f := 2) rfl (by kernel_rfl) (by kernel_rfl) ?_
      simp only [List.drop_zero, List.take_succ_cons, List.take_zero]
      repeat go_big_quiet_step (fail)
      refine wpQuiet_nil ?_
      refine anyL_act (i := 9) (by kernel_rfl) rfl rfl ?_
      intro K hK
      go_wp2_with fail
      have hBd : Below wo.heap.size wo wo.drew := have h := Below.refl wo.heap.size wo; ⟨h.os, h.tape, h.output, h.size, h.block⟩
      refine (HHX.out _ hBd).mono ?_
      rintro e w1 ⟨rfl, hB1⟩
      have hB1' : Below wo.heap.size wo w1 := hBd.trans hB1
      have HB1 := hid (HB.out.trans (hB1'.mono HB.out.size))
      have hS1 : ∃ i, w1 = Wc i := WS.out _ fun q hq => hq.elim (fun e => by rw [e]; exact hB1'.block _ hb1') (fun e => by rw [e]; exact hB1'.block _ hG')
      clear hB1 hBd
      go_wp2_with fail
      refine hK.out _ _ (fun _ => hS1) ?_
      clear hK K hB1'
      refine anyL_seg 10 1 (by kernel_rfl) (fun _ _ _ _ _ h => h) hS1 (f := 0) rfl (by kernel_rfl) (by kernel_rfl) ?_
      simp only [List.drop_succ_cons, List.drop_zero, List.take_succ_cons, List.take_zero]
      repeat go_big_quiet_step (fail)
      refine wpQuiet_nil ?_
      refine anyL_done (by kernel_rfl) ?_ 0
      clear hS1 g1 g2 WS HWc Hi0 hne i0 Wc ι
      cases t with
      | true =>
        have HF : Hid (b = fitL (gs.drop (k + 1)) (y.drop (k + 1))) := hid (by rw [HP.out, Bool.true_and])
        go_wp2_with fail
        refine ⟨⟨k + 1, by omega, by go_num, HF.out, HB1.out⟩, ?_⟩
        simp [intOf]; omega
      | false =>
        have HF : Hid (b = false) := hid (by rw [HP.out, Bool.false_and])
        go_wp2_with fail
        go_ret
        exact ⟨by rw [HF.out]; rfl, HB1.out⟩
    · obtain rfl : k = gs.length := by omega
      have hlt' : ¬ (gs.length : Int) < gs.length := by omega
      have HE : Hid (b = true) := hid (by rw [hb, List.drop_length]; rfl)
      have HB := hid hB
      clear hb hB hlt
      go_wp2_with fail
      go_ret
      exact ⟨by rw [HE.out]; rfl, HB.out⟩
set_option maxHeartbeats 1000000 in
set_option maxRecDepth 100000 in
theorem index_calls (l : List Rule) (hf : freeF l = true) (v : Value) (w : World) (hv : (listR ruleR).rel w (upto w.heap.size) [v] l) :
    Calls Tryz.prog 96 #[v, .func (.func 61) #[] #[]] w fun e w' => e = .returned (.int .i64 (-1)) ∧ Below w.heap.size w w' := by
  obtain ⟨A1, c1, rfl, hc1, hm1⟩ := list_form hv
  unfold maxLen at hm1
  have HF1 := hid fun r v u W hv hu => free1_calls r v u W hv hu
  have HV := hid hv
  have HFR := hid hf
  clear hv hf
  go_enter Tryz.func96, Tryz.ntmps96
  go_wp2_with fail
  go_loopw [8] (fun vi wr => ∃ k : Nat, k ≤ l.length ∧ vi = .int .i64 k ∧ Below w.heap.size w wr) (fun vi _ => l.length - (intOf vi).toNat)
  case atStart => exact ⟨0, Nat.zero_le _, rfl, Below.refl _ _⟩
  case round =>
    obtain ⟨k, hk, rfl, hB⟩ := hrel
    obtain ⟨wo, hwo⟩ : ∃ wo, wo = wr := ⟨_, rfl⟩
    subst hwo
    by_cases hlt : k < l.length
    · obtain ⟨x, hx⟩ := at_lt hlt
      have hlt' : (k : Int) < l.length := by omega
      obtain ⟨b, o, y, z, rfl, hb, q1, q2, q3, q4, q5, _, hy, hz⟩ := rule_at HV.out hx
      have hne : decide (x.guards.length = 0) = false := by
        have := HFR.out
        unfold freeF at this
        rw [Bool.not_eq_true', List.any_eq_false] at this
        simpa using this x (List.mem_of_getElem? hx)
      have HX := hid (HF1.out x y z wo ((listR spansR).below hy hB hB.size) ((listR termR).below hz hB hB.size))
      rw [hne] at HX
      obtain ⟨A3, c3, rfl, _, _⟩ := list_form hy
      obtain ⟨A4, c4, rfl, _, _⟩ := list_form hz
      replace q1 := (hB.cell (p := ⟨b, o + k * 5, none⟩) hb).trans q1
      replace q2 := (hB.cell (p := ⟨b, o + k * 5 + 1, none⟩) hb).trans q2
      replace q3 := (hB.cell (p := ⟨b, o + k * 5 + 2, none⟩) hb).trans q3
      replace q4 := (hB.cell (p := ⟨b, o + k * 5 + 3, none⟩) hb).trans q4
      replace q5 := (hB.cell (p := ⟨b, o + k * 5 + 4, none⟩) hb).trans q5
      have HB := hid hB
      clear hx hB hy hz hne
      go_wp2_with fail
      refine HX.out.mono ?_
      rintro e w1 ⟨rfl, hB1⟩
      have HB1 := hid (HB.out.trans (hB1.mono HB.out.size))
      clear hB1
      go_wp2_with fail
      refine ⟨⟨k + 1, by omega, by go_num, HB1.out⟩, ?_⟩
      simp [intOf]; omega
    · obtain rfl : k = l.length := by omega
      have hlt' : ¬ (l.length : Int) < l.length := by omega
      have HB := hid hB
      clear hB
      go_wp2_with fail
      go_ret
      exact ⟨rfl, HB.out⟩
set_option maxHeartbeats 1000000 in
set_option maxRecDepth 100000 in
theorem Free_calls (d : Desc) (hf : freeF d.rules = true) (v u : Value) (w : World) (hv : (listR ruleR).rel w (upto w.heap.size) [v] d.rules) (hu : (listR finalR).rel w (upto w.heap.size) [u] d.finals) :
    Calls Tryz.prog 20 #[.agg #[.int .i64 d.inn, .int .i64 d.out, .int .i64 d.states, .int .i64 d.start, v, u]] w fun e w' => e = .returned (.bool true) ∧ Below w.heap.size w w' := by
  have HI := hid fun v W hv => index_calls d.rules hf v W hv
  have HC : Hid (∀ v W, (listR ruleR).rel W (upto W.heap.size) [v] d.rules → Calls Tryz.prog 60 #[v, .func (.func 61) #[] #[]] W fun e w' => e = .returned (.bool false) ∧ Below W.heap.size W w') := hid (by
    intro v W hv
    have HX := hid (HI.out v W hv)
    obtain ⟨A1, c1, rfl, hc1, hm1⟩ := list_form hv
    clear hv
    go_enter Tryz.func60, Tryz.ntmps60
    go_wp2_with fail
    refine HX.out.mono ?_
    rintro e w1 ⟨rfl, hB1⟩
    have HB1 := hid hB1
    clear hB1
    go_wp2_with fail
    go_ret
    exact ⟨rfl, HB1.out⟩)
  obtain ⟨A1, c1, rfl, hc1, hm1⟩ := list_form hv
  obtain ⟨A2, c2, rfl, hc2, hm2⟩ := list_form hu
  have hB0 : Below w.heap.size w (w.alloc (.cells #[.int .i64 d.inn, .int .i64 d.out, .int .i64 d.states, .int .i64 d.start, .slice A1 d.rules.length c1, .slice A2 d.finals.length c2] 27)) := (Below.refl _ w).alloc (Nat.le_refl _) _
  have HX := hid (HC.out _ _ ((listR ruleR).below hv hB0 hB0.size))
  have HB0 := hid hB0
  clear hv hu hf hB0
  go_enter Tryz.func20, Tryz.ntmps20
  go_wp2_with fail
  refine HX.out.mono ?_
  rintro e w1 ⟨rfl, hB1⟩
  have HB1 := hid (HB0.out.trans (hB1.mono HB0.out.size))
  clear hB1
  go_wp2_with fail
  go_ret
  exact ⟨rfl, HB1.out⟩
def aheadF (l : List Rule) : Int := l.foldl (fun n r => max n (r.guards.length - max r.eat 0)) 0
theorem aheadF_snoc {l : List Rule} {k : Nat} {x : Rule} (hx : l[k]? = some x) : aheadF (l.take (k + 1)) = max (aheadF (l.take k)) (x.guards.length - max x.eat 0) := by
  rw [take_snoc hx]
  unfold aheadF
  rw [List.foldl_append]
  rfl
set_option maxHeartbeats 1000000 in
set_option maxRecDepth 100000 in
theorem Ahead_calls (d : Desc) (hE : ∀ r ∈ d.rules, 1 ≤ r.eat ∧ r.eat ≤ 4) (v u : Value) (w : World) (hv : (listR ruleR).rel w (upto w.heap.size) [v] d.rules) (hu : (listR finalR).rel w (upto w.heap.size) [u] d.finals) :
    Calls Tryz.prog 22 #[.agg #[.int .i64 d.inn, .int .i64 d.out, .int .i64 d.states, .int .i64 d.start, v, u]] w fun e w' => e = .returned (.int .i64 (aheadF d.rules)) ∧ Below w.heap.size w w' := by
  obtain ⟨A1, c1, rfl, hc1, hm1⟩ := list_form hv
  obtain ⟨A2, c2, rfl, hc2, hm2⟩ := list_form hu
  unfold maxLen at hm1 hm2
  have hX0 := heap_alloc_new w (.cells #[.int .i64 d.inn, .int .i64 d.out, .int .i64 d.states, .int .i64 d.start, .slice A1 d.rules.length c1, .slice A2 d.finals.length c2] 27)
  obtain ⟨p0, p1, p2, p3, p4, p5⟩ := six hX0
  have HV := hid hv
  have HEA := hid hE
  clear hu hv hX0 hE
  go_enter Tryz.func22, Tryz.ntmps22
  go_wp2_with fail
  go_loopw [3, 9] (fun vn vi wr => ∃ k : Nat, k ≤ d.rules.length ∧ vi = .int .i64 k ∧ vn = .int .i64 (aheadF (d.rules.take k)) ∧ (0 ≤ aheadF (d.rules.take k) ∧ aheadF (d.rules.take k) ≤ 9223372036854775807) ∧ Below w.heap.size w wr) (fun _ vi _ => d.rules.length - (intOf vi).toNat)
  case atStart => exact ⟨0, Nat.zero_le _, rfl, rfl, ⟨Int.le_refl _, by rw [List.take_zero]; decide⟩, (Below.refl _ w).alloc (Nat.le_refl _) _⟩
  case round =>
    obtain ⟨k, hk, rfl, rfl, ⟨hw0, hwd⟩, hB⟩ := hrel
    obtain ⟨N, hN⟩ : ∃ N, N = aheadF (d.rules.take k) := ⟨_, rfl⟩
    rw [← hN] at hw0 hwd ⊢
    by_cases hlt : k < d.rules.length
    · obtain ⟨⟨sx, dx, gx, ex, ox⟩, hx⟩ := at_lt hlt
      obtain ⟨b, o, y, z, rfl, hb, q1, q2, q3, q4, q5, _, hy, hz⟩ := rule_at HV.out hx
      obtain ⟨e0, e4⟩ := HEA.out _ (List.mem_of_getElem? hx)
      obtain ⟨A3, c3, rfl, hg2, hg3⟩ := list_form hy
      obtain ⟨A4, c4, rfl, _, _⟩ := list_form hz
      replace q1 := (hB.cell (p := ⟨b, o + k * 5, none⟩) hb).trans q1
      replace q2 := (hB.cell (p := ⟨b, o + k * 5 + 1, none⟩) hb).trans q2
      replace q3 := (hB.cell (p := ⟨b, o + k * 5 + 2, none⟩) hb).trans q3
      replace q4 := (hB.cell (p := ⟨b, o + k * 5 + 3, none⟩) hb).trans q4
      replace q5 := (hB.cell (p := ⟨b, o + k * 5 + 4, none⟩) hb).trans q5
      dsimp only at q1 q2 q3 q4 q5 hg2 hg3 e0 e4
      unfold maxLen at hg3
      have hlt' : (k : Int) < d.rules.length := by omega
      have hbs : b < wr.heap.size := Nat.lt_of_lt_of_le hb hB.size
      have hS := aheadF_snoc hx
      rw [← hN] at hS
      dsimp only at hS
      rw [Int.max_eq_left (show (0 : Int) ≤ ex by omega)] at hS
      have HS := hid hS
      have HB := hid hB
      clear hx hB hy hz hN hS
      have hm := Int.max_eq_left (show (0 : Int) ≤ ex by omega)
      go_wp2_with fail
      refine ⟨⟨k + 1, by omega, by go_num, by rw [HS.out], by rw [HS.out]; omega, HB.out.alloc HB.out.size _⟩, ?_⟩
      simp [intOf]
      omega
    · obtain rfl : k = d.rules.length := by omega
      have hlt' : ¬ (d.rules.length : Int) < d.rules.length := by omega
      have HE : Hid (N = aheadF d.rules) := hid (by rw [hN, List.take_length])
      have HB := hid hB
      clear hB hN
      go_wp2_with fail
      go_ret
      exact ⟨by rw [← HE.out]; rfl, HB.out⟩
end Go.Proofs.YthfcbbdghggefaaGreat
