/-
  run.Outputs: all that an input is related to, or that it is more than was asked for.
-/
import Derived.Test.YtmkmikacfilbpaaGreatRuT
namespace Go.Proofs.YtmkmikacfilbpaaGreat
open Go.Proofs Go.Um Go.RowKit
def asksC (d : Desc) (x : List Int) : Int := if (whereF d).1 = 0 then (if x.length ≤ 1024 then (if x.all (hasB (domF d.inn)) then 0 else 1) else 4) else 2
def asksF (d : Desc) (x : List Int) (most : Int) : Int := if asksC d x = 0 then (if most < 1 then 1 else 0) else asksC d x
def OutPost (d : Desc) (x : List Int) (most : Int) (w : World) (e : Ending) (w' : World) : Prop :=
  Below w.heap.size w w' ∧ ((asksF d x most ≠ 0 ∧ e = .returned (.tuple #[.slice none 0 0, .int .i64 (asksF d x most)])) ∨
    (asksF d x most = 0 ∧ e = .returned (.tuple #[.slice none 0 0, .int .i64 5]) ∧ TooMany d x most.toNat) ∨
    (asksF d x most = 0 ∧ ¬ TooMany d x most.toNat ∧ ∃ u ls, e = .returned (.tuple #[u, .int .i64 0]) ∧ (listR nwordR).rel w' (Fresh w.heap.size w') [u] ls ∧ WordsOf d x 0 d.start most.toNat ls))
set_option maxHeartbeats 1000000 in
set_option maxRecDepth 100000 in
theorem rcheck_calls (d : Desc) (x : List Int) (v u vx : Value) (w : World) (hv : (listR ruleR).rel w (upto w.heap.size) [v] d.rules) (hu : (listR finalR).rel w (upto w.heap.size) [u] d.finals) (hx : wordR.rel w (upto w.heap.size) [vx] x) :
    Calls Tryz.prog 47 #[.agg #[.int .i64 d.inn, .int .i64 d.out, .int .i64 d.states, .int .i64 d.start, v, u], vx] w fun e w' => e = .returned (.int .i64 (asksC d x)) ∧ Below w.heap.size w w' := by
  have HC := hid fun W (hW : Below w.heap.size w W) => Check_calls d v u W ((listR ruleR).below hv hW hW.size) ((listR finalR).below hu hW hW.size)
  have HF := hid fun W (hW : Below w.heap.size w W) => wFits_calls d.inn x vx W _ (wordR.below hx hW hW.size)
  obtain ⟨A1, c1, rfl, hc1, hm1⟩ := list_form hv
  obtain ⟨A2, c2, rfl, hc2, hm2⟩ := list_form hu
  obtain ⟨A3, c3, rfl, hc3, hm3⟩ := list_form hx
  unfold maxLen at hm1 hm2 hm3
  obtain ⟨ac, hac⟩ : ∃ ac, ac = asksC d x := ⟨_, rfl⟩
  rw [← hac]
  have hB0 : Below w.heap.size w (w.alloc (.cells #[.int .i64 d.inn, .int .i64 d.out, .int .i64 d.states, .int .i64 d.start, .slice A1 d.rules.length c1, .slice A2 d.finals.length c2] 26)) := (Below.refl _ w).alloc (Nat.le_refl _) _
  have HX0 := hid (heap_alloc_new w (.cells #[.int .i64 d.inn, .int .i64 d.out, .int .i64 d.states, .int .i64 d.start, .slice A1 d.rules.length c1, .slice A2 d.finals.length c2] 26))
  unfold asksC at hac
  by_cases c1 : (whereF d).1 = 0
  · simp only [if_pos c1] at HC hac
    by_cases c2 : x.length ≤ 1024
    · rw [if_pos c2] at hac
      have hlt : ¬ ((1024 : Int) < x.length) := by omega
      obtain ⟨ab, hab⟩ : ∃ ab, ab = x.all (hasB (domF d.inn)) := ⟨_, rfl⟩
      rw [← hab] at HF hac
      have HAC := hid hac
      have HB0 := hid hB0
      clear hv hu hx hac hab hB0 c1
      go_enter Tryz.func47, Tryz.ntmps47
      go_wp2_with fail
      refine (HC.out _ HB0.out).mono ?_
      rintro e w5 ⟨rfl, hB5⟩
      have hb5 := (hB5.block w.heap.size (by simp)).trans HX0.out
      have k0 := cell_of_row _ _ 0 _ _ _ hb5
      have HB5 := hid (HB0.out.trans (hB5.mono (by simp)))
      clear hB5 hb5
      go_wp2_with fail
      refine (HF.out _ HB5.out).mono ?_
      rintro e w6 ⟨rfl, rfl⟩
      cases ab with
      | true =>
        go_wp2_with fail
        go_ret
        exact ⟨by rw [HAC.out]; rfl, HB5.out⟩
      | false =>
        go_wp2_with fail
        go_ret
        exact ⟨by rw [HAC.out]; rfl, HB5.out⟩
    · rw [if_neg c2] at hac
      have hlt : (1024 : Int) < x.length := by omega
      have HAC := hid hac
      have HB0 := hid hB0
      clear hv hu hx hac hB0 c1 HF
      go_enter Tryz.func47, Tryz.ntmps47
      go_wp2_with fail
      refine (HC.out _ HB0.out).mono ?_
      rintro e w5 ⟨rfl, hB5⟩
      have HB5 := hid (HB0.out.trans (hB5.mono (by simp)))
      clear hB5
      go_wp2_with fail
      go_ret
      exact ⟨by rw [HAC.out]; rfl, HB5.out⟩
  · simp only [if_neg c1] at HC hac
    have HAC := hid hac
    have HB0 := hid hB0
    clear hv hu hx hac hB0 c1 HF
    go_enter Tryz.func47, Tryz.ntmps47
    go_wp2_with fail
    refine (HC.out _ HB0.out).mono ?_
    rintro e w5 ⟨rfl, hB5⟩
    have HB5 := hid (HB0.out.trans (hB5.mono (by simp)))
    clear hB5
    go_wp2_with fail
    go_ret
    exact ⟨by rw [HAC.out]; rfl, HB5.out⟩
theorem infoWW : (Tryz.prog.info? 33).map (fun i => (i.zero, i.size, i.bytes)) = some (some (.slice none 0 0), 1, 24) := by kernel_rfl
theorem tooMany_not {d : Desc} {x : List Int} {most : Nat} (h : ∀ (a : Nat) (s : Int), Reach d x a s → ∃ ls, WordsOf d x a s most ls) : ¬ TooMany d x most := by
  rintro ⟨a, s, ls, h1, h2, h3, h4⟩
  obtain ⟨ms, m1, _, m3⟩ := h a s h1
  have hnd : ls.Nodup := h3.imp fun {p q} hpq e => by rw [e, cmpW_refl] at hpq; omega
  have := hnd.length_le_of_subset fun y hy => (m1 y).2 (h2 y hy)
  omega
theorem all_dom {s : Int} {x : List Int} (h : x.all (hasB (domF s)) = true) : ∀ z ∈ x, 0 ≤ z ∧ z ≤ 1114111 := fun z hz => dom_bd ((hasB_iff _ _).1 (List.all_eq_true.1 h z hz))
set_option maxHeartbeats 4000000 in
set_option maxRecDepth 100000 in
theorem Outputs_calls (d : Desc) (x : List Int) (most : Int) (v u vx : Value) (w : World) (hv : (listR ruleR).rel w (upto w.heap.size) [v] d.rules) (hu : (listR finalR).rel w (upto w.heap.size) [u] d.finals) (hx : wordR.rel w (upto w.heap.size) [vx] x) (hmost : most ≤ 100000) :
    Calls Tryz.prog 17 #[.agg #[.int .i64 d.inn, .int .i64 d.out, .int .i64 d.states, .int .i64 d.start, v, u], vx, .int .i64 most] w (OutPost d x most w) := by
  have HC := hid fun W (hW : Below w.heap.size w W) => rcheck_calls d x v u vx W ((listR ruleR).below hv hW hW.size) ((listR finalR).below hu hW hW.size) (wordR.below hx hW hW.size)
  have HV := hid hv
  have HU := hid hu
  have HX := hid hx
  obtain ⟨A1, c1, rfl, hc1, hm1⟩ := list_form hv
  obtain ⟨A2, c2, rfl, hc2, hm2⟩ := list_form hu
  obtain ⟨A3, c3, rfl, hc3, hm3⟩ := list_form hx
  unfold maxLen at hm1 hm2 hm3
  clear hv hu hx
  obtain ⟨w0, hw0⟩ : ∃ w0, w0 = (w.alloc (.cells #[.int .i64 d.inn, .int .i64 d.out, .int .i64 d.states, .int .i64 d.start, .slice A1 d.rules.length c1, .slice A2 d.finals.length c2] 26)).alloc (.cells #[.int .i64 most] 3) := ⟨_, rfl⟩
  have hB0 : Below w.heap.size w w0 := by rw [hw0]; exact ((Below.refl _ w).alloc (Nat.le_refl _) _).alloc (by simp) _
  have hs0 : w0.heap.size = w.heap.size + 2 := by rw [hw0]; simp
  have hD0 : w0.heap[w.heap.size]? = some (.cells #[.int .i64 d.inn, .int .i64 d.out, .int .i64 d.states, .int .i64 d.start, .slice A1 d.rules.length c1, .slice A2 d.finals.length c2] 26) := by rw [hw0]; exact (Below.heap_alloc _ _ _ (by simp)).trans (heap_alloc_new _ _)
  have hK0 : w0.heap[w.heap.size + 1]? = some (.cells #[.int .i64 most] 3) := by
    rw [hw0, show w.heap.size + 1 = (w.alloc (.cells #[.int .i64 d.inn, .int .i64 d.out, .int .i64 d.states, .int .i64 d.start, .slice A1 d.rules.length c1, .slice A2 d.finals.length c2] 26)).heap.size by simp]
    exact heap_alloc_new _ _
  by_cases hc : asksC d x = 0
  · by_cases hml : most < 1
    · have hF : Hid (asksF d x most = 1) := hid (by unfold asksF; rw [if_pos hc, if_pos hml])
      rw [hc] at HC
      have HB0 := hid hB0
      have HK0 := hid hK0
      have hs0a : w.heap.size + 2 ≤ w0.heap.size := by omega
      have HW0 := hid hw0
      clear hc hB0 hD0 hK0 hw0 hs0
      go_enter Tryz.func17, Tryz.ntmps17
      go_wp2_with fail
      rw [← HW0.out]
      refine (HC.out _ HB0.out).mono ?_
      rintro e w5 ⟨rfl, hB5⟩
      have k1 := cell_of_row _ _ 0 _ _ _ ((hB5.block (w.heap.size + 1) (by omega)).trans HK0.out)
      have HB5 := hid (HB0.out.trans (hB5.mono (by omega)))
      clear hB5
      go_wp2_with fail
      go_ret2
      exact ⟨HB5.out, .inl ⟨by rw [hF.out]; decide, by rw [hF.out]; rfl⟩⟩
    · obtain ⟨m, rfl⟩ : ∃ m : Nat, most = m := ⟨most.toNat, by omega⟩
      have hF : Hid (asksF d x m = 0) := hid (by unfold asksF; rw [if_pos hc, if_neg hml])
      have hc2 := hc
      unfold asksC at hc2
      split at hc2
      case isFalse => cases hc2
      rename_i hwh
      split at hc2
      case isFalse => cases hc2
      rename_i hxl
      split at hc2
      case isFalse => cases hc2
      rename_i hdom
      clear hc2
      obtain ⟨n, hok, hn0, hn1, hl1, hl2, _, _⟩ := rule_ok hwh
      obtain ⟨ρ, hρ1, hρ2⟩ := rank_right hwh
      have hρ3 : ∀ t, ρ t ≤ n + 1 := fun t => by have := hρ1 t; have := hok.st; omega
      have hrl : ∀ (a : Nat) (s : Int) (y : List Int), a ≤ x.length → Run d x a s y → y.length ≤ 100000000 := fun a s y ha hr => by
        have p1 := run_len hok hn1 hρ3 hρ2 hr ha
        have p2 := hρ3 s
        have p3 : (x.length - a) * 1026 ≤ 1024 * 1026 := Nat.mul_le_mul_right _ (by omega)
        omega
      have HBG := hid fun W (hW : Below w.heap.size w W) => begin_calls d x n _ _ _ W ((listR ruleR).below HV.out hW hW.size) ((listR finalR).below HU.out hW hW.size) (wordR.below HX.out hW hW.size) hok hn1 hl1 hl2 hxl ρ hρ2
      rw [hc] at HC
      obtain ⟨st, hst⟩ : ∃ st : Nat, d.start = st := ⟨d.start.toNat, by have := hok.start; omega⟩
      have hstn : st < n := by have := hok.start; omega
      obtain ⟨M, hM⟩ : ∃ M, M = (x.length + 1) * n := ⟨_, rfl⟩
      have hMl : M ≤ 2000000 := by rw [hM]; exact Nat.le_trans (Nat.mul_le_mul (show x.length + 1 ≤ 1025 by omega) hn1) (by decide)
      have hMs : st < M := by
        have : 1 * n ≤ M := by rw [hM]; exact Nat.mul_le_mul_right _ (by omega)
        omega
      obtain ⟨inf, hi0, hz0, hz1, hz2⟩ := info_parts infoWW
      have hmk : ∀ W : World, (Instr.makeSlice 71 (.int .i64 M) (.int .i64 M)).run Tryz.prog W = .ok (.slice (some ⟨W.heap.size, 0, none⟩) M M) (W.alloc (.cells (madeCells #[.slice none 0 0] M) 33)) := fun W => run_make_row 71 33 inf _ Tryz.underlying71 hi0 hz0 hz1 rfl .i64 .i64 M (by rw [hz2]; omega) (by omega) W
      have HRL := hid hrl
      have HXS := hid (all_dom hdom)
      have HOK := hid hok
      have HB0 := hid hB0
      have HK0 := hid hK0
      have HD0 := hid hD0
      have hs0a : w.heap.size + 2 ≤ w0.heap.size := by omega
      have HW0 := hid hw0
      have HST := hid hst
      have HM := hid hM
      clear hc hwh hdom hB0 hD0 hK0 hw0 hs0 hok hρ1 hρ2 hρ3 hrl hM hst
      go_enter Tryz.func17, Tryz.ntmps17
      go_wp2_with fail
      rw [← HW0.out]
      refine (HC.out _ HB0.out).mono ?_
      rintro e w5 ⟨rfl, hB5⟩
      have hs5 := hB5.size
      have k1 := cell_of_row _ _ 0 _ _ _ ((hB5.block (w.heap.size + 1) (by omega)).trans HK0.out)
      have hd5 := (hB5.block w.heap.size (by omega)).trans HD0.out
      have d0 := cell_of_row _ _ 0 _ _ _ hd5
      have d1 := cell_of_row _ _ 1 _ _ _ hd5
      have d2 := cell_of_row _ _ 2 _ _ _ hd5
      have d3 := cell_of_row _ _ 3 _ _ _ hd5
      have d4 := cell_of_row _ _ 4 _ _ _ hd5
      have d5 := cell_of_row _ _ 5 _ _ _ hd5
      have HB5 := hid hB5
      have HB5w := hid (HB0.out.trans (hB5.mono (by omega)))
      clear hB5 hd5
      go_wp2_with fail
      refine (HBG.out _ HB5w.out).mono ?_
      rintro e w1 ⟨RB, LV, ord, rfl, hRB, hLV, hR, ho, hall, hm, hB1⟩
      clear k1 d0 d1 d2 d3 d4 d5
      have hs1 := hB1.size
      have hd1 := (hB1.block w.heap.size (by omega)).trans ((HB5.out.block w.heap.size (by omega)).trans HD0.out)
      have hk1 := (hB1.block (w.heap.size + 1) (by omega)).trans ((HB5.out.block (w.heap.size + 1) (by omega)).trans HK0.out)
      have hBw1 : Below w.heap.size w w1 := HB5w.out.trans (hB1.mono HB5w.out.size)
      obtain ⟨vr, vf, vx', R, F, vo, h1, _⟩ := id hR
      have r10 : ∀ o, (w1.alloc o).cell? ⟨RB, 10, none⟩ = some (.slice (some ⟨LV, 0, none⟩) M M) := fun o => (World.cell?_of_block (a := ⟨RB, 10, none⟩) (Below.heap_alloc _ _ _ (heapLtW h1))).trans (by rw [HM.out]; exact cell_of_row _ _ 10 _ _ _ h1)
      have HR := hid hR
      have HD1 := hid hd1
      have HK1 := hid hk1
      have HBw1 := hid hBw1
      have HOr := hid (And.intro ho (And.intro hm hall))
      have hRl := heapLtW h1
      clear hR ho hall hm hB1 h1 hd1 hk1 hBw1
      go_wp2_with fail
      obtain ⟨w2, hw2⟩ : ∃ w2, w2 = ((((w1.alloc (.cells #[.pointer (some ⟨RB, 0, none⟩)] 69)).alloc (.cells (madeCells #[.slice none 0 0] M) 33)).alloc (.cells #[.slice (some ⟨w1.heap.size + 1, 0, none⟩) M M] 71)).alloc (.cells #[.bool false] 4)) := ⟨_, rfl⟩
      rw [← hw2]
      have g2 : ∀ g, w2.heap[g]? = if g = w1.heap.size + 3 then some (.cells #[.bool false] 4) else if g = w1.heap.size + 2 then some (.cells #[.slice (some ⟨w1.heap.size + 1, 0, none⟩) M M] 71) else if g = w1.heap.size + 1 then some (.cells (madeCells #[.slice none 0 0] M) 33) else if g = w1.heap.size then some (.cells #[.pointer (some ⟨RB, 0, none⟩)] 69) else w1.heap[g]? := fun g => by
        rw [hw2]
        simp only [alloc_get, World.size_alloc, Nat.add_assoc, Nat.reduceAdd]
      have hs2 : w2.heap.size = w1.heap.size + 4 := by rw [hw2]; simp
      have hB2 : Below w1.heap.size w1 w2 := by rw [hw2]; exact ((((Below.refl _ w1).alloc (Nat.le_refl _) _).alloc (by simp) _).alloc (by simp; omega) _).alloc (by simp; omega) _
      have hsb2 : w2.rowIs (w1.heap.size + 1) 33 M (fun _ => .slice none 0 0) := by
        have := World.rowIs_made (w1.alloc (.cells #[.pointer (some ⟨RB, 0, none⟩)] 69)) (.slice none 0 0) M 33
        rw [World.size_alloc] at this
        refine this.of_block ?_
        rw [g2, if_neg (by omega), if_neg (by omega), if_pos rfl, alloc_get, World.size_alloc, if_pos rfl]
      have hE : OutE w1 d n m w.heap.size (w.heap.size + 1) w1.heap.size (w1.heap.size + 2) (w1.heap.size + 3) (w1.heap.size + 1) (w1.heap.size + 4) (.slice A1 d.rules.length c1) (.slice A2 d.finals.length c2) :=
        ⟨by rw [← HOK.out.st]; exact HD1.out, HK1.out, (listR ruleR).below HV.out HBw1.out HBw1.out.size, (listR finalR).below HU.out HBw1.out HBw1.out.size, by omega, by omega, by omega, by omega, by omega⟩
      have h0 : OutI w1 RB LV d x n ord m w1.heap.size (w1.heap.size + 2) (w1.heap.size + 3) (w1.heap.size + 1) (w1.heap.size + 4) x.length 0 w2 := by
        refine ⟨hB2, by omega, by rw [g2, if_neg (by omega), if_neg (by omega), if_neg (by omega), if_pos rfl], by rw [g2, if_neg (by omega), if_pos rfl, ← HM.out], fun _ => .slice none 0 0, fun _ => [], false, by rw [g2, if_pos rfl], by rw [← HM.out]; exact hsb2, fun h => (by cases h), fun _ a' s' _ ha' hdn => ?_⟩
        rcases hdn with h | ⟨_, h⟩
        · omega
        · simp at h
      have hT : Told Tryz.prog 50 #[.pointer (some ⟨w1.heap.size + 3, 0, none⟩), .pointer (some ⟨w1.heap.size, 0, none⟩), .pointer (some ⟨w.heap.size, 0, none⟩), .pointer (some ⟨w1.heap.size + 2, 0, none⟩), .pointer (some ⟨w.heap.size + 1, 0, none⟩)] w1 ord n x.length (liveF d x n ord (x.length + 1)) (OutI w1 RB LV d x n ord m w1.heap.size (w1.heap.size + 2) (w1.heap.size + 3) (w1.heap.size + 1) (w1.heap.size + 4)) := by
        refine ⟨fun a q w h => h.1, fun a q w h => ?_, fun a q s w hI ha hq hs hl => tell_calls w1 RB LV d x n ord m _ _ _ _ _ _ _ _ _ HR.out hE HOK.out hn1 hl1 hl2 hxl HXS.out ⟨by omega, by omega⟩ HOr.out.1 HOr.out.2.1 HOr.out.2.2 HRL.out a q s w hI ha hq hs hl, fun a q s w h ha hq hs hl => ?_, fun a w h => ?_⟩
        · obtain ⟨p1, p2, p3, p4, f, W, many, p5, p6, p7, p8⟩ := h
          exact ⟨p1.drew, p2, p3, p4, f, W, many, p5, p6, p7, fun q1 a' s' q2 q3 q4 q5 => ⟨(listR nwordR).mono (fun _ _ => rfl) (fun _ h => h) (p8 q1 a' s' q2 q3 q4 q5).1, (p8 q1 a' s' q2 q3 q4 q5).2⟩⟩
        · obtain ⟨p1, p2, p3, p4, f, W, many, p5, p6, p7, p8⟩ := h
          refine ⟨p1, p2, p3, p4, f, W, many, p5, p6, p7, fun q1 a' s' q2 q3 q4 q5 => p8 q1 a' s' q2 q3 ?_ q5⟩
          rcases q4 with h2 | ⟨h2, h3⟩
          · exact .inl h2
          · rw [List.take_add_one, hq] at h3
            rcases List.mem_append.1 h3 with h4 | h4
            · exact .inr ⟨h2, h4⟩
            · simp at h4
              exfalso
              have h5 : s' = s := by omega
              rw [h2, h5] at q5
              rw [hl] at q5
              cases q5
        · obtain ⟨p1, p2, p3, p4, f, W, many, p5, p6, p7, p8⟩ := h
          refine ⟨p1, p2, p3, p4, f, W, many, p5, p6, p7, fun q1 a' s' q2 q3 q4 q5 => p8 q1 a' s' q2 q3 ?_ q5⟩
          rcases q4 with h2 | ⟨_, h3⟩
          · by_cases e : a' = a + 1
            · exact .inr ⟨e, by rw [List.take_length]; exact HOr.out.2.2 s' q2⟩
            · exact .inl (by omega)
          · simp at h3
      have hback := back_calls RB LV d x n ord 50 _ _ _ _ _ w1 w2 HR.out hn1 hxl HOr.out.2.1 _ hT h0 (fun args w => enters_of Tryz.func50 (by kernel_rfl) rfl args w)
      have HBK := hid hback
      clear hback hT h0 hE hsb2 hB2 g2 hw2 r10 hmk
      refine HBK.out.mono ?_
      rintro e w3 ⟨rfl, p1, p2, p3, p4, f, W, many, p5, p6, p7, p8⟩
      have cMB := cell_of_row _ _ 0 _ _ _ p5
      have hBf : Below w.heap.size w w3 := HBw1.out.trans (p1.mono HBw1.out.size)
      cases many with
      | true =>
        have hTM := p7 rfl
        have HBf := hid hBf
        clear p1 p3 p4 p5 p6 p7 p8 hBf
        go_wp2_with fail
        go_ret2
        exact ⟨HBf.out, .inr (.inl ⟨hF.out, rfl, hTM⟩)⟩
      | false =>
        have hreach : ∀ (a : Nat) (s : Int), Reach d x a s → ∃ ls, WordsOf d x a s m ls := fun a s hr => by
          obtain ⟨r1, r2, r3⟩ := reach_in HOK.out hr
          obtain ⟨k, rfl⟩ : ∃ k : Nat, s = k := ⟨s.toNat, by omega⟩
          refine ⟨_, (p8 rfl a k (by omega) r1 ?_ ((live_iff HOK.out HOr.out.1 HOr.out.2.1 HOr.out.2.2 (by omega)).2 hr)).2⟩
          by_cases e : a = 0
          · exact .inr ⟨e, by rw [List.take_length]; exact HOr.out.2.2 k (by omega)⟩
          · exact .inl (by omega)
        have hnt := tooMany_not hreach
        obtain ⟨hw, hws⟩ := p8 rfl 0 st hstn (by omega) (.inr ⟨rfl, by rw [List.take_length]; exact HOr.out.2.2 st hstn⟩) ((live_iff HOK.out HOr.out.1 HOr.out.2.1 HOr.out.2.2 hstn).2 (HST.out ▸ Reach.start))
        rw [Nat.zero_mul, Nat.zero_add] at hw hws
        obtain ⟨A9, c9, hfe, _, hm9⟩ := list_form hw
        unfold maxLen at hm9
        rw [← HM.out] at p4 p6
        have z1 := cell_of_row _ _ 0 _ _ _ p4
        have hd3 := (p1.block w.heap.size (by omega)).trans HD1.out
        have z2 := cell_of_row _ _ 3 _ _ _ hd3
        rw [HST.out] at z2
        have z3 := p6.cell hMs
        rw [hfe] at z3 hw
        have hMs' : (st : Int) < M := by omega
        have HFn : Hid (OutPost d x m w (.returned (.tuple #[.slice A9 (W st).length c9, .int .i64 0])) w3) := hid ⟨hBf, .inr (.inr ⟨hF.out, hnt, _, W st, rfl, (listR nwordR).mono (fun _ _ => rfl) (fun b hb => ⟨by have := hb.1; omega, hb.2⟩) hw, by rw [HST.out]; exact hws⟩)⟩
        clear p1 p3 p4 p5 p6 p7 p8 hBf hreach hnt hw hws hfe hd3
        go_wp2_with fail
        go_ret2
        exact HFn.out
  · have hF : Hid (asksF d x most = asksC d x) := hid (by unfold asksF; rw [if_neg hc])
    have hb : (asksC d x == 0) = false := beq_f hc
    have HB0 := hid hB0
    have hs0a : w.heap.size + 2 ≤ w0.heap.size := by omega
    have HW0 := hid hw0
    obtain ⟨ac, hac⟩ : ∃ ac, ac = asksC d x := ⟨_, rfl⟩
    rw [← hac] at HC hF hb hc
    clear hB0 hD0 hK0 hw0 hs0 hac
    go_enter Tryz.func17, Tryz.ntmps17
    go_wp2_with fail
    rw [← HW0.out]
    refine (HC.out _ HB0.out).mono ?_
    rintro e w5 ⟨rfl, hB5⟩
    have HB5 := hid (HB0.out.trans (hB5.mono (by omega)))
    clear hB5
    go_wp2_with fail
    go_ret2
    exact ⟨HB5.out, .inl ⟨by rw [hF.out]; exact hc, by rw [hF.out]; rfl⟩⟩
end Go.Proofs.YtmkmikacfilbpaaGreat
