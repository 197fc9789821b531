/-
  The program's desc.writes, desc.rule and desc.head, for any description. The program's desc.rule and desc.head, for any description.
-/
import Derived.Test.YtmkmikacfilbpaaGreatKFitsW
namespace Go.Proofs.YtmkmikacfilbpaaGreat
open Go.Proofs Go.Um Go.RowKit
theorem guardOk_iff {s : Int} {g : List Span} : guardOk s g = true ↔ g ≠ [] ∧ g.length ≤ 64 ∧ plain g = true ∧ minusF g (domF s) = [] := by
  unfold guardOk
  cases hg : plain g <;> simp [and_assoc, List.isEmpty_iff]
theorem domF_sym {s z : Int} (h : inSet (domF s) z) : 0 ≤ z ∧ z ≤ 1114111 := by
  unfold domF at h
  split at h
  · simp [inSet, mem] at h; omega
  · split at h
    · simp [inSet, mem] at h; omega
    · exact absurd h.2 mem_nil
theorem guardsF_iff {s : Int} {gs : List (List Span)} : guardsF s gs = true ↔ gs.length ≤ 4 ∧ ∀ g ∈ gs, guardOk s g = true := by
  unfold guardsF
  split
  · constructor
    · intro h; cases h
    · rintro ⟨h, _⟩; omega
  · rw [List.all_eq_true]
    constructor
    · intro h; exact ⟨by omega, h⟩
    · exact fun h => h.2
theorem guardsF_good {s : Int} {gs : List (List Span)} (h : guardsF s gs = true) : goodG gs ∧ ∀ g ∈ gs, g.length ≤ 90000 := by
  obtain ⟨h1, h2⟩ := guardsF_iff.1 h
  refine ⟨⟨h1, fun g hg => ?_⟩, fun g hg => ?_⟩
  · obtain ⟨g1, g2, g3, g4⟩ := guardOk_iff.1 (h2 g hg)
    refine ⟨g3, fun z hz => domF_sym (minusF_nil.1 g4 z ((inSet_plain g3).2 hz)), g1⟩
  · have := (guardOk_iff.1 (h2 g hg)).2.1
    omega
def writesF (inn out : Int) (ts : List Term) (gs : List (List Span)) : Bool := decide (ts.length ≤ 64) && ts.all fun t => fitsF t inn out gs
set_option maxHeartbeats 1000000 in
set_option maxRecDepth 100000 in
theorem writes_calls (inn out a3 a4 : Int) (r f tv gv : Value) (ts : List Term) (gs : List (List Span)) (w : World) (ht : (listR termR).rel w (upto w.heap.size) [tv] ts) (hs : (listR spansR).rel w (upto w.heap.size) [gv] gs) (hg : goodG gs) (hgl : ∀ g ∈ gs, g.length ≤ 90000) :
    Calls Tryz.prog 109 #[.agg #[.int .i64 inn, .int .i64 out, .int .i64 a3, .int .i64 a4, r, f], tv, gv] w fun e w' => e = .returned (.bool (writesF inn out ts gs)) ∧ Below w.heap.size w w' := by
  obtain ⟨A, c, rfl, hc, hm⟩ := list_form ht
  obtain ⟨A2, c2, rfl, hc2, hm2⟩ := list_form hs
  unfold maxLen at hm hm2
  have HF : Hid (writesF inn out ts gs = (decide (ts.length ≤ 64) && ts.all fun t => fitsF t inn out gs)) := hid rfl
  by_cases h64 : 64 < ts.length
  · have h64' : (64 : Int) < ts.length := by omega
    have hF : Hid (writesF inn out ts gs = false) := hid (by rw [HF.out, decide_eq_false (by omega)]; rfl)
    clear h64 ht hs
    go_enter Tryz.func109, Tryz.ntmps109
    go_wp2_with fail
    go_ret
    exact ⟨by rw [hF.out]; rfl, (Below.refl _ _).alloc (Nat.le_refl _) _⟩
  · have h64' : ¬ (64 : Int) < ts.length := by omega
    have hF : Hid (writesF inn out ts gs = ts.all fun t => fitsF t inn out gs) := hid (by rw [HF.out, decide_eq_true (by omega)]; rfl)
    have hbx := heap_alloc_new w (.cells #[.int .i64 inn, .int .i64 out, .int .i64 a3, .int .i64 a4, r, f] 26)
    have hB0 := (Below.refl w.heap.size w).alloc (Nat.le_refl _) (.cells #[.int .i64 inn, .int .i64 out, .int .i64 a3, .int .i64 a4, r, f] 26)
    clear h64 HF
    go_enter Tryz.func109, Tryz.ntmps109
    go_wp2_with fail
    generalize w.alloc (.cells #[.int .i64 inn, .int .i64 out, .int .i64 a3, .int .i64 a4, r, f] 26) = w0 at *
    go_loopw [14] (fun vi wr => ∃ k : Nat, k ≤ ts.length ∧ vi = .int .i64 k ∧ Hid ((ts.drop k).all (fun t => fitsF t inn out gs) = ts.all fun t => fitsF t inn out gs) ∧ Below w0.heap.size w0 wr) (fun vi _ => ts.length - (intOf vi).toNat)
    case atStart => exact ⟨0, Nat.zero_le _, rfl, hid rfl, Below.refl _ _⟩
    case round =>
      obtain ⟨k, hk, rfl, HP, hB⟩ := hrel
      obtain ⟨wo, hwo⟩ : ∃ wo, wo = wr := ⟨_, rfl⟩
      subst hwo
      have hBw : Below w.heap.size w wo := hB0.trans (hB.mono hB0.size)
      by_cases hlt : k < ts.length
      · obtain ⟨t, hx⟩ := at_lt hlt
        have hlt' : (k : Int) < ts.length := by omega
        have hrw := (listR termR).mono (below_cells hBw) (fun _ h => h) ht
        obtain ⟨tb, to, pv, rfl, hbS, t0, t1, t2, t3, t4, t5, hi64, hpr⟩ := term_at hrw hx
        obtain ⟨A3, c3, rfl, hc3, hm3⟩ := list_form hpr
        have hbs : tb < wo.heap.size := Nat.lt_of_lt_of_le hbS hBw.size
        have HFit := hid fun W (hW : Below wo.heap.size wo W) => Fits_calls t (.slice A3 t.parts.length c3) (.slice A2 gs.length c2) inn out gs W ((listR partR).mono (fun p hp => hW.cell (Nat.lt_of_lt_of_le hp hBw.size)) (fun b hb => Nat.lt_of_lt_of_le hb (Nat.le_trans hBw.size hW.size)) hpr) ((listR spansR).below hs (hBw.trans (hW.mono hBw.size)) (Nat.le_trans hBw.size hW.size)) hg hgl
        have HP2 : Hid ((fitsF t inn out gs && (ts.drop (k + 1)).all (fun t => fitsF t inn out gs)) = ts.all fun t => fitsF t inn out gs) := hid (by have := HP.out; rw [drop_cons hx] at this; exact this)
        have hbo := (hB.block w.heap.size (heap_lt hbx)).trans hbx
        have d0 := cell_of_row _ _ 0 _ _ _ hbo
        have d1 := cell_of_row _ _ 1 _ _ _ hbo
        have hwl := heap_lt hbo
        simp at d0 d1
        have d0' : ∀ o1, (wo.alloc o1).cell? ⟨w.heap.size, 0, none⟩ = some (.int .i64 inn) := fun o1 => (((Below.refl wo.heap.size wo).alloc (Nat.le_refl _) o1).cell (p := ⟨w.heap.size, 0, none⟩) hwl).trans d0
        have d1' : ∀ o1, (wo.alloc o1).cell? ⟨w.heap.size, 1, none⟩ = some (.int .i64 out) := fun o1 => (((Below.refl wo.heap.size wo).alloc (Nat.le_refl _) o1).cell (p := ⟨w.heap.size, 1, none⟩) hwl).trans d1
        unfold tval at HFit
        clear hx hrw hpr HP hbo
        cases hfit : fitsF t inn out gs
        · rw [hfit] at HFit HP2
          clear hfit
          go_wp2_with fail
          refine (HFit.out _ ((Below.refl _ wo).alloc (Nat.le_refl _) _)).mono ?_
          rintro e w3 ⟨rfl, hB3⟩
          go_wp2_with fail
          go_ret
          exact ⟨by rw [hF.out, ← HP2.out]; rfl, (hBw.alloc hBw.size _).trans (hB3.mono (by simp; have := hBw.size; omega))⟩
        · rw [hfit] at HFit HP2
          clear hfit
          go_wp2_with fail
          refine (HFit.out _ ((Below.refl _ wo).alloc (Nat.le_refl _) _)).mono ?_
          rintro e w3 ⟨rfl, hB3⟩
          go_wp2_with fail
          refine ⟨⟨k + 1, by omega, by push_cast; rfl, hid (by rw [← HP2.out]; rfl), (hB.alloc hB.size _).trans (hB3.mono (by simp; have := hB.size; omega))⟩, ?_⟩
          simp [intOf]; omega
      · obtain rfl : k = ts.length := by omega
        have HP2 : Hid (true = ts.all fun t => fitsF t inn out gs) := hid (by rw [← HP.out, List.drop_length]; rfl)
        clear HP
        go_wp2_with fail
        go_ret
        exact ⟨by rw [hF.out, ← HP2.out]; rfl, hBw⟩
end Go.Proofs.YtmkmikacfilbpaaGreat
namespace Go.Proofs.YtmkmikacfilbpaaGreat
open Go.Proofs Go.Um Go.RowKit
/-- is a rule right? -/
def eatF (n : Nat) (e : Int) : Bool := decide ((if n = 0 then (0 : Int) else 1) ≤ e) && decide (e ≤ n)
def ruleF (d : Desc) (r : Rule) : Bool := stateF d.states r.src && stateF d.states r.dst && guardsF d.inn r.guards && eatF r.guards.length r.eat && writesF d.inn d.out r.out r.guards
def headF (d : Desc) : Bool := sortF d.inn && sortF d.out && decide (1 ≤ d.states) && decide (d.states ≤ 1024) && stateF d.states d.start && decide (d.rules.length ≤ 4096) && decide (d.finals.length ≤ 4096)
set_option maxHeartbeats 1000000 in
set_option maxRecDepth 100000 in
theorem rule_calls (d : Desc) (r : Rule) (v u g t : Value) (w : World) (hv : (listR ruleR).rel w (upto w.heap.size) [v] d.rules) (hu : (listR finalR).rel w (upto w.heap.size) [u] d.finals)
    (hg : (listR spansR).rel w (upto w.heap.size) [g] r.guards) (ht : (listR termR).rel w (upto w.heap.size) [t] r.out) :
    Calls Tryz.prog 106 #[.agg #[.int .i64 d.inn, .int .i64 d.out, .int .i64 d.states, .int .i64 d.start, v, u], .agg #[.int .i64 r.src, .int .i64 r.dst, g, .int .i64 r.eat, t]] w fun e w' => e = .returned (.bool (ruleF d r)) ∧ Below w.heap.size w w' := by
  obtain ⟨A1, c1, rfl, hc1, hm1⟩ := list_form hv
  obtain ⟨A2, c2, rfl, hc2, hm2⟩ := list_form hu
  obtain ⟨A3, c3, rfl, hc3, hm3⟩ := list_form hg
  obtain ⟨A4, c4, rfl, hc4, hm4⟩ := list_form ht
  have hs1 := hid fun W => state_calls d.inn d.out d.states d.start (.slice A1 d.rules.length c1) (.slice A2 d.finals.length c2) r.src W
  have hs2 := hid fun W => state_calls d.inn d.out d.states d.start (.slice A1 d.rules.length c1) (.slice A2 d.finals.length c2) r.dst W
  have hgd := hid fun W (hW : Below w.heap.size w W) => guards_calls d.inn r.guards _ W ((listR spansR).mono (below_cells hW) (fun b hb => Nat.lt_of_lt_of_le hb hW.size) hg)
  have HF : Hid (ruleF d r = (stateF d.states r.src && stateF d.states r.dst && guardsF d.inn r.guards && eatF r.guards.length r.eat && writesF d.inn d.out r.out r.guards)) := hid rfl
  cases k1 : stateF d.states r.src
  · rw [k1] at hs1 HF
    clear k1
    have hF : Hid (ruleF d r = false) := hid (by rw [HF.out]; rfl)
    clear hs2 hgd hv hu hg ht HF
    go_enter Tryz.func106, Tryz.ntmps106
    go_wp2_with fail
    refine ((hs1.out _)).mono ?_
    rintro e w1 ⟨rfl, hB1⟩
    have hC1 : Below (w.heap.size + 2) ((w.alloc (.cells #[.int .i64 d.inn, .int .i64 d.out, .int .i64 d.states, .int .i64 d.start, .slice A1 d.rules.length c1, .slice A2 d.finals.length c2] 26)).alloc (.cells #[.int .i64 r.src, .int .i64 r.dst, .slice A3 r.guards.length c3, .int .i64 r.eat, .slice A4 r.out.length c4] 56)) w1 := low hB1 (by simp)
    obtain ⟨⟨p0, p1, p2, p3, p4, p5⟩, ⟨r0, r1, r2, r3, r4⟩⟩ := box65 hC1
    go_wp2_with fail
    go_ret
    exact ⟨by rw [hF.out]; rfl, (((Below.refl w.heap.size w).alloc (Nat.le_refl _) _).alloc (by simp) _).trans (low hC1 (by omega))⟩

  rw [k1] at hs1 HF
  cases k2 : stateF d.states r.dst
  · rw [k2] at hs2 HF
    clear k1 k2
    have hF : Hid (ruleF d r = false) := hid (by rw [HF.out]; rfl)
    clear hgd hv hu hg ht HF
    go_enter Tryz.func106, Tryz.ntmps106
    go_wp2_with fail
    refine ((hs1.out _)).mono ?_
    rintro e w1 ⟨rfl, hB1⟩
    have hC1 : Below (w.heap.size + 2) ((w.alloc (.cells #[.int .i64 d.inn, .int .i64 d.out, .int .i64 d.states, .int .i64 d.start, .slice A1 d.rules.length c1, .slice A2 d.finals.length c2] 26)).alloc (.cells #[.int .i64 r.src, .int .i64 r.dst, .slice A3 r.guards.length c3, .int .i64 r.eat, .slice A4 r.out.length c4] 56)) w1 := low hB1 (by simp)
    obtain ⟨⟨p0, p1, p2, p3, p4, p5⟩, ⟨r0, r1, r2, r3, r4⟩⟩ := box65 hC1
    go_wp2_with fail
    refine ((hs2.out _)).mono ?_
    rintro e w2 ⟨rfl, hB2⟩
    have hz2 := hC1.size
    simp at hz2
    have hC2 := hC1.trans (low hB2 hz2)
    clear p0 p1 p2 p3 p4 p5 r0 r1 r2 r3 r4
    obtain ⟨⟨p0, p1, p2, p3, p4, p5⟩, ⟨r0, r1, r2, r3, r4⟩⟩ := box65 hC2
    go_wp2_with fail
    go_ret
    exact ⟨by rw [hF.out]; rfl, (((Below.refl w.heap.size w).alloc (Nat.le_refl _) _).alloc (by simp) _).trans (low hC2 (by omega))⟩

  rw [k2] at hs2 HF
  cases k3 : guardsF d.inn r.guards
  · rw [k3] at hgd HF
    clear k1 k2 k3
    have hF : Hid (ruleF d r = false) := hid (by rw [HF.out]; rfl)
    clear hv hu hg ht HF
    go_enter Tryz.func106, Tryz.ntmps106
    go_wp2_with fail
    refine ((hs1.out _)).mono ?_
    rintro e w1 ⟨rfl, hB1⟩
    have hC1 : Below (w.heap.size + 2) ((w.alloc (.cells #[.int .i64 d.inn, .int .i64 d.out, .int .i64 d.states, .int .i64 d.start, .slice A1 d.rules.length c1, .slice A2 d.finals.length c2] 26)).alloc (.cells #[.int .i64 r.src, .int .i64 r.dst, .slice A3 r.guards.length c3, .int .i64 r.eat, .slice A4 r.out.length c4] 56)) w1 := low hB1 (by simp)
    obtain ⟨⟨p0, p1, p2, p3, p4, p5⟩, ⟨r0, r1, r2, r3, r4⟩⟩ := box65 hC1
    go_wp2_with fail
    refine ((hs2.out _)).mono ?_
    rintro e w2 ⟨rfl, hB2⟩
    have hz2 := hC1.size
    simp at hz2
    have hC2 := hC1.trans (low hB2 hz2)
    clear p0 p1 p2 p3 p4 p5 r0 r1 r2 r3 r4
    obtain ⟨⟨p0, p1, p2, p3, p4, p5⟩, ⟨r0, r1, r2, r3, r4⟩⟩ := box65 hC2
    go_wp2_with fail
    refine ((hgd.out _ ((((Below.refl w.heap.size w).alloc (Nat.le_refl _) _).alloc (by simp) _).trans (low hC2 (by omega))))).mono ?_
    rintro e w3 ⟨rfl, hB3⟩
    have hz3 := hC2.size
    simp at hz3
    have hC3 := hC2.trans (low hB3 hz3)
    clear p0 p1 p2 p3 p4 p5 r0 r1 r2 r3 r4
    obtain ⟨⟨p0, p1, p2, p3, p4, p5⟩, ⟨r0, r1, r2, r3, r4⟩⟩ := box65 hC3
    go_wp2_with fail
    go_ret
    exact ⟨by rw [hF.out]; rfl, (((Below.refl w.heap.size w).alloc (Nat.le_refl _) _).alloc (by simp) _).trans (low hC3 (by omega))⟩

  have hgood := guardsF_good k3
  rw [k3] at hgd HF
  have HW := hid fun W (hW : Below w.heap.size w W) => writes_calls d.inn d.out d.states d.start (.slice A1 d.rules.length c1) (.slice A2 d.finals.length c2) (.slice A4 r.out.length c4) (.slice A3 r.guards.length c3) r.out r.guards W ((listR termR).mono (below_cells hW) (fun b hb => Nat.lt_of_lt_of_le hb hW.size) ht) ((listR spansR).mono (below_cells hW) (fun b hb => Nat.lt_of_lt_of_le hb hW.size) hg) hgood.1 hgood.2
  clear k1 k2 k3 hgood
  obtain ⟨lo, hlo'⟩ : ∃ lo : Int, lo = if r.guards.length = 0 then (0 : Int) else 1 := ⟨_, rfl⟩
  have hmin : min (r.guards.length : Int) 1 = lo := by rw [hlo']; split <;> omega
  by_cases e1 : r.eat < lo
  · have hF : Hid (ruleF d r = false) := hid (by rw [HF.out, show eatF r.guards.length r.eat = false by unfold eatF; rw [← hlo', decide_eq_false (by omega)]; rfl]; rfl)
    clear hv hu hg ht HF HW hlo'
    go_enter Tryz.func106, Tryz.ntmps106
    go_wp2_with fail
    refine ((hs1.out _)).mono ?_
    rintro e w1 ⟨rfl, hB1⟩
    have hC1 : Below (w.heap.size + 2) ((w.alloc (.cells #[.int .i64 d.inn, .int .i64 d.out, .int .i64 d.states, .int .i64 d.start, .slice A1 d.rules.length c1, .slice A2 d.finals.length c2] 26)).alloc (.cells #[.int .i64 r.src, .int .i64 r.dst, .slice A3 r.guards.length c3, .int .i64 r.eat, .slice A4 r.out.length c4] 56)) w1 := low hB1 (by simp)
    obtain ⟨⟨p0, p1, p2, p3, p4, p5⟩, ⟨r0, r1, r2, r3, r4⟩⟩ := box65 hC1
    go_wp2_with fail
    refine ((hs2.out _)).mono ?_
    rintro e w2 ⟨rfl, hB2⟩
    have hz2 := hC1.size
    simp at hz2
    have hC2 := hC1.trans (low hB2 hz2)
    clear p0 p1 p2 p3 p4 p5 r0 r1 r2 r3 r4
    obtain ⟨⟨p0, p1, p2, p3, p4, p5⟩, ⟨r0, r1, r2, r3, r4⟩⟩ := box65 hC2
    go_wp2_with fail
    refine ((hgd.out _ ((((Below.refl w.heap.size w).alloc (Nat.le_refl _) _).alloc (by simp) _).trans (low hC2 (by omega))))).mono ?_
    rintro e w3 ⟨rfl, hB3⟩
    have hz3 := hC2.size
    simp at hz3
    have hC3 := hC2.trans (low hB3 hz3)
    clear p0 p1 p2 p3 p4 p5 r0 r1 r2 r3 r4
    obtain ⟨⟨p0, p1, p2, p3, p4, p5⟩, ⟨r0, r1, r2, r3, r4⟩⟩ := box65 hC3
    go_wp2_with fail
    go_ret
    exact ⟨by rw [hF.out]; rfl, (((Below.refl w.heap.size w).alloc (Nat.le_refl _) _).alloc (by simp) _).trans (low hC3 (by omega))⟩
  by_cases e2 : r.eat ≤ r.guards.length
  · have e3 : ¬ (r.guards.length : Int) < r.eat := by omega
    have hF : Hid (ruleF d r = writesF d.inn d.out r.out r.guards) := hid (by rw [HF.out, show eatF r.guards.length r.eat = true by unfold eatF; rw [← hlo', decide_eq_true (by omega), decide_eq_true e2]; rfl]; rfl)
    clear hv hu hg ht HF hlo'
    go_enter Tryz.func106, Tryz.ntmps106
    go_wp2_with fail
    refine ((hs1.out _)).mono ?_
    rintro e w1 ⟨rfl, hB1⟩
    have hC1 : Below (w.heap.size + 2) ((w.alloc (.cells #[.int .i64 d.inn, .int .i64 d.out, .int .i64 d.states, .int .i64 d.start, .slice A1 d.rules.length c1, .slice A2 d.finals.length c2] 26)).alloc (.cells #[.int .i64 r.src, .int .i64 r.dst, .slice A3 r.guards.length c3, .int .i64 r.eat, .slice A4 r.out.length c4] 56)) w1 := low hB1 (by simp)
    obtain ⟨⟨p0, p1, p2, p3, p4, p5⟩, ⟨r0, r1, r2, r3, r4⟩⟩ := box65 hC1
    go_wp2_with fail
    refine ((hs2.out _)).mono ?_
    rintro e w2 ⟨rfl, hB2⟩
    have hz2 := hC1.size
    simp at hz2
    have hC2 := hC1.trans (low hB2 hz2)
    clear p0 p1 p2 p3 p4 p5 r0 r1 r2 r3 r4
    obtain ⟨⟨p0, p1, p2, p3, p4, p5⟩, ⟨r0, r1, r2, r3, r4⟩⟩ := box65 hC2
    go_wp2_with fail
    refine ((hgd.out _ ((((Below.refl w.heap.size w).alloc (Nat.le_refl _) _).alloc (by simp) _).trans (low hC2 (by omega))))).mono ?_
    rintro e w3 ⟨rfl, hB3⟩
    have hz3 := hC2.size
    simp at hz3
    have hC3 := hC2.trans (low hB3 hz3)
    clear p0 p1 p2 p3 p4 p5 r0 r1 r2 r3 r4
    obtain ⟨⟨p0, p1, p2, p3, p4, p5⟩, ⟨r0, r1, r2, r3, r4⟩⟩ := box65 hC3
    go_wp2_with fail
    refine ((HW.out _ ((((Below.refl w.heap.size w).alloc (Nat.le_refl _) _).alloc (by simp) _).trans (low hC3 (by omega))))).mono ?_
    rintro e w4 ⟨rfl, hB4⟩
    have hz4 := hC3.size
    simp at hz4
    have hC4 := hC3.trans (low hB4 hz4)
    clear p0 p1 p2 p3 p4 p5 r0 r1 r2 r3 r4
    obtain ⟨⟨p0, p1, p2, p3, p4, p5⟩, ⟨r0, r1, r2, r3, r4⟩⟩ := box65 hC4
    go_wp2_with fail
    go_ret
    exact ⟨by rw [hF.out]; rfl, (((Below.refl w.heap.size w).alloc (Nat.le_refl _) _).alloc (by simp) _).trans (low hC4 (by omega))⟩
  · have e3 : (r.guards.length : Int) < r.eat := by omega
    have hF : Hid (ruleF d r = false) := hid (by rw [HF.out, show eatF r.guards.length r.eat = false by unfold eatF; rw [decide_eq_false e2]; simp]; rfl)
    clear hv hu hg ht HF HW hlo'
    go_enter Tryz.func106, Tryz.ntmps106
    go_wp2_with fail
    refine ((hs1.out _)).mono ?_
    rintro e w1 ⟨rfl, hB1⟩
    have hC1 : Below (w.heap.size + 2) ((w.alloc (.cells #[.int .i64 d.inn, .int .i64 d.out, .int .i64 d.states, .int .i64 d.start, .slice A1 d.rules.length c1, .slice A2 d.finals.length c2] 26)).alloc (.cells #[.int .i64 r.src, .int .i64 r.dst, .slice A3 r.guards.length c3, .int .i64 r.eat, .slice A4 r.out.length c4] 56)) w1 := low hB1 (by simp)
    obtain ⟨⟨p0, p1, p2, p3, p4, p5⟩, ⟨r0, r1, r2, r3, r4⟩⟩ := box65 hC1
    go_wp2_with fail
    refine ((hs2.out _)).mono ?_
    rintro e w2 ⟨rfl, hB2⟩
    have hz2 := hC1.size
    simp at hz2
    have hC2 := hC1.trans (low hB2 hz2)
    clear p0 p1 p2 p3 p4 p5 r0 r1 r2 r3 r4
    obtain ⟨⟨p0, p1, p2, p3, p4, p5⟩, ⟨r0, r1, r2, r3, r4⟩⟩ := box65 hC2
    go_wp2_with fail
    refine ((hgd.out _ ((((Below.refl w.heap.size w).alloc (Nat.le_refl _) _).alloc (by simp) _).trans (low hC2 (by omega))))).mono ?_
    rintro e w3 ⟨rfl, hB3⟩
    have hz3 := hC2.size
    simp at hz3
    have hC3 := hC2.trans (low hB3 hz3)
    clear p0 p1 p2 p3 p4 p5 r0 r1 r2 r3 r4
    obtain ⟨⟨p0, p1, p2, p3, p4, p5⟩, ⟨r0, r1, r2, r3, r4⟩⟩ := box65 hC3
    go_wp2_with fail
    go_ret
    exact ⟨by rw [hF.out]; rfl, (((Below.refl w.heap.size w).alloc (Nat.le_refl _) _).alloc (by simp) _).trans (low hC3 (by omega))⟩
end Go.Proofs.YtmkmikacfilbpaaGreat
