/-
  The program's desc.Where, desc.Check and sole.Sole, for any description.
-/
import Derived.Test.YtmkmikacfilbpaaGreatKCycW
namespace Go.Proofs.YtmkmikacfilbpaaGreat
open Go.Proofs Go.Um Go.RowKit
def finalF (d : Desc) (f : Final) : Bool := stateF d.states f.src && guardsF d.inn f.guards && writesF d.inn d.out f.out f.guards
def whereF (d : Desc) : Int × Int := if headF d then (match d.rules.findIdx? (fun r => !ruleF d r) with
  | some i => (2, i)
  | none => match d.finals.findIdx? (fun f => !finalF d f) with
    | some i => (3, i)
    | none => if kahnF (edgesF d.rules) d.states.toNat then (4, 0) else (0, 0)) else (1, 0)
theorem findIdx_at {α : Type} {p : α → Bool} : ∀ {l : List α} {k : Nat} {x : α}, (∀ y ∈ l.take k, p y = false) → l[k]? = some x → p x = true → l.findIdx? p = some k := by
  intro l
  induction l with
  | nil => intro k x _ h; simp at h
  | cons a r ih =>
    intro k x h1 h2 h3
    cases k with
    | zero =>
      simp at h2
      subst h2
      simp [List.findIdx?_cons, h3]
    | succ k =>
      have ha : p a = false := h1 a (by simp)
      have := ih (k := k) (x := x) (fun y hy => h1 y (by simp [hy])) (by simpa using h2) h3
      simp [List.findIdx?_cons, ha, this]
theorem findIdx_none {α : Type} {p : α → Bool} {l : List α} (h : ∀ y ∈ l, p y = false) : l.findIdx? p = none := by
  rw [List.findIdx?_eq_none_iff]
  exact h
theorem six {W : World} {b : Nat} {x0 x1 x2 x3 x4 x5 : Value} {t : TypeId} (h : W.heap[b]? = some (.cells #[x0, x1, x2, x3, x4, x5] t)) :
    W.cell? ⟨b, 0, none⟩ = some x0 ∧ W.cell? ⟨b, 1, none⟩ = some x1 ∧ W.cell? ⟨b, 2, none⟩ = some x2 ∧ W.cell? ⟨b, 3, none⟩ = some x3 ∧ W.cell? ⟨b, 4, none⟩ = some x4 ∧ W.cell? ⟨b, 5, none⟩ = some x5 :=
  ⟨cell_of_row _ _ 0 _ _ _ h, cell_of_row _ _ 1 _ _ _ h, cell_of_row _ _ 2 _ _ _ h, cell_of_row _ _ 3 _ _ _ h, cell_of_row _ _ 4 _ _ _ h, cell_of_row _ _ 5 _ _ _ h⟩
theorem three {W : World} {b : Nat} {x0 x1 x2 : Value} {t : TypeId} (h : W.heap[b]? = some (.cells #[x0, x1, x2] t)) :
    W.cell? ⟨b, 0, none⟩ = some x0 ∧ W.cell? ⟨b, 1, none⟩ = some x1 ∧ W.cell? ⟨b, 2, none⟩ = some x2 :=
  ⟨cell_of_row _ _ 0 _ _ _ h, cell_of_row _ _ 1 _ _ _ h, cell_of_row _ _ 2 _ _ _ h⟩
set_option maxHeartbeats 1000000 in
set_option maxRecDepth 100000 in
theorem Where_calls (d : Desc) (v u : Value) (w : World) (hv : (listR ruleR).rel w (upto w.heap.size) [v] d.rules) (hu : (listR finalR).rel w (upto w.heap.size) [u] d.finals) :
    Calls Tryz.prog 78 #[.agg #[.int .i64 d.inn, .int .i64 d.out, .int .i64 d.states, .int .i64 d.start, v, u]] w fun e w' => e = .returned (.tuple #[.int .i64 (whereF d).1, .int .i64 (whereF d).2]) ∧ Below w.heap.size w w' := by
  have HH := hid fun W (hW : Below w.heap.size w W) => head_calls d v u W ((listR ruleR).below hv hW hW.size) ((listR finalR).below hu hW hW.size)
  have HRU := hid fun W x g t (hW : Below w.heap.size w W) (hg : (listR spansR).rel w (upto w.heap.size) [g] x.guards) (ht : (listR termR).rel w (upto w.heap.size) [t] x.out) => rule_calls d x v u g t W ((listR ruleR).below hv hW hW.size) ((listR finalR).below hu hW hW.size) ((listR spansR).below hg hW hW.size) ((listR termR).below ht hW hW.size)
  have HCY := hid fun W n (hW : Below w.heap.size w W) => cycle_calls d v u W n ((listR ruleR).below hv hW hW.size)
  obtain ⟨A1, c1, rfl, hc1, hm1⟩ := list_form hv
  obtain ⟨A2, c2, rfl, hc2, hm2⟩ := list_form hu
  unfold maxLen at hm1 hm2
  have hX0 := heap_alloc_new w (.cells #[.int .i64 d.inn, .int .i64 d.out, .int .i64 d.states, .int .i64 d.start, .slice A1 d.rules.length c1, .slice A2 d.finals.length c2] 26)
  have hB0 : Below w.heap.size w (w.alloc (.cells #[.int .i64 d.inn, .int .i64 d.out, .int .i64 d.states, .int .i64 d.start, .slice A1 d.rules.length c1, .slice A2 d.finals.length c2] 26)) := (Below.refl _ w).alloc (Nat.le_refl _) _
  cases kh : headF d
  · have HF : Hid (whereF d = (1, 0)) := hid (by unfold whereF; rw [kh]; rfl)
    rw [kh] at HH
    clear kh hX0 hB0
    go_enter Tryz.func78, Tryz.ntmps78
    go_wp2_with fail
    refine (HH.out _ ((Below.refl _ w).alloc (Nat.le_refl _) _)).mono ?_
    rintro e w1 ⟨rfl, hB1⟩
    go_wp2_with fail
    go_ret2
    exact ⟨by rw [HF.out]; rfl, ((Below.refl _ w).alloc (Nat.le_refl _) _).trans (low hB1 (by simp))⟩
  have HWF : Hid (whereF d = match d.rules.findIdx? (fun r => !ruleF d r) with
    | some i => (2, (i : Int))
    | none => match d.finals.findIdx? (fun f => !finalF d f) with
      | some i => (3, (i : Int))
      | none => if kahnF (edgesF d.rules) d.states.toNat then (4, 0) else (0, 0)) := hid (by unfold whereF; rw [kh]; rfl)
  rw [kh] at HH
  have hst : 1 ≤ d.states ∧ d.states ≤ 1024 ∧ d.rules.length ≤ 4096 ∧ d.finals.length ≤ 4096 := by
    unfold headF at kh
    simp only [Bool.and_eq_true, decide_eq_true_eq] at kh
    exact ⟨kh.1.1.1.1.2, kh.1.1.1.2, kh.1.2, kh.2⟩
  obtain ⟨hst1, hst2, hst3, hst4⟩ := hst
  clear kh
  go_enter Tryz.func78, Tryz.ntmps78
  go_wp2_with fail
  refine (HH.out _ ((Below.refl _ w).alloc (Nat.le_refl _) _)).mono ?_
  rintro e w1 ⟨rfl, hB1⟩
  have hBw1 := hB0.trans (low hB1 hB0.size)
  have hX1 := (hB1.block w.heap.size (by simp)).trans hX0
  have hs1 : w.heap.size < w1.heap.size := heap_lt hX1
  obtain ⟨p0, p1, p2, p3, p4, p5⟩ := six hX1
  clear hX0 hB0
  go_wp2_with fail
  clear p0 p1 p2 p3 p4 p5
  go_loopw [14] (fun vi wr => ∃ k : Nat, k ≤ d.rules.length ∧ vi = .int .i64 k ∧ (∀ r ∈ d.rules.take k, ruleF d r = true) ∧ Below w.heap.size w wr ∧ wr.heap[w.heap.size]? = some (.cells #[.int .i64 d.inn, .int .i64 d.out, .int .i64 d.states, .int .i64 d.start, .slice A1 d.rules.length c1, .slice A2 d.finals.length c2] 26)) (fun vi _ => d.rules.length - (intOf vi).toNat)
  case atStart => exact ⟨0, Nat.zero_le _, rfl, by simp, hBw1, hX1⟩
  case round =>
    clear hBw1 hX1 hs1 hB1
    obtain ⟨k, hk, rfl, hall, hB, hX⟩ := hrel
    obtain ⟨wr0, hwr⟩ : ∃ wr0, wr0 = wr := ⟨_, rfl⟩
    subst hwr
    have hs0 : w.heap.size < wr0.heap.size := heap_lt hX
    have HB := hid hB
    have HX := hid hX
    obtain ⟨p0, p1, p2, p3, p4, p5⟩ := six hX
    by_cases hlt : k < d.rules.length
    · obtain ⟨⟨sx, dx, gx, ex, ox⟩, hx⟩ := at_lt hlt
      obtain ⟨b, o, y, z, rfl, hb, q1, q2, q3, q4, q5, _, hy, hz⟩ := rule_at hv hx
      have HRX := hid fun W (hW : Below w.heap.size w W) => HRU.out W ⟨sx, dx, gx, ex, ox⟩ y z hW hy hz
      obtain ⟨A3, c3, rfl, _, _⟩ := list_form hy
      obtain ⟨A4, c4, rfl, _, _⟩ := list_form hz
      replace q1 := (hB.cell (p := ⟨b, o + k * 5, none⟩) hb).trans q1
      replace q2 := (hB.cell (p := ⟨b, o + k * 5 + 1, none⟩) hb).trans q2
      replace q3 := (hB.cell (p := ⟨b, o + k * 5 + 2, none⟩) hb).trans q3
      replace q4 := (hB.cell (p := ⟨b, o + k * 5 + 3, none⟩) hb).trans q4
      replace q5 := (hB.cell (p := ⟨b, o + k * 5 + 4, none⟩) hb).trans q5
      dsimp only at q1 q2 q3 q4 q5
      have hlt' : (k : Int) < d.rules.length := by omega
      have HXK := hid hx
      have HALL := hid hall
      have hbs : b < wr0.heap.size := Nat.lt_of_lt_of_le hb hB.size
      clear hx hall hB hX hy hz hv hu
      cases kr : ruleF d ⟨sx, dx, gx, ex, ox⟩
      · have HF : Hid (whereF d = (2, (k : Int))) := hid (by
          rw [HWF.out, findIdx_at (k := k) (fun y hy => by rw [HALL.out y hy]; rfl) HXK.out (by rw [kr]; rfl)])
        rw [kr] at HRX
        clear kr
        go_wp2_with fail
        refine (HRX.out _ (HB.out.alloc HB.out.size _)).mono ?_
        rintro e w2 ⟨rfl, hB2⟩
        go_wp2_with fail
        go_ret2
        exact ⟨by rw [HF.out]; rfl, (HB.out.alloc HB.out.size _).trans (low hB2 (by simp; omega))⟩
      · have HALL2 : Hid (∀ r ∈ d.rules.take (k + 1), ruleF d r = true) := hid fun r hr => by
          rw [take_snoc HXK.out] at hr
          rcases List.mem_append.1 hr with hr | hr
          · exact HALL.out r hr
          · simp at hr; subst hr; exact kr
        rw [kr] at HRX
        clear kr HALL HXK
        go_wp2_with fail
        refine (HRX.out _ (HB.out.alloc HB.out.size _)).mono ?_
        rintro e w2 ⟨rfl, hB2⟩
        have hX2 := (hB2.block w.heap.size (by simp; omega)).trans ((Below.heap_alloc _ _ _ hs0).trans HX.out)
        have HX2 := hid hX2
        clear hX2
        go_wp2_with fail
        refine ⟨⟨k + 1, by omega, by push_cast; rfl, HALL2.out, (HB.out.alloc HB.out.size _).trans (low hB2 (by simp; omega)), HX2.out⟩, ?_⟩
        simp [intOf]; omega
    · obtain rfl : k = d.rules.length := by omega
      rw [List.take_length] at hall
      have HALLR := hid hall
      have HWF2 : Hid (whereF d = match d.finals.findIdx? (fun f => !finalF d f) with
          | some i => (3, (i : Int))
          | none => if kahnF (edgesF d.rules) d.states.toNat then (4, 0) else (0, 0)) := hid (by
        rw [HWF.out, findIdx_none (fun y hy => by rw [hall y hy]; rfl)])
      clear hall hB hX hlt HRU HH
      go_wp2_with fail
      clear p0 p1 p2 p3 p4 p5
      go_loopw [28] (fun vi wr => ∃ k : Nat, k ≤ d.finals.length ∧ vi = .int .i64 k ∧ (∀ r ∈ d.finals.take k, finalF d r = true) ∧ Below w.heap.size w wr ∧ wr.heap[w.heap.size]? = some (.cells #[.int .i64 d.inn, .int .i64 d.out, .int .i64 d.states, .int .i64 d.start, .slice A1 d.rules.length c1, .slice A2 d.finals.length c2] 26)) (fun vi _ => d.finals.length - (intOf vi).toNat)
      case atStart => exact ⟨0, Nat.zero_le _, rfl, by simp, HB.out, HX.out⟩
      case round =>
        clear HB HX hs0
        obtain ⟨k, hk, rfl, hall, hB, hX⟩ := hrel
        obtain ⟨wr0, hwr⟩ : ∃ wr0, wr0 = wr := ⟨_, rfl⟩
        subst hwr
        have hs0 : w.heap.size < wr0.heap.size := heap_lt hX
        have HB := hid hB
        have HX := hid hX
        obtain ⟨p0, p1, p2, p3, p4, p5⟩ := six hX
        by_cases hlt : k < d.finals.length
        · obtain ⟨⟨sx, gx, ox⟩, hx⟩ := at_lt hlt
          obtain ⟨b, o, y, z, rfl, hb, q1, q2, q3, _, hy, hz⟩ := final_at hu hx
          have HST := hid fun W => state_calls d.inn d.out d.states d.start (.slice A1 d.rules.length c1) (.slice (some ⟨b, o, none⟩) d.finals.length c2) sx W
          have HGD := hid fun W (hW : Below w.heap.size w W) => guards_calls d.inn gx y W ((listR spansR).below hy hW hW.size)
          have HWR := hid fun (hg : goodG gx) (hgl : ∀ g ∈ gx, g.length ≤ 90000) W (hW : Below w.heap.size w W) => writes_calls d.inn d.out d.states d.start (.slice A1 d.rules.length c1) (.slice (some ⟨b, o, none⟩) d.finals.length c2) z y ox gx W ((listR termR).below hz hW hW.size) ((listR spansR).below hy hW hW.size) hg hgl
          obtain ⟨A3, c3, rfl, _, _⟩ := list_form hy
          obtain ⟨A4, c4, rfl, _, _⟩ := list_form hz
          replace q1 := (hB.cell (p := ⟨b, o + k * 3, none⟩) hb).trans q1
          replace q2 := (hB.cell (p := ⟨b, o + k * 3 + 1, none⟩) hb).trans q2
          replace q3 := (hB.cell (p := ⟨b, o + k * 3 + 2, none⟩) hb).trans q3
          dsimp only at q1 q2 q3
          have hlt' : (k : Int) < d.finals.length := by omega
          have HXK := hid hx
          have HALL0 := hid hall
          have hbs : b < wr0.heap.size := Nat.lt_of_lt_of_le hb hB.size
          have HBAD : Hid (finalF d ⟨sx, gx, ox⟩ = false → whereF d = (3, (k : Int))) := hid fun hf => by
            rw [HWF2.out, findIdx_at (k := k) (fun y hy => by rw [hall y hy]; rfl) hx (by rw [hf]; rfl)]
          have HF0 : Hid (finalF d ⟨sx, gx, ox⟩ = (stateF d.states sx && guardsF d.inn gx && writesF d.inn d.out ox gx)) := hid rfl
          clear hx hall hB hX hy hz hv hu HCY
          cases k1 : stateF d.states sx
          · rw [k1] at HST HF0
            have HF := hid (HBAD.out (by rw [HF0.out]; rfl))
            clear k1 HGD HWR
            go_wp2_with fail
            refine (HST.out _).mono ?_
            rintro e w1 ⟨rfl, hB1⟩
            have hD1 : Below (wr0.heap.size + 1) (wr0.alloc (.cells #[.int .i64 sx, .slice A3 gx.length c3, .slice A4 ox.length c4] 59)) w1 := low hB1 (by simp)
            obtain ⟨p0, p1, p2, p3, p4, p5⟩ := six ((hD1.block w.heap.size (by omega)).trans ((Below.heap_alloc _ _ _ (by omega)).trans HX.out))
            obtain ⟨r0, r1, r2⟩ := three ((hD1.block wr0.heap.size (by omega)).trans (heap_alloc_new wr0 _))
            go_wp2_with fail
            go_ret2
            exact ⟨by rw [HF.out]; rfl, (HB.out.trans ((((Below.refl _ wr0).alloc (Nat.le_refl _) _).trans (low hD1 (by omega))).mono HB.out.size))⟩
          rw [k1] at HST HF0
          cases k2 : guardsF d.inn gx
          · rw [k2] at HGD HF0
            have HF := hid (HBAD.out (by rw [HF0.out]; rfl))
            clear k1 k2 HWR
            go_wp2_with fail
            refine (HST.out _).mono ?_
            rintro e w1 ⟨rfl, hB1⟩
            have hD1 : Below (wr0.heap.size + 1) (wr0.alloc (.cells #[.int .i64 sx, .slice A3 gx.length c3, .slice A4 ox.length c4] 59)) w1 := low hB1 (by simp)
            obtain ⟨p0, p1, p2, p3, p4, p5⟩ := six ((hD1.block w.heap.size (by omega)).trans ((Below.heap_alloc _ _ _ (by omega)).trans HX.out))
            obtain ⟨r0, r1, r2⟩ := three ((hD1.block wr0.heap.size (by omega)).trans (heap_alloc_new wr0 _))
            go_wp2_with fail
            refine (HGD.out _ (HB.out.trans ((((Below.refl _ wr0).alloc (Nat.le_refl _) _).trans (low hD1 (by omega))).mono HB.out.size))).mono ?_
            rintro e w2 ⟨rfl, hB2⟩
            have hz2 := hD1.size
            simp at hz2
            have hD2 := hD1.trans (low hB2 hz2)
            clear p0 p1 p2 p3 p4 p5 r0 r1 r2
            obtain ⟨p0, p1, p2, p3, p4, p5⟩ := six ((hD2.block w.heap.size (by omega)).trans ((Below.heap_alloc _ _ _ (by omega)).trans HX.out))
            obtain ⟨r0, r1, r2⟩ := three ((hD2.block wr0.heap.size (by omega)).trans (heap_alloc_new wr0 _))
            go_wp2_with fail
            go_ret2
            exact ⟨by rw [HF.out]; rfl, (HB.out.trans ((((Below.refl _ wr0).alloc (Nat.le_refl _) _).trans (low hD2 (by omega))).mono HB.out.size))⟩
          have hgood := guardsF_good k2
          replace HWR := hid (HWR.out hgood.1 hgood.2)
          rw [k2] at HGD HF0
          cases k3 : writesF d.inn d.out ox gx
          · rw [k3] at HWR HF0
            have HF := hid (HBAD.out (by rw [HF0.out]; rfl))
            clear k1 k2 k3 hgood
            go_wp2_with fail
            refine (HST.out _).mono ?_
            rintro e w1 ⟨rfl, hB1⟩
            have hD1 : Below (wr0.heap.size + 1) (wr0.alloc (.cells #[.int .i64 sx, .slice A3 gx.length c3, .slice A4 ox.length c4] 59)) w1 := low hB1 (by simp)
            obtain ⟨p0, p1, p2, p3, p4, p5⟩ := six ((hD1.block w.heap.size (by omega)).trans ((Below.heap_alloc _ _ _ (by omega)).trans HX.out))
            obtain ⟨r0, r1, r2⟩ := three ((hD1.block wr0.heap.size (by omega)).trans (heap_alloc_new wr0 _))
            go_wp2_with fail
            refine (HGD.out _ (HB.out.trans ((((Below.refl _ wr0).alloc (Nat.le_refl _) _).trans (low hD1 (by omega))).mono HB.out.size))).mono ?_
            rintro e w2 ⟨rfl, hB2⟩
            have hz2 := hD1.size
            simp at hz2
            have hD2 := hD1.trans (low hB2 hz2)
            clear p0 p1 p2 p3 p4 p5 r0 r1 r2
            obtain ⟨p0, p1, p2, p3, p4, p5⟩ := six ((hD2.block w.heap.size (by omega)).trans ((Below.heap_alloc _ _ _ (by omega)).trans HX.out))
            obtain ⟨r0, r1, r2⟩ := three ((hD2.block wr0.heap.size (by omega)).trans (heap_alloc_new wr0 _))
            go_wp2_with fail
            refine (HWR.out _ (HB.out.trans ((((Below.refl _ wr0).alloc (Nat.le_refl _) _).trans (low hD2 (by omega))).mono HB.out.size))).mono ?_
            rintro e w3 ⟨rfl, hB3⟩
            have hz3 := hD2.size
            simp at hz3
            have hD3 := hD2.trans (low hB3 hz3)
            clear p0 p1 p2 p3 p4 p5 r0 r1 r2
            obtain ⟨p0, p1, p2, p3, p4, p5⟩ := six ((hD3.block w.heap.size (by omega)).trans ((Below.heap_alloc _ _ _ (by omega)).trans HX.out))
            obtain ⟨r0, r1, r2⟩ := three ((hD3.block wr0.heap.size (by omega)).trans (heap_alloc_new wr0 _))
            go_wp2_with fail
            go_ret2
            exact ⟨by rw [HF.out]; rfl, (HB.out.trans ((((Below.refl _ wr0).alloc (Nat.le_refl _) _).trans (low hD3 (by omega))).mono HB.out.size))⟩
          have HALL : Hid (∀ r ∈ d.finals.take (k + 1), finalF d r = true) := hid fun r hr => by
            rw [take_snoc HXK.out] at hr
            rcases List.mem_append.1 hr with hr | hr
            · exact HALL0.out r hr
            · simp at hr; subst hr; rw [HF0.out, k3]; rfl
          rw [k3] at HWR
          clear k1 k2 k3 hgood HALL0 HBAD HF0
          go_wp2_with fail
          refine (HST.out _).mono ?_
          rintro e w1 ⟨rfl, hB1⟩
          have hD1 : Below (wr0.heap.size + 1) (wr0.alloc (.cells #[.int .i64 sx, .slice A3 gx.length c3, .slice A4 ox.length c4] 59)) w1 := low hB1 (by simp)
          obtain ⟨p0, p1, p2, p3, p4, p5⟩ := six ((hD1.block w.heap.size (by omega)).trans ((Below.heap_alloc _ _ _ (by omega)).trans HX.out))
          obtain ⟨r0, r1, r2⟩ := three ((hD1.block wr0.heap.size (by omega)).trans (heap_alloc_new wr0 _))
          go_wp2_with fail
          refine (HGD.out _ (HB.out.trans ((((Below.refl _ wr0).alloc (Nat.le_refl _) _).trans (low hD1 (by omega))).mono HB.out.size))).mono ?_
          rintro e w2 ⟨rfl, hB2⟩
          have hz2 := hD1.size
          simp at hz2
          have hD2 := hD1.trans (low hB2 hz2)
          clear p0 p1 p2 p3 p4 p5 r0 r1 r2
          obtain ⟨p0, p1, p2, p3, p4, p5⟩ := six ((hD2.block w.heap.size (by omega)).trans ((Below.heap_alloc _ _ _ (by omega)).trans HX.out))
          obtain ⟨r0, r1, r2⟩ := three ((hD2.block wr0.heap.size (by omega)).trans (heap_alloc_new wr0 _))
          go_wp2_with fail
          refine (HWR.out _ (HB.out.trans ((((Below.refl _ wr0).alloc (Nat.le_refl _) _).trans (low hD2 (by omega))).mono HB.out.size))).mono ?_
          rintro e w3 ⟨rfl, hB3⟩
          have hz3 := hD2.size
          simp at hz3
          have hD3 := hD2.trans (low hB3 hz3)
          clear p0 p1 p2 p3 p4 p5 r0 r1 r2
          obtain ⟨p0, p1, p2, p3, p4, p5⟩ := six ((hD3.block w.heap.size (by omega)).trans ((Below.heap_alloc _ _ _ (by omega)).trans HX.out))
          obtain ⟨r0, r1, r2⟩ := three ((hD3.block wr0.heap.size (by omega)).trans (heap_alloc_new wr0 _))
          go_wp2_with fail
          refine ⟨⟨k + 1, by omega, by push_cast; rfl, HALL.out, (HB.out.trans ((((Below.refl _ wr0).alloc (Nat.le_refl _) _).trans (low hD3 (by omega))).mono HB.out.size)), (hD3.block w.heap.size (by omega)).trans ((Below.heap_alloc _ _ _ (by omega)).trans HX.out)⟩, ?_⟩
          simp [intOf]; omega
        · obtain rfl : k = d.finals.length := by omega
          rw [List.take_length] at hall
          have HW3 : Hid (whereF d = if kahnF (edgesF d.rules) d.states.toNat then (4, 0) else (0, 0)) := hid (by
            rw [HWF2.out, findIdx_none (fun y hy => by rw [hall y hy]; rfl)])
          have HC := hid (HCY.out wr0 d.states.toNat hB (by omega) (by omega) hst3 (fun r hr => by
            have := HALLR.out r hr
            unfold ruleF stateF at this
            simp only [Bool.and_eq_true, decide_eq_true_eq] at this
            exact ⟨this.1.1.1.1, this.1.1.1.2⟩))
          clear hall hlt hB hX
          cases hk : kahnF (edgesF d.rules) d.states.toNat
          · rw [hk] at HC HW3
            clear hk
            go_wp2_with fail
            refine HC.out.mono ?_
            rintro e w2 ⟨rfl, hB2⟩
            go_wp2_with fail
            go_ret2
            exact ⟨by rw [HW3.out]; rfl, HB.out.trans (low hB2 HB.out.size)⟩
          · rw [hk] at HC HW3
            clear hk
            go_wp2_with fail
            refine HC.out.mono ?_
            rintro e w2 ⟨rfl, hB2⟩
            go_wp2_with fail
            go_ret2
            exact ⟨by rw [HW3.out]; rfl, HB.out.trans (low hB2 HB.out.size)⟩
set_option maxHeartbeats 1000000 in
theorem Check_calls (d : Desc) (v u : Value) (w : World) (hv : (listR ruleR).rel w (upto w.heap.size) [v] d.rules) (hu : (listR finalR).rel w (upto w.heap.size) [u] d.finals) :
    Calls Tryz.prog 34 #[.agg #[.int .i64 d.inn, .int .i64 d.out, .int .i64 d.states, .int .i64 d.start, v, u]] w fun e w' => e = .returned (.int .i64 (if (whereF d).1 = 0 then 0 else 2)) ∧ Below w.heap.size w w' := by
  have HH := hid fun W (hW : Below w.heap.size w W) => Where_calls d v u W ((listR ruleR).below hv hW hW.size) ((listR finalR).below hu hW hW.size)
  obtain ⟨A1, c1, rfl, hc1, hm1⟩ := list_form hv
  obtain ⟨A2, c2, rfl, hc2, hm2⟩ := list_form hu
  clear hv hu
  obtain ⟨a, ha⟩ : ∃ a, a = (whereF d).1 := ⟨_, rfl⟩
  obtain ⟨b, hb⟩ : ∃ b, b = (whereF d).2 := ⟨_, rfl⟩
  rw [← ha, ← hb] at HH
  rw [← ha]
  clear ha hb
  by_cases h0 : a = 0
  · subst h0
    go_enter Tryz.func34, Tryz.ntmps34
    go_wp2_with fail
    refine (HH.out _ ((Below.refl _ w).alloc (Nat.le_refl _) _)).mono ?_
    rintro e w1 ⟨rfl, hB1⟩
    go_wp2_with fail
    go_ret
    exact ⟨rfl, ((Below.refl _ w).alloc (Nat.le_refl _) _).trans (low hB1 (by simp))⟩
  · have hf : Hid ((if a = 0 then (0 : Int) else 2) = 2) := hid (if_neg h0)
    rw [hf.out]
    have h0' : (a == 0) = false := beq_f h0
    go_enter Tryz.func34, Tryz.ntmps34
    go_wp2_with fail
    refine (HH.out _ ((Below.refl _ w).alloc (Nat.le_refl _) _)).mono ?_
    rintro e w1 ⟨rfl, hB1⟩
    go_wp2_with fail
    go_ret
    exact ⟨rfl, ((Below.refl _ w).alloc (Nat.le_refl _) _).trans (low hB1 (by simp))⟩
theorem whereF_ok {d : Desc} : (whereF d).1 = 0 ↔ headF d = true ∧ (∀ r ∈ d.rules, ruleF d r = true) ∧ (∀ f ∈ d.finals, finalF d f = true) ∧ kahnF (edgesF d.rules) d.states.toNat = false := by
  unfold whereF
  cases headF d
  · simp
  simp only [if_true]
  by_cases hr : ∀ r ∈ d.rules, ruleF d r = true
  · rw [findIdx_none (fun y hy => by rw [hr y hy]; rfl)]
    by_cases hf : ∀ f ∈ d.finals, finalF d f = true
    · rw [findIdx_none (fun y hy => by rw [hf y hy]; rfl)]
      cases kahnF (edgesF d.rules) d.states.toNat
      · simp; exact ⟨hr, hf⟩
      · simp
    · cases h : d.finals.findIdx? (fun f => !finalF d f) with
      | none =>
        rw [List.findIdx?_eq_none_iff] at h
        exact absurd (fun f hm => by have := h f hm; simpa using this) hf
      | some i => simp [hf]
  · cases h : d.rules.findIdx? (fun r => !ruleF d r) with
    | none =>
      rw [List.findIdx?_eq_none_iff] at h
      exact absurd (fun r hm => by have := h r hm; simpa using this) hr
    | some i => simp [hr]
theorem right_bd {d : Desc} (h : (whereF d).1 = 0) : d.rules.length ≤ 4096 ∧ d.finals.length ≤ 4096 ∧ ∀ o ∈ optsD d, guardsF d.inn o.guards = true := by
  obtain ⟨h1, h2, h3, _⟩ := whereF_ok.1 h
  unfold headF at h1
  simp only [Bool.and_eq_true, decide_eq_true_eq] at h1
  refine ⟨h1.1.2, h1.2, fun o ho => ?_⟩
  unfold optsD at ho
  rcases List.mem_append.1 ho with ho | ho
  · obtain ⟨r, hr, rfl⟩ := List.mem_map.1 ho
    have := h2 r hr
    unfold ruleF at this
    simp only [Bool.and_eq_true] at this
    exact this.1.1.2
  · obtain ⟨f, hf, rfl⟩ := List.mem_map.1 ho
    have := h3 f hf
    unfold finalF at this
    simp only [Bool.and_eq_true] at this
    exact this.1.2
def soleS (d : Desc) : Value := if (whereF d).1 = 0 then .tuple #[.bool (outerS (optsD d) 0 (optsD d)).isNone, .int .i64 0] else .tuple #[.bool false, .int .i64 2]
set_option maxHeartbeats 1000000 in
theorem Sole_calls (d : Desc) (v u : Value) (w : World) (hv : (listR ruleR).rel w (upto w.heap.size) [v] d.rules) (hu : (listR finalR).rel w (upto w.heap.size) [u] d.finals) :
    Calls Tryz.prog 16 #[.agg #[.int .i64 d.inn, .int .i64 d.out, .int .i64 d.states, .int .i64 d.start, v, u]] w fun e w' => e = .returned (soleS d) ∧ Below w.heap.size w w' := by
  have HH := hid fun W (hW : Below w.heap.size w W) => Check_calls d v u W ((listR ruleR).below hv hW hW.size) ((listR finalR).below hu hW hW.size)
  have HC := hid fun (h0 : (whereF d).1 = 0) W (hW : Below w.heap.size w W) => Clash_calls d v u W ((listR ruleR).below hv hW hW.size) ((listR finalR).below hu hW hW.size) d.inn d.out d.states d.start (by have := (right_bd h0).1; omega) (by have := (right_bd h0).2.1; omega) (fun o ho g hg => by have := (guardsF_good ((right_bd h0).2.2 o ho)).2 g hg; omega)
  obtain ⟨A1, c1, rfl, hc1, hm1⟩ := list_form hv
  obtain ⟨A2, c2, rfl, hc2, hm2⟩ := list_form hu
  clear hv hu
  have hX0 := heap_alloc_new w (.cells #[.int .i64 d.inn, .int .i64 d.out, .int .i64 d.states, .int .i64 d.start, .slice A1 d.rules.length c1, .slice A2 d.finals.length c2] 26)
  by_cases h0 : (whereF d).1 = 0
  · have HF : Hid (soleS d = .tuple #[.bool (outerS (optsD d) 0 (optsD d)).isNone, .int .i64 0]) := hid (if_pos h0)
    rw [if_pos h0] at HH
    replace HC := hid (HC.out h0)
    clear h0
    unfold clashS at HC
    cases ho : outerS (optsD d) 0 (optsD d) with
    | none =>
      rw [ho] at HC HF
      clear ho
      go_enter Tryz.func16, Tryz.ntmps16
      go_wp2_with fail
      refine (HH.out _ ((Below.refl _ w).alloc (Nat.le_refl _) _)).mono ?_
      rintro e w1 ⟨rfl, hB1⟩
      obtain ⟨p0, p1, p2, p3, p4, p5⟩ := six ((hB1.block w.heap.size (by simp)).trans hX0)
      clear hX0
      go_wp2_with fail
      refine (HC.out _ (((Below.refl _ w).alloc (Nat.le_refl _) _).trans (low hB1 (by simp)))).mono ?_
      rintro e w2 ⟨rfl, hB2⟩
      go_wp2_with fail
      go_ret2
      exact ⟨by rw [HF.out]; rfl, (((Below.refl _ w).alloc (Nat.le_refl _) _).trans (low hB1 (by simp))).trans (low hB2 (by have := hB1.size; simp at this; omega))⟩
    | some p =>
      obtain ⟨i, k⟩ := p
      rw [ho] at HC HF
      clear ho
      go_enter Tryz.func16, Tryz.ntmps16
      go_wp2_with fail
      refine (HH.out _ ((Below.refl _ w).alloc (Nat.le_refl _) _)).mono ?_
      rintro e w1 ⟨rfl, hB1⟩
      obtain ⟨p0, p1, p2, p3, p4, p5⟩ := six ((hB1.block w.heap.size (by simp)).trans hX0)
      clear hX0
      go_wp2_with fail
      refine (HC.out _ (((Below.refl _ w).alloc (Nat.le_refl _) _).trans (low hB1 (by simp)))).mono ?_
      rintro e w2 ⟨rfl, hB2⟩
      go_wp2_with fail
      go_ret2
      exact ⟨by rw [HF.out]; rfl, (((Below.refl _ w).alloc (Nat.le_refl _) _).trans (low hB1 (by simp))).trans (low hB2 (by have := hB1.size; simp at this; omega))⟩
  · have HF : Hid (soleS d = .tuple #[.bool false, .int .i64 2]) := hid (if_neg h0)
    rw [if_neg h0] at HH
    clear h0 HC hX0
    go_enter Tryz.func16, Tryz.ntmps16
    go_wp2_with fail
    refine (HH.out _ ((Below.refl _ w).alloc (Nat.le_refl _) _)).mono ?_
    rintro e w1 ⟨rfl, hB1⟩
    go_wp2_with fail
    go_ret2
    exact ⟨by rw [HF.out]; rfl, ((Below.refl _ w).alloc (Nat.le_refl _) _).trans (low hB1 (by simp))⟩
end Go.Proofs.YtmkmikacfilbpaaGreat
