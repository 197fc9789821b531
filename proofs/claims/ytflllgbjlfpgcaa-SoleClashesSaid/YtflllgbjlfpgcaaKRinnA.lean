/-
  The reference's inner values of bytes.
-/
import Derived.Test.YtflllgbjlfpgcaaKSums
import Derived.Test.YtflllgbjlfpgcaaKSpans
import Derived.Test.YtflllgbjlfpgcaaKPlain
import Derived.Test.YtflllgbjlfpgcaaKRright
namespace Go.Proofs.Ytflllgbjlfpgcaa
open Go.RowKit Go.Um Go.Proofs
def InnerPost (t : Term) (gs : List (List Span)) (w : World) (e : Ending) (w' : World) : Prop := ∃ u l ok, e = .returned (.tuple #[u, .bool ok]) ∧ InnerR t gs l ok ∧ (ok = true → OwnS 46 w' w.heap.size u l ∧ l.length ≤ 2228223) ∧ (∃ A n c, u = .slice A n c) ∧ Below w.heap.size w w'
def InnI (w wr : World) (t : Term) (gs : List (List Span)) (A : Option Addr) (c : Nat) (vn : Value) (k : Nat) : Prop := ∃ l, NowL t gs k l ∧ (listR intR).rel wr (upto wr.heap.size) [vn] l ∧ wr.heap[w.heap.size]? = some (.cells #[.int .i64 t.base, .int .i64 t.drop, .int .i64 t.take, .int .i64 t.up, .int .i64 t.sum, .slice A t.parts.length c] 60) ∧ Below w.heap.size w wr
def OwnI (wo wr : World) (ps : List Part) (g : List Span) (k : Nat) (vo vs : Value) (x : Nat) : Prop := wr.ownsInts wo.heap.size 3 .i64 vo (ownN ps g k x) ∧ vs = .bool (anyN ps g k x) ∧ Below wo.heap.size wo wr
theorem six'' {W : World} {b : Nat} {x0 x1 x2 x3 x4 x5 : Value} {t : TypeId} (h : W.heap[b]? = some (.cells #[x0, x1, x2, x3, x4, x5] t)) :
    W.cell? ⟨b, 0, none⟩ = some x0 ∧ W.cell? ⟨b, 1, none⟩ = some x1 ∧ W.cell? ⟨b, 2, none⟩ = some x2 ∧ W.cell? ⟨b, 3, none⟩ = some x3 ∧ W.cell? ⟨b, 4, none⟩ = some x4 ∧ W.cell? ⟨b, 5, none⟩ = some x5 :=
  ⟨cell_of_row _ _ 0 _ _ _ h, cell_of_row _ _ 1 _ _ _ h, cell_of_row _ _ 2 _ _ _ h, cell_of_row _ _ 3 _ _ _ h, cell_of_row _ _ 4 _ _ _ h, cell_of_row _ _ 5 _ _ _ h⟩
def PartI (wd wr : World) (ps : List Part) (k : Nat) (x : Int) (sm : Bool) (vs vu : Value) (i : Nat) : Prop := vu = .int .i64 (sumP (ofAt (ps.take i) k) x) ∧ vs = .bool (sm || !(ofAt (ps.take i) k).isEmpty) ∧ Below wd.heap.size wd wr
set_option maxHeartbeats 6000000 in
set_option maxRecDepth 100000 in
theorem RInner1_calls (t : Term) (inn : Int) (hh : inn = 1) (gs : List (List Span)) (v u : Value) (w : World) (hp : (listR partR).rel w (upto w.heap.size) [v] t.parts) (hs : (listR spansR).rel w (upto w.heap.size) [u] gs)
    (hn : numbersF t = true) (hr : ∀ p ∈ t.parts, rightP p gs.length = true) (hg : goodG gs) (hby : ∀ g ∈ gs, ∀ z, mem g z → z ≤ 255) :
    Calls Try.prog 47 #[tval t v, .int .i64 inn, u] w fun e w' => InnerPost t gs w e w' := by
  obtain ⟨A, c, rfl, hc, hm⟩ := list_form hp
  obtain ⟨A2, c2, rfl, hc2, hm2⟩ := list_form hs
  unfold maxLen at hm hm2
  have hi1 : (inn == 1) = true := beq_t hh
  have hi2 : (inn == 2) = false := beq_f (by omega)
  clear hh
  obtain ⟨_, hsum, _, _, hpl⟩ := numbersF_iff.1 hn
  have hsb := smallN_iff.1 hsum
  have HRI := hid hr
  have HG := hid hg
  have HBY := hid hby
  have HBT := hid fun p (hp : p ∈ t.parts) => (rightP_iff.1 (hr p hp)).2.2
  clear hn hsum hr hg hby
  have ho1 : ((w.alloc (.cells #[.int .i64 t.base, .int .i64 t.drop, .int .i64 t.take, .int .i64 t.up, .int .i64 t.sum, .slice A t.parts.length c] 60)).alloc (.cells #[.int .i64 t.sum] 3)).ownsInts (w.alloc (.cells #[.int .i64 t.base, .int .i64 t.drop, .int .i64 t.take, .int .i64 t.up, .int .i64 t.sum, .slice A t.parts.length c] 60)).heap.size 3 .i64 (.slice (some ⟨(w.alloc (.cells #[.int .i64 t.base, .int .i64 t.drop, .int .i64 t.take, .int .i64 t.up, .int .i64 t.sum, .slice A t.parts.length c] 60)).heap.size, 0, none⟩) 1 1) [t.sum] := own_one _ _ (WalkArith.wf_i64 ⟨by omega, by omega⟩)
  have hrow0 := intsR ho1
  have hX0 : ((w.alloc (.cells #[.int .i64 t.base, .int .i64 t.drop, .int .i64 t.take, .int .i64 t.up, .int .i64 t.sum, .slice A t.parts.length c] 60)).alloc (.cells #[.int .i64 t.sum] 3)).heap[w.heap.size]? = some (.cells #[.int .i64 t.base, .int .i64 t.drop, .int .i64 t.take, .int .i64 t.up, .int .i64 t.sum, .slice A t.parts.length c] 60) := by rw [Below.heap_alloc _ _ _ (by simp)]; exact heap_alloc_new _ _
  have hB0 : Below w.heap.size w ((w.alloc (.cells #[.int .i64 t.base, .int .i64 t.drop, .int .i64 t.take, .int .i64 t.up, .int .i64 t.sum, .slice A t.parts.length c] 60)).alloc (.cells #[.int .i64 t.sum] 3)) := ((Below.refl _ w).alloc (Nat.le_refl _) _).alloc (by simp) _
  rw [show (w.alloc (.cells #[.int .i64 t.base, .int .i64 t.drop, .int .i64 t.take, .int .i64 t.up, .int .i64 t.sum, .slice A t.parts.length c] 60)).heap.size = w.heap.size + 1 by simp] at hrow0
  clear ho1
  unfold tval
  go_enter Try.func47, Try.ntmps47
  go_wp2_with fail
  generalize (w.alloc (.cells #[.int .i64 t.base, .int .i64 t.drop, .int .i64 t.take, .int .i64 t.up, .int .i64 t.sum, .slice A t.parts.length c] 60)).alloc (.cells #[.int .i64 t.sum] 3) = wm at *
  go_loopw [9, 10] (fun vn va wr => ∃ k : Nat, k ≤ gs.length ∧ va = .int .i64 k ∧ InnI w wr t gs A c vn k) (fun _ va _ => gs.length - (intOf va).toNat)
  case atStart => exact ⟨0, Nat.zero_le _, rfl, [t.sum], nowL_zero hsb, hrow0, hX0, hB0⟩
  case round =>
    clear hrow0 hX0 hB0
    obtain ⟨k, hk, rfl, l, hnow, hrow, hX, hB⟩ := hrel
    obtain ⟨wo, hwo⟩ : ∃ wo, wo = wr := ⟨_, rfl⟩
    subst hwo
    have HNOW := hid hnow
    have hll := nowL_length hnow
    have HROW := hid hrow
    have HXo := hid hX
    have HB := hid hB
    have hsw := hB.size
    have hXl : w.heap.size < wo.heap.size := heap_lt hX
    obtain ⟨Aq, cq, rfl, hcq, hmq⟩ := list_form hrow
    unfold maxLen at hmq
    by_cases hlt : k < gs.length
    · obtain ⟨g, hgk⟩ := at_lt hlt
      have hlt' : (k : Int) < gs.length := by omega
      have hgm := List.mem_of_getElem? hgk
      obtain ⟨hgp, hgs, hgn⟩ := HG.out.2 g hgm
      have hgb : ∀ z, mem g z → 0 ≤ z ∧ z ≤ 255 := fun z hz => ⟨(hgs z hz).1, HBY.out g hgm z hz⟩
      have HGK := hid hgk
      have HGB := hid hgb
      have HGP := hid hgp
      have hex : ∃ x, mem g x := ⟨_, headLo_mem hgp hgn⟩
      have HEX := hid hex
      have hrg := (listR spansR).mono (below_cells hB) (fun _ h => h) hs
      obtain ⟨b1, o1, y1, rfl, hb1, hy1, hcg⟩ := list_at1 rfl hrg hgk
      obtain ⟨A3, c3, rfl, hc3, hm3⟩ := list_form hy1
      unfold maxLen at hm3
      have hb1' : b1 < wo.heap.size := Nat.lt_of_lt_of_le hb1 hsw
      have HY := hid (spansR.mono (fun _ _ => rfl) (fun b hb => Nat.lt_of_lt_of_le hb hsw) hy1 : spansR.rel wo (upto wo.heap.size) [.slice A3 g.length c3] g)
      clear hnow hrow hX hB hrg hy1 hgm hgp hgs hgn hgb hgk hex hlt
      go_wp2_with fail
      go_loopw [11, 12, 13] (fun vo vs vx wr => ∃ x : Nat, x ≤ 256 ∧ vx = .int .i64 x ∧ OwnI wo wr t.parts g k vo vs x) (fun _ _ vx _ => 256 - (intOf vx).toNat)
      case atStart => exact ⟨0, Nat.zero_le _, rfl, ⟨World.ownsRow_nil _ _ _ _, by simp [ownN]⟩, rfl, Below.refl _ _⟩
      case round =>
        obtain ⟨x, hx, rfl, ho, hvs, hBd⟩ := hrel
        obtain ⟨wd, hwd⟩ : ∃ wd, wd = wr := ⟨_, rfl⟩
        subst hwd
        obtain ⟨own, hown⟩ : ∃ own, own = ownN t.parts g k x := ⟨_, rfl⟩
        obtain ⟨sm, hsm⟩ : ∃ sm, sm = anyN t.parts g k x := ⟨_, rfl⟩
        have hol : own.length ≤ x := by rw [hown]; exact ownN_length _ _ _ _
        have HOR : Hid (Rising own) := hid (by rw [hown]; exact ownN_rising _ _ _ _)
        rw [← hown] at ho
        rw [← hsm] at hvs
        subst hvs
        have HO := hid ho
        have HBD := hid hBd
        have HOWN := hid hown
        have HSM := hid hsm
        have hsd := hBd.size
        have hBwd := HB.out.trans (hBd.mono hsw)
        have HBWD := hid hBwd
        obtain ⟨A9, c9, rfl, _, _⟩ := list_form (intsR ho)
        have hcd := (hBd.cell (p := ⟨b1, o1 + k, none⟩) hb1').trans hcg
        have hXd := (hBd.block _ hXl).trans HXo.out
        have hsb1 : w.heap.size ≤ wd.heap.size := Nat.le_trans hsw hsd
        by_cases hx6 : x < 256
        · have hx6' : (x : Int) < 256 := by omega
          have HHAS := hid (RHas_calls g x (.slice A3 g.length c3) wd (upto wd.heap.size) (spansR.below HY.out hBd hsd))
          cases hh : hasF g x with
          | false =>
            rw [hh] at HHAS
            have HE : Hid (∃ j' : Nat, j' ≤ 256 ∧ Value.int .i64 ((x : Int) + 1) = .int .i64 j' ∧ OwnI wo wd t.parts g k (.slice A9 own.length c9) (.bool sm) j') := hid ⟨x + 1, by omega, by push_cast; rfl, by rw [ownN, if_neg (by rw [hh]; simp), ← hown]; exact ho, by rw [anyN, if_neg (by rw [hh]; simp), ← hsm], hBd⟩
            clear ho hBd hown hsm hBwd hXd hh
            go_wp2_with fail
            refine HHAS.out.mono ?_
            rintro e w2 ⟨rfl, rfl⟩
            go_wp2_with fail
            first
              | (refine ⟨HE.out, ?_⟩; simp [intOf]; omega)
              | (go_simp; refine ⟨by simpa using HE.out, ?_⟩; simp [intOf]; omega)
          | true =>
            rw [hh] at HHAS
            have hO2 : ownN t.parts g k (x + 1) = putF (sumP (ofAt t.parts k) x) own := by rw [ownN, if_pos hh, ← hown]
            have hS2 : anyN t.parts g k (x + 1) = (sm || !(ofAt t.parts k).isEmpty) := by rw [anyN, if_pos hh, ← hsm]
            have HO2 := hid hO2
            have HS2 := hid hS2
            clear ho hBd hown hsm hBwd hO2 hS2 hh
            go_wp2_with fail
            refine HHAS.out.mono ?_
            rintro e w2 ⟨rfl, rfl⟩
            clear HHAS
            go_wp2_with fail
            go_loopw [12, 14, 15] (fun vs vu vi wr => ∃ i : Nat, i ≤ t.parts.length ∧ vi = .int .i64 i ∧ PartI wd wr t.parts k x sm vs vu i) (fun _ _ vi _ => t.parts.length - (intOf vi).toNat)
            case atStart => exact ⟨0, Nat.zero_le _, rfl, by simp [ofAt, sumP_nil], by simp [ofAt], Below.refl _ _⟩
            case round =>
              obtain ⟨i, hi, rfl, rfl, rfl, hBi⟩ := hrel
              obtain ⟨wi, hwi⟩ : ∃ wi, wi = wr := ⟨_, rfl⟩
              subst hwi
              have HBI := hid hBi
              have hsi := hBi.size
              have hXi := (hBi.block _ (Nat.lt_of_lt_of_le hXl hsd)).trans hXd
              obtain ⟨x1, x2, x3, x4, x5, x6⟩ := six'' hXi
              obtain ⟨su, hsu⟩ : ∃ su, su = sumP (ofAt (t.parts.take i) k) x := ⟨_, rfl⟩
              obtain ⟨sb, hsb9⟩ : ∃ sb, sb = (sm || !(ofAt (t.parts.take i) k).isEmpty) := ⟨_, rfl⟩
              rw [← hsu, ← hsb9]
              have hsub : 0 ≤ su ∧ su ≤ 67108864 * 4 := by
                have h1 := sumP_bd (l := ofAt (t.parts.take i) k) (fun p hp => HBT.out p (List.mem_of_mem_take (List.mem_filter.1 hp).1)) x
                have h2 : (ofAt (t.parts.take i) k).length ≤ 4 := by
                  unfold ofAt
                  exact Nat.le_trans (List.length_filter_le _ _) (by rw [List.length_take]; omega)
                rw [hsu]; omega
              have HSU := hid hsu
              have HSB := hid hsb9
              by_cases hlp : i < t.parts.length
              · obtain ⟨⟨pa, pd, pt, pu⟩, hpi⟩ := at_lt hlp
                have hlp' : (i : Int) < t.parts.length := by omega
                have hbp := HBT.out _ (List.mem_of_getElem? hpi)
                obtain ⟨pb, po, rfl, hpb, p1, p2, p3, p4, hpo⟩ := part_at ((listR partR).mono (below_cells (HBWD.out.trans (hBi.mono hsb1))) (fun _ h => h) hp) hpi
                dsimp only at p1 p2 p3 p4
                have hpbl : pb < wi.heap.size := Nat.lt_of_lt_of_le hpb (Nat.le_trans hsb1 hsi)
                have hvle := valF_le hbp x
                have hvge := valF_nonneg ⟨pa, pd, pt, pu⟩ x
                have HV := hid (RValue_calls ⟨pa, pd, pt, pu⟩ x wi hbp (by omega) (by omega))
                unfold pval at HV
                dsimp only at HV
                have HSN := hid (Go.Um.ofAt_snoc (a := (k : Int)) hpi)
                dsimp only at HSN
                obtain ⟨vv, hvv⟩ : ∃ vv, vv = valF ⟨pa, pd, pt, pu⟩ x := ⟨_, rfl⟩
                rw [← hvv] at HV hvle hvge
                have HVV := hid hvv
                clear hBi hXi hsu hsb9 hpi hbp hpo hlp hvv
                by_cases hak : pa = (k : Int)
                · have hak' : (pa == (k : Int)) = true := beq_t hak
                  have HE2 : Hid (sumP (ofAt (t.parts.take (i + 1)) k) x = su + vv) := hid (by rw [HSN.out, if_pos hak, sumP_append, HSU.out, sumP_cons, sumP_nil, HVV.out]; omega)
                  have HE3 : Hid ((sm || !(ofAt (t.parts.take (i + 1)) k).isEmpty) = true) := hid (by rw [HSN.out, if_pos hak]; simp)
                  clear HSN HSU HSB hak
                  go_wp2_with fail
                  refine HV.out.mono ?_
                  rintro e w4 ⟨rfl, hB4⟩
                  have hB4w := HBI.out.trans (hB4.mono hsi)
                  go_wp2_with fail
                  have HE : Hid (∃ j' : Nat, j' ≤ t.parts.length ∧ Value.int .i64 ((i : Int) + 1) = .int .i64 j' ∧ PartI wd w4 t.parts k x sm (.bool true) (.int .i64 (su + vv)) j') := hid ⟨i + 1, by omega, by push_cast; rfl, by rw [HE2.out], by rw [HE3.out], hB4w⟩
                  first
                    | (refine ⟨HE.out, ?_⟩; simp [intOf]; omega)
                    | (go_simp; refine ⟨by simpa using HE.out, ?_⟩; simp [intOf]; omega)
                · have hak' : (pa == (k : Int)) = false := beq_f hak
                  have HE2 : Hid (sumP (ofAt (t.parts.take (i + 1)) k) x = su) := hid (by rw [HSN.out, if_neg hak, HSU.out])
                  have HE3 : Hid ((sm || !(ofAt (t.parts.take (i + 1)) k).isEmpty) = sb) := hid (by rw [HSN.out, if_neg hak, HSB.out])
                  clear HSN HSU HSB hak HV
                  go_wp2_with fail
                  have HE : Hid (∃ j' : Nat, j' ≤ t.parts.length ∧ Value.int .i64 ((i : Int) + 1) = .int .i64 j' ∧ PartI wd wi t.parts k x sm (.bool sb) (.int .i64 su) j') := hid ⟨i + 1, by omega, by push_cast; rfl, by rw [HE2.out], by rw [HE3.out], HBI.out⟩
                  first
                    | (refine ⟨HE.out, ?_⟩; simp [intOf]; omega)
                    | (go_simp; refine ⟨by simpa using HE.out, ?_⟩; simp [intOf]; omega)
              · obtain rfl : i = t.parts.length := by omega
                rw [List.take_length] at hsu hsb9
                rw [← hsu] at HO2
                rw [← hsb9] at HS2
                have hoi : wi.ownsInts wo.heap.size 3 .i64 (.slice A9 own.length c9) own := by
                  exact HO.out.kept (row := none) ⟨hBi.os, hBi.tape, hBi.output, hBi.size, fun q hq _ => hBi.block q hq⟩ (by cases (Value.slice A9 own.length c9).ownBlock <;> simp)
                have HPUT := hid (Put6_calls own su _ wo.heap.size wi hoi HOR.out ⟨by omega, by omega⟩ (by omega) (Nat.le_trans hsd hsi))
                clear hBi hXi hsu hsb9 HSU HSB hlp hoi
                go_wp2_with fail
                refine HPUT.out.mono ?_
                rintro e w5 ⟨u5, rfl, ho5, hB5⟩
                have HO5 : Hid (w5.ownsInts wo.heap.size 3 .i64 u5 (ownN t.parts g k (x + 1))) := hid (by rw [HO2.out]; exact ho5)
                have HB5 := hid ((HBD.out.trans (HBI.out.mono hsd)).trans hB5)
                clear ho5 hB5
                go_wp2_with fail
                have HE : Hid (∃ j' : Nat, j' ≤ 256 ∧ Value.int .i64 ((x : Int) + 1) = .int .i64 j' ∧ OwnI wo w5 t.parts g k u5 (.bool sb) j') := hid ⟨x + 1, by omega, by push_cast; rfl, HO5.out, by rw [HS2.out], HB5.out⟩
                first
                  | (refine ⟨HE.out, ?_⟩; simp [intOf]; omega)
                  | (go_simp; refine ⟨by simpa using HE.out, ?_⟩; simp [intOf]; omega)
        · obtain rfl : x = 256 := by omega
          have hown2 : ∀ z, z ∈ own ↔ ownP t.parts g k z := fun z => by rw [hown]; exact ownN_all HGP.out HGB.out
          have HOWNP := hid hown2
          have hnx : ¬ ((256 : Nat) : Int) < 256 := by omega
          cases hsm2 : sm with
          | false =>
            have hno : ofAt t.parts k = [] := by
              rcases hof : ofAt t.parts k with _ | ⟨p0, r0⟩
              · rfl
              · exfalso
                obtain ⟨x0, hx0⟩ := HEX.out
                have h9 := HGB.out x0 hx0
                have : anyN t.parts g k 256 = true := anyN_iff.2 ⟨⟨x0.toNat, by omega, by rw [show ((x0.toNat : Nat) : Int) = x0 by omega]; exact (inSet_plain HGP.out).2 hx0⟩, by rw [hof]; simp⟩
                rw [← hsm, hsm2] at this
                cases this
            have HE : Hid (∃ j' : Nat, j' ≤ gs.length ∧ Value.int .i64 ((k : Int) + 1) = .int .i64 j' ∧ InnI w wd t gs A c (.slice Aq l.length cq) j') := hid ⟨k + 1, by omega, by push_cast; rfl, l, nowL_skip HGK.out HEX.out hno HNOW.out, (listR intR).below HROW.out hBd hsd, hXd, hBwd⟩
            clear ho hBd hown hsm hBwd hXd hown2 hsm2 hno
            go_wp2_with fail
            first
              | (refine ⟨HE.out, ?_⟩; simp [intOf]; omega)
              | (go_simp; refine ⟨by simpa using HE.out, ?_⟩; simp [intOf]; omega)
          | true =>
            have hlb : ∀ y ∈ own, 0 ≤ y ∧ y ≤ 1000000000000 := fun y hy => by
              obtain ⟨x0, _, rfl⟩ := (hown2 y).1 hy
              have h1 := sumP_bd (l := ofAt t.parts k) (fun p hp => HBT.out p (List.mem_filter.1 hp).1) x0
              have h2 : (ofAt t.parts k).length ≤ 4 := by
                unfold ofAt
                exact Nat.le_trans (List.length_filter_le _ _) hpl
              omega
            have HSUMS := hid (Sums_calls l own (.slice Aq l.length cq) (.slice A9 own.length c9) wd ((listR intR).below HROW.out hBd hsd) (intsR ho) hll hol HNOW.out.2.2 hlb)
            have HXd := hid hXd
            clear ho hBd hown hsm hBwd hXd hown2 hsm2 hlb
            go_wp2_with fail
            refine HSUMS.out.mono ?_
            rintro e w6 ⟨u6, ok, l6, rfl, hsu6, hou6, hB6⟩
            have hB6w := HBWD.out.trans (hB6.mono hsb1)
            cases ok with
            | true =>
              have ho6 := hou6 rfl
              have HE : Hid (∃ j' : Nat, j' ≤ gs.length ∧ Value.int .i64 ((k : Int) + 1) = .int .i64 j' ∧ InnI w w6 t gs A c u6 j') := hid ⟨k + 1, by omega, by push_cast; rfl, l6, nowL_sums HGK.out HBT.out HOWNP.out HNOW.out hsu6, intsR ho6, (hB6.block _ (Nat.lt_of_lt_of_le hXl hsd)).trans HXd.out, hB6w⟩
              clear hsu6 hou6 ho6
              go_wp2_with fail
              first
                | (refine ⟨HE.out, ?_⟩; simp [intOf]; omega)
                | (go_simp; refine ⟨by simpa using HE.out, ?_⟩; simp [intOf]; omega)
            | false =>
              have hbey := innerR_beyond HRI.out HG.out HGK.out HOWNP.out HNOW.out hsu6 []
              have HBEY := hid hbey
              clear hsu6 hou6 hbey
              go_wp2_with fail
              go_ret2
              exact ⟨_, [], false, rfl, HBEY.out, by simp, ⟨none, 0, 0, rfl⟩, hB6w⟩
    · obtain rfl : k = gs.length := by omega
      have hlne := nowL_ne HRI.out HG.out hnow
      have hl0 : 0 < l.length := by
        rcases l with _ | ⟨q, r⟩
        · exact absurd rfl hlne
        · simp
      obtain ⟨x, hx⟩ := at_lt (xs := l) (i := 0) hl0
      obtain ⟨y, hy⟩ := at_lt (xs := l) (i := l.length - 1) (by omega)
      have HEND := hid (innerR_end HRI.out HG.out hnow hx hy)
      have hxb := hnow.2.2 x (List.mem_of_getElem? hx)
      have hyb := hnow.2.2 y (List.mem_of_getElem? hy)
      have hxo : I64 x := ⟨by omega, by omega⟩
      have hyo : I64 y := ⟨by omega, by omega⟩
      obtain ⟨bb, oo, v1, rfl, hbb, ⟨hv1, _⟩, hcx⟩ := list_at1 rfl hrow hx
      simp only [List.cons.injEq, and_true] at hv1
      subst hv1
      obtain ⟨bb', oo', v2, hA', _, ⟨hv2, _⟩, hcy⟩ := list_at1 rfl hrow hy
      simp only [Option.some.injEq, Addr.mk.injEq, and_true] at hA'
      obtain ⟨rfl, rfl⟩ := hA'
      simp only [List.cons.injEq, and_true] at hv2
      subst hv2
      have hln : ((l.length - 1 : Nat) : Int) = (l.length : Int) - 1 := by omega
      obtain ⟨m, hm9⟩ : ∃ m : Nat, m = l.length - 1 := ⟨_, rfl⟩
      rw [← hm9] at hcy
      have hml : (l.length : Int) - 1 = (m : Int) := by omega
      have hml2 : (m : Int) < l.length := by omega
      have hcx' : wo.cell? ⟨bb, oo, none⟩ = some (.int .i64 x) := by simpa [intR] using hcx
      have hcy' : wo.cell? ⟨bb, oo + m, none⟩ = some (.int .i64 y) := by simpa [intR] using hcy
      have HSP := hid fun W (hW : Below wo.heap.size wo W) => Spans_calls l (.slice (some ⟨bb, oo, none⟩) l.length cq) W ((listR intR).below hrow hW hW.size) (by omega) (fun z hz => hnow.2.2 z hz)
      clear hrow hX hB hlt hlne hx hy hcx hcy hnow HNOW HROW hm9 hln
      by_cases hx0 : 0 ≤ x
      · by_cases hy0 : y ≤ 1114111
        · have HR : Hid (InnerR t gs (spansF l) true) := hid (by have := HEND.out; rw [decide_eq_true hx0, decide_eq_true hy0] at this; exact this)
          clear HEND
          go_wp2_with fail
          obtain ⟨ι, W, ⟨i0, hi0⟩, hW, Wsur⟩ := ext_class wo.drew
          have hne : Nonempty ι := ⟨i0⟩
          have WS := hid Wsur; clear Wsur
          have HW := hid hW; clear hW
          have Hi0 := hid hi0; clear hi0
          have g1 : ∀ i, (W i).cell? ⟨bb, oo, none⟩ = some (.int .i64 x) := fun i => ((HW.out i).cell (p := ⟨bb, oo, none⟩) hbb).trans hcx'
          have g2 : ∀ i, (W i).cell? ⟨bb, oo + m, none⟩ = some (.int .i64 y) := fun i => ((HW.out i).cell (p := ⟨bb, oo + m, none⟩) hbb).trans hcy'
          refine region_anyL (S := fun w' => ∃ i, w' = W i) (last := 17) (by kernel_rfl) ?_
          refine anyL_seg 0 1 (by kernel_rfl) (fun _ _ _ _ _ h => h) ⟨i0, Hi0.out.symm⟩ (f := 16) rfl (by kernel_rfl) (by kernel_rfl) ?_
          simp only [List.drop_zero, List.take_succ_cons, List.take_zero]
          repeat go_big_quiet_step (fail)
          refine wpQuiet_nil ?_
          refine anyL_seg 2 4 (by kernel_rfl) (fun _ _ _ _ _ h => h) ⟨i0, Hi0.out.symm⟩ (f := 12) rfl (by kernel_rfl) (by kernel_rfl) ?_
          simp only [List.drop_succ_cons, List.drop_zero, List.take_succ_cons, List.take_zero]
          repeat go_big_quiet_step (fail)
          refine wpQuiet_nil ?_
          refine anyL_act (i := 1) (by kernel_rfl) rfl rfl ?_
          intro K hK
          go_wp2_with fail
          refine (HSP.out _ (Below.refl _ wo).drew).mono ?_
          rintro e w7 ⟨u7, rfl, ho7, hB7⟩
          obtain ⟨A7, c7, rfl, hc7, hm7⟩ := list_form ho7.rel
          have hS7 : ∃ i, w7 = W i := WS.out i0 _ (by rw [Hi0.out]; exact hB7)
          have k1 : w7.cell? ⟨bb, oo, none⟩ = some (.int .i64 x) := (hB7.cell (p := ⟨bb, oo, none⟩) hbb).trans hcx'
          have k2 : w7.cell? ⟨bb, oo + m, none⟩ = some (.int .i64 y) := (hB7.cell (p := ⟨bb, oo + m, none⟩) hbb).trans hcy'
          go_wp2_with fail
          refine hK.out _ _ (fun _ => hS7) ?_
          clear hK K
          refine anyL_seg 6 11 (by kernel_rfl) (fun _ _ _ _ _ h => h) hS7 (f := 0) rfl (by kernel_rfl) (by kernel_rfl) ?_
          simp only [List.drop_succ_cons, List.drop_zero, List.take_succ_cons, List.take_zero]
          repeat go_big_quiet_step (fail)
          refine wpQuiet_nil ?_
          refine anyL_done (by kernel_rfl) ?_ 0
          clear hS7 g1 g2 WS HW Hi0 hne i0 W ι k1 k2
          have hB7w := HB.out.trans (show Below w.heap.size wo w7 from ⟨hB7.os, hB7.tape, hB7.output, hB7.size, fun q hq => hB7.block q (Nat.lt_of_lt_of_le hq hsw)⟩)
          go_wp2_with fail
          go_ret2
          exact ⟨_, _, true, rfl, HR.out, fun _ => ⟨OwnS.base ho7 hsw, Nat.le_trans (spansF_length l) (by omega)⟩, ⟨_, _, _, rfl⟩, hB7w⟩
        · exact absurd hyb.2 hy0
      · have HR : Hid (InnerR t gs (spansF l) false) := hid (by have := HEND.out; rw [decide_eq_false hx0] at this; exact this)
        have hx0' : decide (0 ≤ x) = false := decide_eq_false hx0
        clear HEND
        go_wp2_with fail
        obtain ⟨ι, W, ⟨i0, hi0⟩, hW, Wsur⟩ := ext_class wo.drew
        have hne : Nonempty ι := ⟨i0⟩
        have WS := hid Wsur; clear Wsur
        have HW := hid hW; clear hW
        have Hi0 := hid hi0; clear hi0
        have g1 : ∀ i, (W i).cell? ⟨bb, oo, none⟩ = some (.int .i64 x) := fun i => ((HW.out i).cell (p := ⟨bb, oo, none⟩) hbb).trans hcx'
        have g2 : ∀ i, (W i).cell? ⟨bb, oo + m, none⟩ = some (.int .i64 y) := fun i => ((HW.out i).cell (p := ⟨bb, oo + m, none⟩) hbb).trans hcy'
        refine region_anyL (S := fun w' => ∃ i, w' = W i) (last := 17) (by kernel_rfl) ?_
        refine anyL_seg 0 1 (by kernel_rfl) (fun _ _ _ _ _ h => h) ⟨i0, Hi0.out.symm⟩ (f := 16) rfl (by kernel_rfl) (by kernel_rfl) ?_
        simp only [List.drop_zero, List.take_succ_cons, List.take_zero]
        repeat go_big_quiet_step (fail)
        refine wpQuiet_nil ?_
        refine anyL_seg 2 4 (by kernel_rfl) (fun _ _ _ _ _ h => h) ⟨i0, Hi0.out.symm⟩ (f := 12) rfl (by kernel_rfl) (by kernel_rfl) ?_
        simp only [List.drop_succ_cons, List.drop_zero, List.take_succ_cons, List.take_zero]
        repeat go_big_quiet_step (fail)
        refine wpQuiet_nil ?_
        refine anyL_act (i := 1) (by kernel_rfl) rfl rfl ?_
        intro K hK
        go_wp2_with fail
        refine (HSP.out _ (Below.refl _ wo).drew).mono ?_
        rintro e w7 ⟨u7, rfl, ho7, hB7⟩
        obtain ⟨A7, c7, rfl, hc7, hm7⟩ := list_form ho7.rel
        have hS7 : ∃ i, w7 = W i := WS.out i0 _ (by rw [Hi0.out]; exact hB7)
        have k1 : w7.cell? ⟨bb, oo, none⟩ = some (.int .i64 x) := (hB7.cell (p := ⟨bb, oo, none⟩) hbb).trans hcx'
        have k2 : w7.cell? ⟨bb, oo + m, none⟩ = some (.int .i64 y) := (hB7.cell (p := ⟨bb, oo + m, none⟩) hbb).trans hcy'
        go_wp2_with fail
        refine hK.out _ _ (fun _ => hS7) ?_
        clear hK K
        refine anyL_seg 6 11 (by kernel_rfl) (fun _ _ _ _ _ h => h) hS7 (f := 0) rfl (by kernel_rfl) (by kernel_rfl) ?_
        simp only [List.drop_succ_cons, List.drop_zero, List.take_succ_cons, List.take_zero]
        repeat go_big_quiet_step (fail)
        refine wpQuiet_nil ?_
        refine anyL_done (by kernel_rfl) ?_ 0
        clear hS7 g1 g2 WS HW Hi0 hne i0 W ι k1 k2
        have hB7w := HB.out.trans (show Below w.heap.size wo w7 from ⟨hB7.os, hB7.tape, hB7.output, hB7.size, fun q hq => hB7.block q (Nat.lt_of_lt_of_le hq hsw)⟩)
        go_wp2_with fail
        go_ret2
        exact ⟨_, _, false, rfl, HR.out, fun _ => ⟨OwnS.base ho7 hsw, Nat.le_trans (spansF_length l) (by omega)⟩, ⟨_, _, _, rfl⟩, hB7w⟩
end Go.Proofs.Ytflllgbjlfpgcaa
