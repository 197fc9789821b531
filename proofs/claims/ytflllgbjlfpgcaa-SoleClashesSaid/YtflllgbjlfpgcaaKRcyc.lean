/-
  The reference's Cycle.
-/
import Derived.Test.YtflllgbjlfpgcaaRows
import Derived.Test.YtflllgbjlfpgcaaKPlain
import Derived.Maps.AppendAt
namespace Go.Proofs.Ytflllgbjlfpgcaa
open Go.RowKit Go.Um Go.Proofs
theorem infoBo : (Try.prog.info? 4).map (fun i => (i.zero, i.size, i.bytes)) = some (some (.bool false), 1, 1) := by kernel_rfl
theorem six' {W : World} {b : Nat} {x0 x1 x2 x3 x4 x5 : Value} {t : TypeId} (h : W.heap[b]? = some (.cells #[x0, x1, x2, x3, x4, x5] t)) :
    W.cell? ⟨b, 0, none⟩ = some x0 ∧ W.cell? ⟨b, 1, none⟩ = some x1 ∧ W.cell? ⟨b, 2, none⟩ = some x2 ∧ W.cell? ⟨b, 3, none⟩ = some x3 ∧ W.cell? ⟨b, 4, none⟩ = some x4 ∧ W.cell? ⟨b, 5, none⟩ = some x5 :=
  ⟨cell_of_row _ _ 0 _ _ _ h, cell_of_row _ _ 1 _ _ _ h, cell_of_row _ _ 2 _ _ _ h, cell_of_row _ _ 3 _ _ _ h, cell_of_row _ _ 4 _ _ _ h, cell_of_row _ _ 5 _ _ _ h⟩
theorem heapLt {w : World} {G : Nat} {o : Obj} (h : w.heap[G]? = some o) : G < w.heap.size := (Array.getElem?_eq_some_iff.1 h).1
def CycB (w wr : World) (d : Desc) (u : Value) (A : Option Addr) (c n : Nat) : Prop := wr.heap[w.heap.size]? = some (.cells #[.int .i64 d.inn, .int .i64 d.out, .int .i64 n, .int .i64 d.start, .slice A d.rules.length c, u] 26) ∧ Below w.heap.size w wr ∧ w.heap.size < wr.heap.size
def CycJ (w wr : World) (d : Desc) (u : Value) (A : Option Addr) (c n G H : Nat) (S : Int → Bool) (vs : Value) (i : Nat) : Prop := vs = .bool (someF (edgesF (d.rules.take i)) S) ∧ BRow wr G 4 (tabN n S) ∧ BRow wr H 4 (tabN n (nextF (edgesF (d.rules.take i)) S)) ∧ CycB w wr d u A c n
def CycI (w wr : World) (E : Edges) (n : Nat) (T : Bool) (vo : Value) (k : Nat) : Prop := ∃ S G, vo = .slice (some ⟨G, 0, none⟩) n n ∧ cycR E (n + 1 - k) S = T ∧ w.heap.size < G ∧ BRow wr G 4 (tabN n S)
set_option maxHeartbeats 4000000 in
set_option maxRecDepth 100000 in
theorem RCycle_calls (d : Desc) (v u : Value) (w : World) (n : Nat) (hv : (listR ruleR).rel w (upto w.heap.size) [v] d.rules) (hn : d.states = n) (hn1 : n ≤ 1024) (_hl : d.rules.length ≤ 4096)
    (hr : ∀ r ∈ d.rules, (0 ≤ r.src ∧ r.src < d.states) ∧ 0 ≤ r.dst ∧ r.dst < d.states) :
    Calls Try.prog 24 #[.agg #[.int .i64 d.inn, .int .i64 d.out, .int .i64 d.states, .int .i64 d.start, v, u]] w fun e w' => e = .returned (.bool (cycR (edgesF d.rules) (n + 1) (fun _ => true))) ∧ Below w.heap.size w w' := by
  obtain ⟨A1, c1, rfl, hc1, hm1⟩ := list_form hv
  unfold maxLen at hm1
  obtain ⟨infb, hib, hzb, hzb1, hzb2⟩ := info_parts infoBo
  have hmk : ∀ W : World, (Instr.makeSlice 72 (.int .i64 n) (.int .i64 n)).run Try.prog W = .ok (.slice (some ⟨W.heap.size, 0, none⟩) n n) (W.alloc (.cells (madeCells #[.bool false] n) 4)) := by
    intro W
    have := make_rowN (P := Try.prog) 72 4 infb (.bool false) Try.underlying72 hib hzb .i64 .i64 n n (Nat.le_refl _) (by rw [hzb2]; omega) (by omega) W
    rw [hzb1, Nat.mul_one] at this
    exact this
  rw [hn] at hr ⊢
  have HR := hid hr
  clear hr
  obtain ⟨T, hT⟩ : ∃ T, T = cycR (edgesF d.rules) (n + 1) (fun _ => true) := ⟨_, rfl⟩
  rw [← hT]
  have HT := hid hT.symm
  clear hT
  go_enter Try.func24, Try.ntmps24
  go_wp2_with fail
  obtain ⟨wx, hwx⟩ : ∃ wx, wx = w.alloc (.cells #[.int .i64 d.inn, .int .i64 d.out, .int .i64 n, .int .i64 d.start, .slice A1 d.rules.length c1, u] 26) := ⟨_, rfl⟩
  have hx0 : wx.heap[w.heap.size]? = some (.cells #[.int .i64 d.inn, .int .i64 d.out, .int .i64 n, .int .i64 d.start, .slice A1 d.rules.length c1, u] 26) := by rw [hwx]; exact heap_alloc_new _ _
  have hxs : wx.heap.size = w.heap.size + 1 := by rw [hwx]; simp
  have hxb : Below w.heap.size w wx := by rw [hwx]; exact (Below.refl _ w).alloc (Nat.le_refl _) _
  have hR0 : BRow (wx.alloc (.cells (madeCells #[.bool false] n) 4)) (w.heap.size + 1) 4 (tabN n (fun x => decide (x < ((0 : Nat) : Int)))) := by
    rw [show tabN n (fun x => decide (x < ((0 : Nat) : Int))) = List.replicate n false by rw [← tabN_none]; exact tabN_congr fun k _ => by simp, ← hxs]
    exact BRow.make wx _ n
  have hX0 : CycB w (wx.alloc (.cells (madeCells #[.bool false] n) 4)) d u A1 c1 n := ⟨by rw [Below.heap_alloc _ _ _ (by omega)]; exact hx0, hxb.alloc (by omega) _, by simp; omega⟩
  have hz0 : w.heap.size + 1 < (wx.alloc (.cells (madeCells #[.bool false] n) 4)).heap.size := by simp; omega
  rw [← hwx]
  clear hx0 hxb
  generalize wx.alloc (.cells (madeCells #[.bool false] n) 4) = wm at *
  rw [hxs] at *
  clear hxs hwx wx
  have hN : ∀ k : Nat, k < n → (tabN n (fun x => decide (x < (k : Int))))[k]? = some false := fun k h => by rw [tabN_get h]; simp
  go_loopw [14] (fun vi wr => ∃ k : Nat, k ≤ n ∧ vi = .int .i64 k ∧ BRow wr (w.heap.size + 1) 4 (tabN n (fun x => decide (x < (k : Int)))) ∧ CycB w wr d u A1 c1 n ∧ w.heap.size + 1 < wr.heap.size) (fun vi _ => n - (intOf vi).toNat)
  case atStart => exact ⟨0, Nat.zero_le _, rfl, hR0, hX0, hz0⟩
  case round =>
    clear hR0 hX0 hz0
    obtain ⟨k, hk, rfl, hR, hX, hz⟩ := hrel
    obtain ⟨wo, hwo⟩ : ∃ wo, wo = wr := ⟨_, rfl⟩
    subst hwo
    by_cases hlt : k < n
    · have hlt' : (k : Int) < n := by omega
      obtain ⟨k1, k2⟩ := hR.at (hN k hlt)
      have HR2 : Hid (BRow (wo.setCell ⟨w.heap.size + 1, k, none⟩ (.bool true)) (w.heap.size + 1) 4 (tabN n (fun x => decide (x < ((k + 1 : Nat) : Int))))) := hid (by have := hR.put k true; rw [tabN_fill] at this; exact this)
      have HX2 : Hid (CycB w (wo.setCell ⟨w.heap.size + 1, k, none⟩ (.bool true)) d u A1 c1 n) := hid ⟨by rw [heap_setCell_other _ _ _ _ (by simp)]; exact hX.1, hX.2.1.setCell (by simp) _, by simpa using hX.2.2⟩
      have hz2 : w.heap.size + 1 < (wo.setCell ⟨w.heap.size + 1, k, none⟩ (.bool true)).heap.size := by simpa using hz
      clear hR hX hlt hN
      go_wp2_with fail
      have HE : Hid (∃ j' : Nat, j' ≤ n ∧ Value.int .i64 ((k : Int) + 1) = .int .i64 j' ∧ BRow (wo.setCell ⟨w.heap.size + 1, k, none⟩ (.bool true)) (w.heap.size + 1) 4 (tabN n (fun x => decide (x < (j' : Int)))) ∧ CycB w (wo.setCell ⟨w.heap.size + 1, k, none⟩ (.bool true)) d u A1 c1 n ∧ w.heap.size + 1 < (wo.setCell ⟨w.heap.size + 1, k, none⟩ (.bool true)).heap.size) := hid ⟨k + 1, by omega, by push_cast; rfl, HR2.out, HX2.out, hz2⟩
      first
        | (refine ⟨HE.out, ?_⟩; simp [intOf]; omega)
        | (go_simp; refine ⟨by simpa using HE.out, ?_⟩; simp [intOf]; omega)
    · obtain rfl : k = n := by omega
      have HR2 : Hid (BRow wo (w.heap.size + 1) 4 (tabN k (fun _ => true))) := hid (by
        rw [tabN_congr (T := fun x => decide (x < (k : Int))) (fun j hj => by simp; omega)]; exact hR)
      have HX2 := hid hX
      clear hR hX hlt hN
      go_wp2_with fail
      go_loopw [3, 5] (fun vo vk wr => ∃ j : Nat, j ≤ k + 1 ∧ vk = .int .i64 j ∧ CycI w wr (edgesF d.rules) k T vo j ∧ CycB w wr d u A1 c1 k) (fun _ vk _ => k + 1 - (intOf vk).toNat)
      case atStart => exact ⟨0, Nat.zero_le _, rfl, ⟨_, _, rfl, HT.out, by omega, HR2.out⟩, HX2.out⟩
      case round =>
        clear HR2 HX2 hz HT
        obtain ⟨j, hj, rfl, ⟨S, G, rfl, hst, hG, hR⟩, hX⟩ := hrel
        obtain ⟨wd, hwd⟩ : ∃ wd, wd = wr := ⟨_, rfl⟩
        subst hwd
        obtain ⟨x1, x2, x3, x4, x5, x6⟩ := six' hX.1
        have HG := hid hR
        have HXo := hid hX
        have hGl := heapLt hR
        by_cases hjn : j ≤ k
        · have hjn' : (j : Int) ≤ k := by omega
          have HST : Hid ((if someF (edgesF d.rules) S then cycR (edgesF d.rules) (k - j) (nextF (edgesF d.rules) S) else false) = T) := hid (by rw [show k + 1 - j = (k - j) + 1 by omega, cycR] at hst; exact hst)
          clear hst hjn
          go_wp2_with fail
          have hR1 : BRow (wd.alloc (.cells (madeCells #[.bool false] k) 4)) wd.heap.size 4 (tabN k (nextF (edgesF (d.rules.take 0)) S)) := by
            rw [show nextF (edgesF (d.rules.take 0)) S = fun _ => false from by funext t; rfl, tabN_none]; exact BRow.make wd _ k
          have hG1 : BRow (wd.alloc (.cells (madeCells #[.bool false] k) 4)) G 4 (tabN k S) := HG.out.carry (Below.heap_alloc _ _ _ hGl)
          have hX1 : CycB w (wd.alloc (.cells (madeCells #[.bool false] k) 4)) d u A1 c1 k := ⟨by rw [Below.heap_alloc _ _ _ hX.2.2]; exact hX.1, hX.2.1.alloc (by omega) _, by simp; omega⟩
          generalize wd.alloc (.cells (madeCells #[.bool false] k) 4) = wm2 at *
          have hwH := hX.2.2
          clear hR hX HG HXo x1 x2 x3 x4 x5 x6
          generalize wd.heap.size = H at *
          go_loopw [7, 8] (fun vs vi wr => ∃ i : Nat, i ≤ d.rules.length ∧ vi = .int .i64 i ∧ CycJ w wr d u A1 c1 k G H S vs i) (fun _ vi _ => d.rules.length - (intOf vi).toNat)
          case atStart => exact ⟨0, Nat.zero_le _, rfl, by rfl, hG1, hR1, hX1⟩
          case round =>
            clear hG1 hR1 hX1
            obtain ⟨i, hi, rfl, rfl, hGr, hHr, hX⟩ := hrel
            obtain ⟨wi, hwi⟩ : ∃ wi, wi = wr := ⟨_, rfl⟩
            subst hwi
            obtain ⟨x1, x2, x3, x4, x5, x6⟩ := six' hX.1
            have HGr := hid hGr
            have HHr := hid hHr
            have HX := hid hX
            have hs := hX.2.1.size
            obtain ⟨sm, hsm⟩ : ∃ sm, sm = someF (edgesF (d.rules.take i)) S := ⟨_, rfl⟩
            rw [← hsm]
            by_cases hlt : i < d.rules.length
            · obtain ⟨⟨sx, dx, gx, ex, ox⟩, hx⟩ := at_lt hlt
              have hlt' : (i : Int) < d.rules.length := by omega
              obtain ⟨⟨hs0, hs1⟩, hd0, hd1⟩ := HR.out _ (List.mem_of_getElem? hx)
              dsimp only at hs0 hs1 hd0 hd1
              obtain ⟨s, rfl⟩ : ∃ s : Nat, sx = s := ⟨sx.toNat, by omega⟩
              obtain ⟨t, rfl⟩ : ∃ t : Nat, dx = t := ⟨dx.toNat, by omega⟩
              have hsn : s < k := by omega
              have htn : t < k := by omega
              have HE : Hid (edgesF (d.rules.take (i + 1)) = edgesF (d.rules.take i) ++ (if gx.length = 0 then [((s : Int), (t : Int))] else [])) := hid (by rw [List.take_add_one, hx]; exact edgesF_snoc _ _)
              obtain ⟨b, o, y, z, rfl, hb, q1, q2, q3, q4, q5, q6, hy, hz⟩ := rule_at ((listR ruleR).mono (below_cells hX.2.1) (fun _ h => h) hv) hx
              obtain ⟨A3, c3, rfl, _, _⟩ := list_form hy
              obtain ⟨A4, c4, rfl, _, _⟩ := list_form hz
              have hbs : b < wi.heap.size := Nat.lt_of_lt_of_le hb hs
              obtain ⟨k1, k2⟩ := hGr.at (tabN_get (S := S) hsn)
              obtain ⟨m1, m2⟩ := hHr.at (tabN_get (S := nextF (edgesF (d.rules.take i)) S) htn)
              have HSM := hid hsm
              clear hsm hGr hHr hX hx hy hz q6 hlt
              dsimp only at q1 q2 q3 q4 q5
              by_cases h0 : gx.length = 0
              · have h0' : ((gx.length : Int) == 0) = true := beq_iff_eq.2 (by omega)
                have HE2 : Hid (edgesF (d.rules.take (i + 1)) = edgesF (d.rules.take i) ++ [((s : Int), (t : Int))]) := hid (by rw [HE.out, if_pos h0])
                clear HE h0
                cases hS : S (s : Int) with
                | true =>
                  rw [hS] at k1
                  have HR2 : Hid (BRow (wi.setCell ⟨H, t, none⟩ (.bool true)) H 4 (tabN k (nextF (edgesF (d.rules.take (i + 1))) S))) := hid (by rw [HE2.out, nextF_yes hS, ← tabN_set]; exact HHr.out.put t true)
                  have HG2 : Hid (BRow (wi.setCell ⟨H, t, none⟩ (.bool true)) G 4 (tabN k S)) := hid (HGr.out.carry (heap_setCell_other _ _ _ _ (by simp only; omega)))
                  have HX2 : Hid (CycB w (wi.setCell ⟨H, t, none⟩ (.bool true)) d u (some ⟨b, o, none⟩) c1 k) := hid ⟨by rw [heap_setCell_other _ _ _ _ (by simp only; omega)]; exact HX.out.1, HX.out.2.1.setCell (by simp only; omega) _, by simpa using HX.out.2.2⟩
                  have HSO : Hid (someF (edgesF (d.rules.take (i + 1))) S = true) := hid (by rw [HE2.out, someF_snoc, hS, Bool.or_true])
                  clear HGr HHr HX HE2 HSM hS
                  go_wp2_with fail
                  have HE : Hid (∃ j' : Nat, j' ≤ d.rules.length ∧ Value.int .i64 ((i : Int) + 1) = .int .i64 j' ∧ CycJ w (wi.setCell ⟨H, t, none⟩ (.bool true)) d u (some ⟨b, o, none⟩) c1 k G H S (.bool true) j') := hid ⟨i + 1, by omega, by push_cast; rfl, by rw [HSO.out], HG2.out, HR2.out, HX2.out⟩
                  first
                    | (refine ⟨HE.out, ?_⟩; simp [intOf]; omega)
                    | (go_simp; refine ⟨by simpa using HE.out, ?_⟩; simp [intOf]; omega)
                | false =>
                  rw [hS] at k1
                  have HR2 : Hid (BRow wi H 4 (tabN k (nextF (edgesF (d.rules.take (i + 1))) S))) := hid (by rw [HE2.out, nextF_no hS]; exact HHr.out)
                  have HSO : Hid (someF (edgesF (d.rules.take (i + 1))) S = sm) := hid (by rw [HE2.out, someF_snoc, hS, Bool.or_false, HSM.out])
                  clear HHr HE2 HSM hS
                  go_wp2_with fail
                  have HE : Hid (∃ j' : Nat, j' ≤ d.rules.length ∧ Value.int .i64 ((i : Int) + 1) = .int .i64 j' ∧ CycJ w wi d u (some ⟨b, o, none⟩) c1 k G H S (.bool sm) j') := hid ⟨i + 1, by omega, by push_cast; rfl, by rw [HSO.out], HGr.out, HR2.out, HX.out⟩
                  first
                    | (refine ⟨HE.out, ?_⟩; simp [intOf]; omega)
                    | (go_simp; refine ⟨by simpa using HE.out, ?_⟩; simp [intOf]; omega)
              · have h0' : ((gx.length : Int) == 0) = false := by rw [beq_eq_false_iff_ne]; omega
                have HE2 : Hid (edgesF (d.rules.take (i + 1)) = edgesF (d.rules.take i)) := hid (by rw [HE.out, if_neg h0, List.append_nil])
                have HR2 : Hid (BRow wi H 4 (tabN k (nextF (edgesF (d.rules.take (i + 1))) S))) := hid (by rw [HE2.out]; exact HHr.out)
                have HSO : Hid (someF (edgesF (d.rules.take (i + 1))) S = sm) := hid (by rw [HE2.out, HSM.out])
                clear HE h0 HHr HE2 HSM
                go_wp2_with fail
                have HE : Hid (∃ j' : Nat, j' ≤ d.rules.length ∧ Value.int .i64 ((i : Int) + 1) = .int .i64 j' ∧ CycJ w wi d u (some ⟨b, o, none⟩) c1 k G H S (.bool sm) j') := hid ⟨i + 1, by omega, by push_cast; rfl, by rw [HSO.out], HGr.out, HR2.out, HX.out⟩
                first
                  | (refine ⟨HE.out, ?_⟩; simp [intOf]; omega)
                  | (go_simp; refine ⟨by simpa using HE.out, ?_⟩; simp [intOf]; omega)
            · obtain rfl : i = d.rules.length := by omega
              rw [List.take_length] at hsm hHr
              cases hb : sm with
              | true =>
                have HST2 : Hid (cycR (edgesF d.rules) (k - j) (nextF (edgesF d.rules) S) = T) := hid (by rw [← HST.out, ← hsm, hb]; rfl)
                have HH2 := hid hHr
                clear HST hsm hHr hGr HGr HHr hX hlt
                go_wp2_with fail
                have HE : Hid (∃ j' : Nat, j' ≤ k + 1 ∧ Value.int .i64 ((j : Int) + 1) = .int .i64 j' ∧ CycI w wi (edgesF d.rules) k T (.slice (some ⟨H, 0, none⟩) k k) j' ∧ CycB w wi d u A1 c1 k) := hid ⟨j + 1, by omega, by push_cast; rfl, ⟨_, _, rfl, by rw [show k + 1 - (j + 1) = k - j by omega]; exact HST2.out, hwH, HH2.out⟩, HX.out⟩
                first
                  | (refine ⟨HE.out, ?_⟩; simp [intOf]; omega)
                  | (go_simp; refine ⟨by simpa using HE.out, ?_⟩; simp [intOf]; omega)
              | false =>
                have HST2 : Hid (false = T) := hid (by rw [← HST.out, ← hsm, hb]; rfl)
                clear HST hsm hHr hGr HGr HHr hlt
                go_wp2_with fail
                go_ret
                exact ⟨by rw [← HST2.out]; rfl, hX.2.1⟩
        · obtain rfl : j = k + 1 := by omega
          have HST : Hid (true = T) := hid (by rw [Nat.sub_self] at hst; exact hst)
          have hjn' : ¬ ((k + 1 : Nat) : Int) ≤ k := by omega
          clear hst
          go_wp2_with fail
          go_ret
          exact ⟨by rw [← HST.out]; rfl, hX.2.1⟩
end Go.Proofs.Ytflllgbjlfpgcaa
