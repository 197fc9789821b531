/-
  What the machines that escape are made of: escape.one, escape.plain, part.taken, part.Pre, escape.nibble.
-/
import Derived.Test.YthfcbbdghggefaaGreatPe
import Derived.Test.YthfcbbdghggefaaGreatPg
import Derived.Test.YthfcbbdghggefaaGreatPj
import Derived.Test.YthfcbbdghggefaaGreatQMkA
import Derived.Test.YthfcbbdghggefaaGreatQEsA
namespace Go.Proofs.YthfcbbdghggefaaGreat
open Go.RowKit Go.Um Go.Proofs
theorem okI {x : Int} (h : -1000000000 ≤ x ∧ x ≤ 1000000000) : I64 x := ⟨by omega, by omega⟩
def SetPost (S : List Span) (w : World) (e : Ending) (w' : World) : Prop := ∃ u, e = .returned u ∧ OwnS 75 w' w.heap.size u S ∧ Below w.heap.size w w'
set_option maxHeartbeats 1000000 in
set_option maxRecDepth 100000 in
theorem one_calls (A B : Option Addr) (n c m d : Nat) (w : World) : Calls Tryz.prog 65 #[.slice A n c, .slice B m d] w fun e w' => e = .returned (.agg #[.int .i64 0, .int .i64 0, .slice (some ⟨w.heap.size + 1, 0, none⟩) 1 1, .int .i64 1, .slice B m d]) ∧ w'.heap[w.heap.size + 1]? = some (.cells #[.slice A n c] 76) ∧ w'.heap.size = w.heap.size + 2 ∧ Below w.heap.size w w' := by
  go_enter Tryz.func65, Tryz.ntmps65
  go_wp2_with fail
  exact bodyPost_ret (v := .agg #[.int .i64 0, .int .i64 0, .slice (some ⟨w.heap.size + 1, 0, none⟩) 1 1, .int .i64 1, .slice B m d]) (by simp [results, Tryz.results65, go_sem]) rfl ⟨rfl, by
    have := heap_alloc_new (w.alloc (.cells #[.int .i64 0, .int .i64 0, .slice (some ⟨w.heap.size + 1, 0, none⟩) 1 1, .int .i64 1, .slice B m d] 46)) (.cells #[.slice A n c] 76)
    simpa using this, by simp, ((Below.refl w.heap.size w).alloc (Nat.le_refl _) _).alloc (by simp) _⟩
set_option maxHeartbeats 1000000 in
set_option maxRecDepth 100000 in
theorem eplain_calls (w : World) : Calls Tryz.prog 68 #[] w (SetPost plainP w) := by
  have hF := FL.lits (e := 75) (r := spanR) (w := w) (b0 := w.heap.size) (base := w.heap.size) (css := [[.int .i64 97, .int .i64 122], [.int .i64 65, .int .i64 90], [.int .i64 48, .int .i64 57], [.int .i64 45, .int .i64 46], [.int .i64 95, .int .i64 95], [.int .i64 126, .int .i64 126]]) (xs := [⟨97, 122⟩, ⟨65, 90⟩, ⟨48, 57⟩, ⟨45, 46⟩, ⟨95, 95⟩, ⟨126, 126⟩])
    (cells := #[.int .i64 97, .int .i64 122, .int .i64 65, .int .i64 90, .int .i64 48, .int .i64 57, .int .i64 45, .int .i64 46, .int .i64 95, .int .i64 95, .int .i64 126, .int .i64 126]) ⟨⟨rfl, okI (by decide), okI (by decide)⟩, ⟨rfl, okI (by decide), okI (by decide)⟩, ⟨rfl, okI (by decide), okI (by decide)⟩, ⟨rfl, okI (by decide), okI (by decide)⟩, ⟨rfl, okI (by decide), okI (by decide)⟩, ⟨rfl, okI (by decide), okI (by decide)⟩, trivial⟩ rfl (Nat.le_refl _) (by unfold maxLen; simp)
  have HN := hid (Norm_calls _ _ _ hF.upto (by simp))
  have hn : normF [⟨97, 122⟩, ⟨65, 90⟩, ⟨48, 57⟩, ⟨45, 46⟩, ⟨95, 95⟩, ⟨126, 126⟩] = plainP := by decide +kernel
  rw [hn] at HN
  clear hF hn
  go_enter Tryz.func68, Tryz.ntmps68
  go_wp2_with fail
  refine HN.out.mono ?_
  rintro e w1 ⟨u, rfl, ho, hB⟩
  have HO := hid (ho.base (show w.heap.size ≤ _ by simp))
  have HB := hid (((Below.refl w.heap.size w).alloc (Nat.le_refl _) _).trans (hB.mono (by simp)))
  clear ho hB
  go_wp2_with fail
  go_ret
  exact ⟨_, rfl, HO.out, HB.out⟩
set_option maxHeartbeats 1000000 in
set_option maxRecDepth 100000 in
theorem taken_calls (d a b : Int) (v : Value) (w : World) (h : spansR.rel w (upto w.heap.size) [v] [⟨a, b⟩]) : Calls Tryz.prog 116 #[.agg #[.int .i64 0, .int .i64 d, .int .i64 4, .int .i64 0], v] w (SetPost (meetF [⟨a, b⟩] [⟨0, 15⟩]) w) := by
  obtain ⟨A, c, rfl, hc, hm⟩ := list_form h
  have hn := own_new (w := (w.alloc (.cells #[.int .i64 0, .int .i64 d, .int .i64 4, .int .i64 0] 72)).alloc (.cells #[.slice A 1 c] 76)) (e := 75) (x := ⟨0, 15⟩) ⟨okI (by simp), okI (by simp)⟩
  dsimp only at hn
  have hB0 : Below w.heap.size w (((w.alloc (.cells #[.int .i64 0, .int .i64 d, .int .i64 4, .int .i64 0] 72)).alloc (.cells #[.slice A 1 c] 76)).alloc (.cells #[.int .i64 0, .int .i64 15] 75)) := (((Below.refl w.heap.size w).alloc (Nat.le_refl _) _).alloc (by simp) _).alloc (by simp; omega) _
  have HM := hid (Meet_calls [⟨a, b⟩] [⟨0, 15⟩] _ _ _ (spansR.below h hB0 hB0.size) hn.rel (by simp) (by simp))
  rw [World.size_alloc, World.size_alloc] at HM
  clear hn h
  refine callsIn_wide.1 (callsIn_of_wp_marks (n := 3) Tryz.func116 rfl trivial (wpIn_wide.2 ?_) rfl)
  simp only [Tryz.ntmps116, List.size_toArray, List.length_cons, List.length_nil, Nat.reduceAdd, Nat.reduceSub, Array.replicate_succ, Array.replicate_zero, List.push_toArray, List.append_toArray, List.nil_append, List.cons_append]
  go_wp2_with fail
  refine HM.out.mono ?_
  rintro e w1 ⟨u, rfl, ho, hB⟩
  have HO := hid (ho.base hB0.size)
  have HB := hid (hB0.trans (hB.mono hB0.size))
  clear ho hB hB0
  go_wp2_with fail
  refine ⟨_, results_tmp rfl _ _ _, _, rfl, ?_, HB.out⟩
  exact HO.out
/-- the numbers of which four bits are within the digits. -/
def preL (d a b : Int) : List Span := (List.range (if d = 4 then 1 else 16)).map fun (j : Nat) => ⟨max 0 ((16 * (j : Int) + a) * pw d), min 255 ((16 * (j : Int) + b + 1) * pw d - 1)⟩
theorem or_dig (j : Nat) (a : Int) (hj : j < 16) (ha : 0 ≤ a ∧ a ≤ 15) : bits .or .i64 ((j : Int) * 16) a = 16 * (j : Int) + a := by
  have h : ((List.range 16).all fun j => (List.range 16).all fun a => bits .or .i64 ((j : Int) * 16) (a : Int) == 16 * (j : Int) + a) = true := by decide +kernel
  have := List.all_eq_true.1 (List.all_eq_true.1 h j (List.mem_range.2 hj)) a.toNat (List.mem_range.2 (by omega))
  rw [show ((a.toNat : Nat) : Int) = a by omega] at this
  simpa using this
set_option maxHeartbeats 1000000 in
set_option maxRecDepth 100000 in
theorem Pre0_calls (a b : Int) (hab : 0 ≤ a ∧ a ≤ b ∧ b ≤ 15) (hm : meetF [⟨a, b⟩] [⟨0, 15⟩] = [⟨a, b⟩]) (v u : Value) (w : World) (hs : spansR.rel w (upto w.heap.size) [v] [⟨0, 255⟩]) (h : spansR.rel w (upto w.heap.size) [u] [⟨a, b⟩]) :
    Calls Tryz.prog 97 #[.agg #[.int .i64 0, .int .i64 0, .int .i64 4, .int .i64 0], v, u] w (SetPost (normF (preL 0 a b)) w) := by
  have HB := hid fun W => bits_calls ⟨0, 0, 4, 0⟩ W
  rw [show bitsF ⟨0, 0, 4, 0⟩ = true by decide] at HB
  unfold pval at HB
  dsimp only at HB
  obtain ⟨inf, hi0, hz0, hz1, hz2⟩ := info_parts info46
  obtain ⟨A, c, rfl, hc, hmx⟩ := list_form hs
  obtain ⟨A2, c2, rfl, hc2, hmx2⟩ := list_form h
  have HT := hid fun W (hW : Below w.heap.size w W) => taken_calls 0 a b _ W (spansR.below h hW hW.size)
  rw [hm] at HT
  have HSS := hid hs
  clear hs h
  go_enter Tryz.func97, Tryz.ntmps97
  go_wp2_with fail
  refine (HB.out _).mono ?_
  rintro e w1 ⟨rfl, hB1⟩
  have hX1 := (hB1.block w.heap.size (by simp)).trans (heap_alloc_new w _)
  have hBw1 : Below w.heap.size w w1 := ((Below.refl w.heap.size w).alloc (Nat.le_refl _) _).trans (hB1.mono (by simp))
  have hXl := heapLtM hX1
  have c0 := cell_of_row _ _ 0 _ _ _ hX1
  have c1 := cell_of_row _ _ 1 _ _ _ hX1
  have c2' := cell_of_row _ _ 2 _ _ _ hX1
  have c3 := cell_of_row _ _ 3 _ _ _ hX1
  clear hB1
  go_wp2_with fail
  refine (HT.out _ hBw1).mono ?_
  rintro e w2 ⟨u2, rfl, ho2, hB2⟩
  have hX2 := (hB2.block _ hXl).trans hX1
  have hBw2 : Below w.heap.size w w2 := hBw1.trans (hB2.mono hBw1.size)
  have hn := own_new (w := w2) (e := 75) (x := ⟨0, 2097151⟩) ⟨okI (by simp), okI (by simp)⟩
  dsimp only at hn
  have hB0 : Below w2.heap.size w2 (w2.alloc (.cells #[.int .i64 0, .int .i64 2097151] 75)) := (Below.refl _ w2).alloc (Nat.le_refl _) _
  have hBw20 := hBw2.alloc hBw2.size (.cells #[.int .i64 0, .int .i64 2097151] 75)
  have HM := hid (Meet_calls [⟨0, 255⟩] [⟨0, 2097151⟩] _ _ _ (spansR.below HSS.out hBw20 hBw20.size) hn.rel (by simp) (by simp))
  rw [show meetF [⟨0, 255⟩] [⟨0, 2097151⟩] = [⟨0, 255⟩] by decide +kernel] at HM
  obtain ⟨A5, c5, rfl, hc5, hm5⟩ := list_form ho2.rel
  have hl2 : w.heap.size < w2.heap.size := heapLtM hX2
  clear hn c0 c1 c2' c3
  go_wp2_with fail
  refine HM.out.mono ?_
  rintro e w3 ⟨u3, rfl, ho3, hB3⟩
  have hB23 : Below w2.heap.size w2 w3 := hB0.trans (hB3.mono (by simp))
  have hX3 := (hB23.block _ hl2).trans hX2
  have hr5 := spansR.below ho2.rel hB23 hB23.size
  obtain ⟨b5, o5, rfl, hb5, y0, y1, _, _⟩ := span_at hr5 (i := 0) (x := ⟨a, b⟩) rfl
  obtain ⟨A6, c6, rfl, hc6, hm6⟩ := list_form ho3.rel
  obtain ⟨b6, o6, rfl, hb6, z0, z1, _, _⟩ := span_at ho3.rel (i := 0) (x := ⟨0, 255⟩) rfl
  have HBw3 := hid (hBw2.trans (hB23.mono hBw2.size))
  have hl3 : w.heap.size < w3.heap.size := heapLtM hX3
  simp only [List.length_cons, List.length_nil, Nat.zero_add, Nat.zero_mul, Nat.add_zero] at y0 y1 z0 z1 hc5 hc6 ⊢
  have hb5' : b5 < w3.heap.size := hb5
  have hb6' : b6 < w3.heap.size := hb6
  clear ho2 ho3 hB2 hB3 hB0 hBw20 hr5 hb5 hb6 hm5 hm6 hB23
  go_wp2_with fail
  refine wp_loop_rounds 2 ?_
  rw [rounds_succ]
  go_wp2_with fail
  obtain ⟨wx, hwx⟩ : ∃ wx, wx = w3.alloc (.cells #[.int .i64 0, .int .i64 255] 75) := ⟨_, rfl⟩
  rw [← hwx]
  have hBx : Below w3.heap.size w3 wx := by rw [hwx]; exact (Below.refl _ w3).alloc (Nat.le_refl _) _
  have hXx : wx.heap[w3.heap.size]? = some (.cells #[.int .i64 0, .int .i64 255] 75) := by rw [hwx]; exact heap_alloc_new _ _
  have hsx : wx.heap.size = w3.heap.size + 1 := by rw [hwx]; simp
  clear hwx
  have HC := hid fun W (hW : Below wx.heap.size wx W) => (⟨(hW.cell (p := ⟨w3.heap.size, 0, none⟩) (by simp only; omega)).trans (cell_of_row _ _ 0 _ _ _ hXx), (hW.cell (p := ⟨w3.heap.size, 1, none⟩) (by simp only; omega)).trans (cell_of_row _ _ 1 _ _ _ hXx),
    (hW.cell (p := ⟨w.heap.size, 1, none⟩) (by simp only; omega)).trans ((hBx.cell (p := ⟨w.heap.size, 1, none⟩) hl3).trans (cell_of_row _ _ 1 _ _ _ hX3)), (hW.cell (p := ⟨w.heap.size, 2, none⟩) (by simp only; omega)).trans ((hBx.cell (p := ⟨w.heap.size, 2, none⟩) hl3).trans (cell_of_row _ _ 2 _ _ _ hX3)),
    (hW.cell (p := ⟨b5, o5, none⟩) (by simp only; omega)).trans ((hBx.cell (p := ⟨b5, o5, none⟩) hb5').trans y0), (hW.cell (p := ⟨b5, o5 + 1, none⟩) (by simp only; omega)).trans ((hBx.cell (p := ⟨b5, o5 + 1, none⟩) hb5').trans y1)⟩ :
    W.cell? ⟨w3.heap.size, 0, none⟩ = some (.int .i64 0) ∧ W.cell? ⟨w3.heap.size, 1, none⟩ = some (.int .i64 255) ∧ W.cell? ⟨w.heap.size, 1, none⟩ = some (.int .i64 0) ∧ W.cell? ⟨w.heap.size, 2, none⟩ = some (.int .i64 4) ∧ W.cell? ⟨b5, o5, none⟩ = some (.int .i64 a) ∧ W.cell? ⟨b5, o5 + 1, none⟩ = some (.int .i64 b))
  have HBwx := hid (HBw3.out.trans (hBx.mono HBw3.out.size))
  have hbl5 : b5 < wx.heap.size := by omega
  have hbl3 : w3.heap.size < wx.heap.size := by omega
  have hblw : w.heap.size < wx.heap.size := by omega
  clear hBx hXx hsx y0 y1 z0 z1 hX3 hX2 hX1
  obtain ⟨x0, x1, p1, p2, q0, q1⟩ := HC.out wx (Below.refl _ _)
  go_wp2_with fail
  go_quiet (fail)
  go_wp2_with fail
  obtain ⟨wy, hwy⟩ : ∃ wy, wy = wx.drewN nq := ⟨_, rfl⟩
  rw [← hwy]
  have hBy : Below wx.heap.size wx wy := by rw [hwy]; exact below_drewN (Below.refl _ wx) nq
  have hsy : wx.heap.size ≤ wy.heap.size ∧ wy.heap.size ≤ wx.heap.size := by rw [hwy]; exact ⟨Nat.le_refl _, Nat.le_refl _⟩
  clear hwy
  clear x0 x1 p1 p2 q0 q1
  go_loopw [8, 11] (fun vo vj wr => ∃ k : Nat, k ≤ 16 ∧ vj = .int .i64 k ∧ (∃ vo', vo' = vo ∧ OwnS 75 wr wy.heap.size vo' ((preL 0 a b).take k)) ∧ Below wy.heap.size wy wr) (fun _ vj _ => 16 - (intOf vj).toNat)
  case atStart => exact ⟨0, Nat.zero_le _, rfl, ⟨_, rfl, World.ownsRow_nil _ _ _ _, fun y hy => by cases hy⟩, Below.refl _ _⟩
  case round =>
    obtain ⟨wo, hwo⟩ : ∃ wo, wo = wr := ⟨_, rfl⟩
    subst hwo
    obtain ⟨k, hk, rfl, ⟨vo, rfl, ho⟩, hB⟩ := hrel
    have hBo : Below wx.heap.size wx wo := hBy.trans (hB.mono (by omega))
    obtain ⟨L, hL⟩ : ∃ L, L = (preL 0 a b).take k := ⟨_, rfl⟩
    rw [← hL] at ho
    obtain ⟨Ao, co, rfl, hco, hmo⟩ := list_form ho.rel
    unfold maxLen at hmo
    have hLl : L.length ≤ 16 := by rw [hL]; simp; omega
    have HO := hid ho
    have HB := hid hB
    have HBo := hid hBo
    have hso := hBo.size
    have hsr := hB.size
    obtain ⟨x0, x1, p1, p2, q0, q1⟩ := HC.out wo hBo
    clear ho hB hBo
    by_cases hlt : k < 16
    · have HSN : Hid ((preL 0 a b).take (k + 1) = L ++ [⟨16 * (k : Int) + a, 16 * (k : Int) + b⟩]) := hid (by
        rw [List.take_add_one, ← hL]
        congr 1
        unfold preL
        rw [List.getElem?_map, List.getElem?_range (show k < (if (0 : Int) = 4 then 1 else 16) by simpa using hlt)]
        simp [pw]
        omega)
      have hOR := or_dig k a (by omega) (by omega)
      have hOR2 := or_dig k b (by omega) (by omega)
      skip
      clear hL
      go_wp2_with fail
      go_quiet (fail)
      obtain ⟨wa, hwa⟩ : ∃ wa, wa = wo.drewN nq := ⟨_, rfl⟩
      rw [← hwa]
      have hBa : Below wo.heap.size wo wa := by rw [hwa]; exact below_drewN (Below.refl _ wo) nq
      have hsa : wo.heap.size ≤ wa.heap.size ∧ wa.heap.size ≤ wo.heap.size := by rw [hwa]; exact ⟨Nat.le_refl _, Nat.le_refl _⟩
      clear hwa
      have hBwa : Below wx.heap.size wx wa := HBo.out.trans (hBa.mono hso)
      clear x0 x1 p1 p2 q0 q1
      obtain ⟨x0, x1, p1, p2, q0, q1⟩ := HC.out wa hBwa
      go_wp2_with fail
      refine wp_loop_rounds 2 ?_
      rw [rounds_succ]
      go_wp2_with fail
      obtain ⟨wb, hwb⟩ : ∃ wb, wb = wa.alloc (.cells #[.int .i64 a, .int .i64 b] 75) := ⟨_, rfl⟩
      rw [← hwb]
      have hBb : Below wa.heap.size wa wb := by rw [hwb]; exact (Below.refl _ wa).alloc (Nat.le_refl _) _
      have hXb : wb.heap[wa.heap.size]? = some (.cells #[.int .i64 a, .int .i64 b] 75) := by rw [hwb]; exact heap_alloc_new _ _
      clear hwb x0 x1 p1 p2 q0 q1
      have hBwb : Below wx.heap.size wx wb := hBwa.trans (hBb.mono hBwa.size)
      obtain ⟨x0, x1, p1, p2, q0, q1⟩ := HC.out wb hBwb
      have s0 := cell_of_row _ _ 0 _ _ _ hXb
      have s1 := cell_of_row _ _ 1 _ _ _ hXb
      have hbl : wa.heap.size < wb.heap.size := heapLtM hXb
      have hblx : w3.heap.size < wb.heap.size := by omega
      have hblw' : w.heap.size < wb.heap.size := by omega
      go_quiet (fail)
      rw [show max 0 (16 * (k : Int) + a) = 16 * (k : Int) + a by omega]
      obtain ⟨wc, hwc⟩ : ∃ wc, wc = wb.drewN nq := ⟨_, rfl⟩
      rw [← hwc]
      have hBc : Below wb.heap.size wb wc := by rw [hwc]; exact below_drewN (Below.refl _ wb) nq
      clear hwc x0 x1 p1 p2 q0 q1
      have hBwc : Below wx.heap.size wx wc := hBwb.trans (hBc.mono hBwb.size)
      obtain ⟨x0, x1, p1, p2, q0, q1⟩ := HC.out wc hBwc
      replace s0 := (hBc.cell (p := ⟨wa.heap.size, 0, none⟩) hbl).trans s0
      replace s1 := (hBc.cell (p := ⟨wa.heap.size, 1, none⟩) hbl).trans s1
      have hsc := hBc.size
      have hbl' : wa.heap.size < wc.heap.size := by omega
      have hblx' : w3.heap.size < wc.heap.size := by omega
      have hblw2 : w.heap.size < wc.heap.size := by omega
      go_wp2_with fail
      go_quiet (fail)
      rw [show min 255 (16 * (k : Int) + b) = 16 * (k : Int) + b by omega]
      obtain ⟨wd, hwd⟩ : ∃ wd, wd = wc.drewN nq := ⟨_, rfl⟩
      rw [← hwd]
      have hBd : Below wc.heap.size wc wd := by rw [hwd]; exact below_drewN (Below.refl _ wc) nq
      clear hwd x0 x1 p1 p2 q0 q1 s0 s1
      have hBwd : Below wx.heap.size wx wd := hBwc.trans (hBd.mono hBwc.size)
      have hle : 16 * (k : Int) + a ≤ 16 * (k : Int) + b := by omega
      have hBod : Below wo.heap.size wo wd := hBa.trans ((hBb.trans ((hBc.trans (hBd.mono hBc.size)).mono hBb.size)).mono hBa.size)
      have hsd := hBod.size
      have hOd : OwnS 75 wd wy.heap.size (.slice Ao L.length co) L := ⟨own_below' HO.out.1 hBod, HO.out.2⟩
      have HOd := hid hOd
      have HBod := hid (HB.out.trans (hBod.mono hsr))
      clear hBa hBb hBc hBd hBwa hBwb hBwc hBwd hBod hOd hsa hsc hXb
      go_wp2_with (at_builtin; refine Hid.out ?_)
      refine hid ?_
      refine wpList_append_own _ rfl _ _ 76 rfl wy.heap.size 75 inf _ 2 16 Tryz.underlying76 hi0 hz0 hz1 hz2 rfl (by decide) _ _ _ rfl (HOd.out.1.alloc _) ⟨wd.heap.size, 0, none⟩ 1 1 [.int .i64 (16 * (k : Int) + a), .int .i64 (16 * (k : Int) + b)] rfl rfl (news_at (w := wd) (cs := #[_, _]) rfl) (by simp [Value.oneCell']) (by unfold maxLen; omega) (by omega) (by simp; omega) ?_
      intro v' w6 hown6 hg6 hn6
      have hbE : Below wy.heap.size wy w6 := (HBod.out.alloc HBod.out.size _).trans (below_grown (HOd.out.1.alloc _) hg6 (Nat.le_refl _) (by simp; omega))
      have HN : Hid (OwnS 75 w6 wy.heap.size v' (L ++ [⟨16 * (k : Int) + a, 16 * (k : Int) + b⟩])) := hid (OwnS.push hown6 HO.out.2 ⟨okI (by dsimp only; omega), okI (by dsimp only; omega)⟩)
      have HBE := hid hbE
      clear hown6 hg6 hn6 hbE
      go_wp2_with fail
      rw [rounds_succ]
      go_wp2_with fail
      refine ⟨⟨k + 1, by omega, by first | rfl | (push_cast; rfl), ⟨v', rfl, by rw [HSN.out]; exact HN.out⟩, HBE.out⟩, ?_⟩
      simp [intOf]
      try omega
    · obtain rfl : k = 16 := by omega
      have HF : Hid (L = preL 0 a b) := hid (by rw [hL]; exact List.take_of_length_le (by unfold preL; simp))
      have HSY := hid hsy
      clear hL hsy
      go_wp2_with fail
      go_quiet (fail)
      go_wp2_with fail
      rw [rounds_succ]
      go_wp2_with fail
      refine (Norm_calls L _ _ (spansR.below HO.out.rel (below_drewN (Below.refl _ wo) nq) (Nat.le_refl _)) (by omega)).mono ?_
      rintro e w9 ⟨x9, rfl, ho9, hB9⟩
      have hB9w : Below wo.heap.size wo w9 := ⟨hB9.os, hB9.tape, hB9.output, hB9.size, hB9.block⟩
      have hBwo : Below w.heap.size w wo := HBwx.out.trans (HBo.out.mono HBwx.out.size)
      have HBF := hid (hBwo.trans (hB9w.mono hBwo.size))
      have HOF := hid (ho9.base (show w.heap.size ≤ (wo.drewN nq).heap.size from hBwo.size))
      clear ho9 hB9 hB9w hBwo
      go_wp2_with fail
      go_ret
      refine ⟨_, rfl, ?_, HBF.out⟩
      rw [← HF.out]
      exact HOF.out
set_option maxHeartbeats 1000000 in
set_option maxRecDepth 100000 in
theorem Pre4_calls (a b : Int) (hab : 0 ≤ a ∧ a ≤ b ∧ b ≤ 15) (hm : meetF [⟨a, b⟩] [⟨0, 15⟩] = [⟨a, b⟩]) (v u : Value) (w : World) (hs : spansR.rel w (upto w.heap.size) [v] [⟨0, 255⟩]) (h : spansR.rel w (upto w.heap.size) [u] [⟨a, b⟩]) :
    Calls Tryz.prog 97 #[.agg #[.int .i64 0, .int .i64 4, .int .i64 4, .int .i64 0], v, u] w (SetPost (normF (preL 4 a b)) w) := by
  have HB := hid fun W => bits_calls ⟨0, 4, 4, 0⟩ W
  rw [show bitsF ⟨0, 4, 4, 0⟩ = true by decide] at HB
  unfold pval at HB
  dsimp only at HB
  obtain ⟨inf, hi0, hz0, hz1, hz2⟩ := info_parts info46
  obtain ⟨A, c, rfl, hc, hmx⟩ := list_form hs
  obtain ⟨A2, c2, rfl, hc2, hmx2⟩ := list_form h
  have HT := hid fun W (hW : Below w.heap.size w W) => taken_calls 4 a b _ W (spansR.below h hW hW.size)
  rw [hm] at HT
  have HSS := hid hs
  clear hs h
  go_enter Tryz.func97, Tryz.ntmps97
  go_wp2_with fail
  refine (HB.out _).mono ?_
  rintro e w1 ⟨rfl, hB1⟩
  have hX1 := (hB1.block w.heap.size (by simp)).trans (heap_alloc_new w _)
  have hBw1 : Below w.heap.size w w1 := ((Below.refl w.heap.size w).alloc (Nat.le_refl _) _).trans (hB1.mono (by simp))
  have hXl := heapLtM hX1
  have c0 := cell_of_row _ _ 0 _ _ _ hX1
  have c1 := cell_of_row _ _ 1 _ _ _ hX1
  have c2' := cell_of_row _ _ 2 _ _ _ hX1
  have c3 := cell_of_row _ _ 3 _ _ _ hX1
  clear hB1
  go_wp2_with fail
  refine (HT.out _ hBw1).mono ?_
  rintro e w2 ⟨u2, rfl, ho2, hB2⟩
  have hX2 := (hB2.block _ hXl).trans hX1
  have hBw2 : Below w.heap.size w w2 := hBw1.trans (hB2.mono hBw1.size)
  have hn := own_new (w := w2) (e := 75) (x := ⟨0, 2097151⟩) ⟨okI (by simp), okI (by simp)⟩
  dsimp only at hn
  have hB0 : Below w2.heap.size w2 (w2.alloc (.cells #[.int .i64 0, .int .i64 2097151] 75)) := (Below.refl _ w2).alloc (Nat.le_refl _) _
  have hBw20 := hBw2.alloc hBw2.size (.cells #[.int .i64 0, .int .i64 2097151] 75)
  have HM := hid (Meet_calls [⟨0, 255⟩] [⟨0, 2097151⟩] _ _ _ (spansR.below HSS.out hBw20 hBw20.size) hn.rel (by simp) (by simp))
  rw [show meetF [⟨0, 255⟩] [⟨0, 2097151⟩] = [⟨0, 255⟩] by decide +kernel] at HM
  obtain ⟨A5, c5, rfl, hc5, hm5⟩ := list_form ho2.rel
  have hl2 : w.heap.size < w2.heap.size := heapLtM hX2
  clear hn c0 c1 c2' c3
  go_wp2_with fail
  refine HM.out.mono ?_
  rintro e w3 ⟨u3, rfl, ho3, hB3⟩
  have hB23 : Below w2.heap.size w2 w3 := hB0.trans (hB3.mono (by simp))
  have hX3 := (hB23.block _ hl2).trans hX2
  have hr5 := spansR.below ho2.rel hB23 hB23.size
  obtain ⟨b5, o5, rfl, hb5, y0, y1, _, _⟩ := span_at hr5 (i := 0) (x := ⟨a, b⟩) rfl
  obtain ⟨A6, c6, rfl, hc6, hm6⟩ := list_form ho3.rel
  obtain ⟨b6, o6, rfl, hb6, z0, z1, _, _⟩ := span_at ho3.rel (i := 0) (x := ⟨0, 255⟩) rfl
  have HBw3 := hid (hBw2.trans (hB23.mono hBw2.size))
  have hl3 : w.heap.size < w3.heap.size := heapLtM hX3
  simp only [List.length_cons, List.length_nil, Nat.zero_add, Nat.zero_mul, Nat.add_zero] at y0 y1 z0 z1 hc5 hc6 ⊢
  have hb5' : b5 < w3.heap.size := hb5
  have hb6' : b6 < w3.heap.size := hb6
  clear ho2 ho3 hB2 hB3 hB0 hBw20 hr5 hb5 hb6 hm5 hm6 hB23
  go_wp2_with fail
  refine wp_loop_rounds 2 ?_
  rw [rounds_succ]
  go_wp2_with fail
  obtain ⟨wx, hwx⟩ : ∃ wx, wx = w3.alloc (.cells #[.int .i64 0, .int .i64 255] 75) := ⟨_, rfl⟩
  rw [← hwx]
  have hBx : Below w3.heap.size w3 wx := by rw [hwx]; exact (Below.refl _ w3).alloc (Nat.le_refl _) _
  have hXx : wx.heap[w3.heap.size]? = some (.cells #[.int .i64 0, .int .i64 255] 75) := by rw [hwx]; exact heap_alloc_new _ _
  have hsx : wx.heap.size = w3.heap.size + 1 := by rw [hwx]; simp
  clear hwx
  have HC := hid fun W (hW : Below wx.heap.size wx W) => (⟨(hW.cell (p := ⟨w3.heap.size, 0, none⟩) (by simp only; omega)).trans (cell_of_row _ _ 0 _ _ _ hXx), (hW.cell (p := ⟨w3.heap.size, 1, none⟩) (by simp only; omega)).trans (cell_of_row _ _ 1 _ _ _ hXx),
    (hW.cell (p := ⟨w.heap.size, 1, none⟩) (by simp only; omega)).trans ((hBx.cell (p := ⟨w.heap.size, 1, none⟩) hl3).trans (cell_of_row _ _ 1 _ _ _ hX3)), (hW.cell (p := ⟨w.heap.size, 2, none⟩) (by simp only; omega)).trans ((hBx.cell (p := ⟨w.heap.size, 2, none⟩) hl3).trans (cell_of_row _ _ 2 _ _ _ hX3)),
    (hW.cell (p := ⟨b5, o5, none⟩) (by simp only; omega)).trans ((hBx.cell (p := ⟨b5, o5, none⟩) hb5').trans y0), (hW.cell (p := ⟨b5, o5 + 1, none⟩) (by simp only; omega)).trans ((hBx.cell (p := ⟨b5, o5 + 1, none⟩) hb5').trans y1)⟩ :
    W.cell? ⟨w3.heap.size, 0, none⟩ = some (.int .i64 0) ∧ W.cell? ⟨w3.heap.size, 1, none⟩ = some (.int .i64 255) ∧ W.cell? ⟨w.heap.size, 1, none⟩ = some (.int .i64 4) ∧ W.cell? ⟨w.heap.size, 2, none⟩ = some (.int .i64 4) ∧ W.cell? ⟨b5, o5, none⟩ = some (.int .i64 a) ∧ W.cell? ⟨b5, o5 + 1, none⟩ = some (.int .i64 b))
  have HBwx := hid (HBw3.out.trans (hBx.mono HBw3.out.size))
  have hbl5 : b5 < wx.heap.size := by omega
  have hbl3 : w3.heap.size < wx.heap.size := by omega
  have hblw : w.heap.size < wx.heap.size := by omega
  clear hBx hXx hsx y0 y1 z0 z1 hX3 hX2 hX1
  obtain ⟨x0, x1, p1, p2, q0, q1⟩ := HC.out wx (Below.refl _ _)
  go_wp2_with fail
  go_quiet (fail)
  go_wp2_with fail
  obtain ⟨wy, hwy⟩ : ∃ wy, wy = wx.drewN nq := ⟨_, rfl⟩
  rw [← hwy]
  have hBy : Below wx.heap.size wx wy := by rw [hwy]; exact below_drewN (Below.refl _ wx) nq
  have hsy : wx.heap.size ≤ wy.heap.size ∧ wy.heap.size ≤ wx.heap.size := by rw [hwy]; exact ⟨Nat.le_refl _, Nat.le_refl _⟩
  clear hwy
  clear x0 x1 p1 p2 q0 q1
  go_loopw [8, 11] (fun vo vj wr => ∃ k : Nat, k ≤ 1 ∧ vj = .int .i64 k ∧ (∃ vo', vo' = vo ∧ OwnS 75 wr wy.heap.size vo' ((preL 4 a b).take k)) ∧ Below wy.heap.size wy wr) (fun _ vj _ => 1 - (intOf vj).toNat)
  case atStart => exact ⟨0, Nat.zero_le _, rfl, ⟨_, rfl, World.ownsRow_nil _ _ _ _, fun y hy => by cases hy⟩, Below.refl _ _⟩
  case round =>
    obtain ⟨wo, hwo⟩ : ∃ wo, wo = wr := ⟨_, rfl⟩
    subst hwo
    obtain ⟨k, hk, rfl, ⟨vo, rfl, ho⟩, hB⟩ := hrel
    have hBo : Below wx.heap.size wx wo := hBy.trans (hB.mono (by omega))
    obtain ⟨L, hL⟩ : ∃ L, L = (preL 4 a b).take k := ⟨_, rfl⟩
    rw [← hL] at ho
    obtain ⟨Ao, co, rfl, hco, hmo⟩ := list_form ho.rel
    unfold maxLen at hmo
    have hLl : L.length ≤ 16 := by rw [hL]; simp; omega
    have HO := hid ho
    have HB := hid hB
    have HBo := hid hBo
    have hso := hBo.size
    have hsr := hB.size
    obtain ⟨x0, x1, p1, p2, q0, q1⟩ := HC.out wo hBo
    clear ho hB hBo
    by_cases hlt : k < 1
    · have HSN : Hid ((preL 4 a b).take (k + 1) = L ++ [⟨16 * a, 16 * b + 15⟩]) := hid (by
        rw [List.take_add_one, ← hL]
        congr 1
        unfold preL
        rw [List.getElem?_map, List.getElem?_range (show k < (if (4 : Int) = 4 then 1 else 16) by simpa using hlt)]
        simp [pw]
        omega)
      have hOR := or_dig k a (by omega) (by omega)
      have hOR2 := or_dig k b (by omega) (by omega)
      obtain rfl : k = 0 := by omega
      simp only [Int.natCast_zero, Int.zero_mul, Int.mul_zero, Int.zero_add] at hOR hOR2
      clear hL
      go_wp2_with fail
      go_quiet (fail)
      obtain ⟨wa, hwa⟩ : ∃ wa, wa = wo.drewN nq := ⟨_, rfl⟩
      rw [← hwa]
      have hBa : Below wo.heap.size wo wa := by rw [hwa]; exact below_drewN (Below.refl _ wo) nq
      have hsa : wo.heap.size ≤ wa.heap.size ∧ wa.heap.size ≤ wo.heap.size := by rw [hwa]; exact ⟨Nat.le_refl _, Nat.le_refl _⟩
      clear hwa
      have hBwa : Below wx.heap.size wx wa := HBo.out.trans (hBa.mono hso)
      clear x0 x1 p1 p2 q0 q1
      obtain ⟨x0, x1, p1, p2, q0, q1⟩ := HC.out wa hBwa
      go_wp2_with fail
      refine wp_loop_rounds 2 ?_
      rw [rounds_succ]
      go_wp2_with fail
      obtain ⟨wb, hwb⟩ : ∃ wb, wb = wa.alloc (.cells #[.int .i64 a, .int .i64 b] 75) := ⟨_, rfl⟩
      rw [← hwb]
      have hBb : Below wa.heap.size wa wb := by rw [hwb]; exact (Below.refl _ wa).alloc (Nat.le_refl _) _
      have hXb : wb.heap[wa.heap.size]? = some (.cells #[.int .i64 a, .int .i64 b] 75) := by rw [hwb]; exact heap_alloc_new _ _
      clear hwb x0 x1 p1 p2 q0 q1
      have hBwb : Below wx.heap.size wx wb := hBwa.trans (hBb.mono hBwa.size)
      obtain ⟨x0, x1, p1, p2, q0, q1⟩ := HC.out wb hBwb
      have s0 := cell_of_row _ _ 0 _ _ _ hXb
      have s1 := cell_of_row _ _ 1 _ _ _ hXb
      have hbl : wa.heap.size < wb.heap.size := heapLtM hXb
      have hblx : w3.heap.size < wb.heap.size := by omega
      have hblw' : w.heap.size < wb.heap.size := by omega
      go_quiet (fail)
      rw [show max 0 (a * 16) = 16 * a by omega]
      obtain ⟨wc, hwc⟩ : ∃ wc, wc = wb.drewN nq := ⟨_, rfl⟩
      rw [← hwc]
      have hBc : Below wb.heap.size wb wc := by rw [hwc]; exact below_drewN (Below.refl _ wb) nq
      clear hwc x0 x1 p1 p2 q0 q1
      have hBwc : Below wx.heap.size wx wc := hBwb.trans (hBc.mono hBwb.size)
      obtain ⟨x0, x1, p1, p2, q0, q1⟩ := HC.out wc hBwc
      replace s0 := (hBc.cell (p := ⟨wa.heap.size, 0, none⟩) hbl).trans s0
      replace s1 := (hBc.cell (p := ⟨wa.heap.size, 1, none⟩) hbl).trans s1
      have hsc := hBc.size
      have hbl' : wa.heap.size < wc.heap.size := by omega
      have hblx' : w3.heap.size < wc.heap.size := by omega
      have hblw2 : w.heap.size < wc.heap.size := by omega
      go_wp2_with fail
      go_quiet (fail)
      rw [show min 255 ((b + 1) * 16 - 1) = 16 * b + 15 by omega]
      obtain ⟨wd, hwd⟩ : ∃ wd, wd = wc.drewN nq := ⟨_, rfl⟩
      rw [← hwd]
      have hBd : Below wc.heap.size wc wd := by rw [hwd]; exact below_drewN (Below.refl _ wc) nq
      clear hwd x0 x1 p1 p2 q0 q1 s0 s1
      have hBwd : Below wx.heap.size wx wd := hBwc.trans (hBd.mono hBwc.size)
      have hle : 16 * a ≤ 16 * b + 15 := by omega
      have hBod : Below wo.heap.size wo wd := hBa.trans ((hBb.trans ((hBc.trans (hBd.mono hBc.size)).mono hBb.size)).mono hBa.size)
      have hsd := hBod.size
      have hOd : OwnS 75 wd wy.heap.size (.slice Ao L.length co) L := ⟨own_below' HO.out.1 hBod, HO.out.2⟩
      have HOd := hid hOd
      have HBod := hid (HB.out.trans (hBod.mono hsr))
      clear hBa hBb hBc hBd hBwa hBwb hBwc hBwd hBod hOd hsa hsc hXb
      go_wp2_with (at_builtin; refine Hid.out ?_)
      refine hid ?_
      refine wpList_append_own _ rfl _ _ 76 rfl wy.heap.size 75 inf _ 2 16 Tryz.underlying76 hi0 hz0 hz1 hz2 rfl (by decide) _ _ _ rfl (HOd.out.1.alloc _) ⟨wd.heap.size, 0, none⟩ 1 1 [.int .i64 (16 * a), .int .i64 (16 * b + 15)] rfl rfl (news_at (w := wd) (cs := #[_, _]) rfl) (by simp [Value.oneCell']) (by unfold maxLen; omega) (by omega) (by simp; omega) ?_
      intro v' w6 hown6 hg6 hn6
      have hbE : Below wy.heap.size wy w6 := (HBod.out.alloc HBod.out.size _).trans (below_grown (HOd.out.1.alloc _) hg6 (Nat.le_refl _) (by simp; omega))
      have HN : Hid (OwnS 75 w6 wy.heap.size v' (L ++ [⟨16 * a, 16 * b + 15⟩])) := hid (OwnS.push hown6 HO.out.2 ⟨okI (by dsimp only; omega), okI (by dsimp only; omega)⟩)
      have HBE := hid hbE
      clear hown6 hg6 hn6 hbE
      go_wp2_with fail
      rw [rounds_succ]
      go_wp2_with fail
      refine ⟨⟨0 + 1, by omega, by first | rfl | (push_cast; rfl), ⟨v', rfl, by rw [HSN.out]; exact HN.out⟩, HBE.out⟩, ?_⟩
      simp [intOf]
      try omega
    · obtain rfl : k = 1 := by omega
      have HF : Hid (L = preL 4 a b) := hid (by rw [hL]; exact List.take_of_length_le (by unfold preL; simp))
      have HSY := hid hsy
      clear hL hsy
      go_wp2_with fail
      go_quiet (fail)
      go_wp2_with fail
      rw [rounds_succ]
      go_wp2_with fail
      refine (Norm_calls L _ _ (spansR.below HO.out.rel (below_drewN (Below.refl _ wo) nq) (Nat.le_refl _)) (by omega)).mono ?_
      rintro e w9 ⟨x9, rfl, ho9, hB9⟩
      have hB9w : Below wo.heap.size wo w9 := ⟨hB9.os, hB9.tape, hB9.output, hB9.size, hB9.block⟩
      have hBwo : Below w.heap.size w wo := HBwx.out.trans (HBo.out.mono HBwx.out.size)
      have HBF := hid (hBwo.trans (hB9w.mono hBwo.size))
      have HOF := hid (ho9.base (show w.heap.size ≤ (wo.drewN nq).heap.size from hBwo.size))
      clear ho9 hB9 hB9w hBwo
      go_wp2_with fail
      go_ret
      refine ⟨_, rfl, ?_, HBF.out⟩
      rw [← HF.out]
      exact HOF.out
end Go.Proofs.YthfcbbdghggefaaGreat
