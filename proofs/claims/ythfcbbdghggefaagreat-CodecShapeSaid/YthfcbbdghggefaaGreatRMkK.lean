/-
  What decodes all, with a mark for each part that is no scalar: codec.Repairer.
-/
import Derived.Test.YthfcbbdghggefaaGreatRMkJ
namespace Go.Proofs.YthfcbbdghggefaaGreat
open Go.RowKit Go.Um Go.Proofs
theorem infoFn : (Tryz.prog.info? 49).map (fun i => (i.zero, i.size, i.bytes)) = some (some (.agg #[.int .i64 0, .slice none 0 0, .slice none 0 0]), 3, 56) := by kernel_rfl
def rulesAt (k : Nat) : List Rule := strictD.rules ++ (rowsP.take k).flatMap brokeR
def finsAt (k : Nat) : List Final := strictD.finals ++ (rowsP.take k).flatMap brokeE
def firstAt (k : Nat) : List Span := (rowsP.take k).foldl (fun f g => minusF f (g.getD 0 [])) allB
theorem rulesAt_succ {k : Nat} {g : List (List Span)} (h : rowsP[k]? = some g) : rulesAt (k + 1) = rulesAt k ++ brokeR g := by unfold rulesAt; rw [List.take_add_one, h, List.flatMap_append]; simp
theorem finsAt_succ {k : Nat} {g : List (List Span)} (h : rowsP[k]? = some g) : finsAt (k + 1) = finsAt k ++ brokeE g := by unfold finsAt; rw [List.take_add_one, h, List.flatMap_append]; simp
theorem firstAt_succ {k : Nat} {g : List (List Span)} (h : rowsP[k]? = some g) : firstAt (k + 1) = minusF (firstAt k) (g.getD 0 []) := by unfold firstAt; rw [List.take_add_one, h, List.foldl_append]; rfl
theorem at_small : ∀ k : Fin 10, (rulesAt k).length ≤ 1000 ∧ (finsAt k).length ≤ 1000 ∧ (firstAt k).length ≤ 1000 := by decide +kernel
theorem at_small' {k : Nat} (h : k ≤ 9) : (rulesAt k).length ≤ 1000 ∧ (finsAt k).length ≤ 1000 ∧ (firstAt k).length ≤ 1000 := at_small ⟨k, by omega⟩
theorem brokeR_take {g : List (List Span)} {j : Nat} {sn : List Span} (h : g[j + 1]? = some sn) : (brokeR g).take (j + 1) = (brokeR g).take j ++ [⟨0, 0, g.take (j + 1) ++ [minusF allB sn], (j : Int) + 1, badT⟩] := by
  have hl := (List.getElem?_eq_some_iff.1 h).1
  unfold brokeR
  rw [List.take_add_one, List.getElem?_map, List.getElem?_range (by omega)]
  simp [h]
theorem brokeE_take {g : List (List Span)} {j : Nat} (h : j + 1 < g.length) : (brokeE g).take (j + 1) = (brokeE g).take j ++ [⟨0, g.take (j + 1), badT⟩] := by
  unfold brokeE
  rw [List.take_add_one, List.getElem?_map, List.getElem?_range (by omega)]
  rfl
theorem broke_full (g : List (List Span)) : (brokeR g).take (g.length - 1) = brokeR g ∧ (brokeE g).take (g.length - 1) = brokeE g := ⟨List.take_of_length_le (by simp [brokeR]), List.take_of_length_le (by simp [brokeE])⟩
theorem rows_in : ∀ g ∈ rowsP, ∀ s ∈ g, s ≠ [] ∧ s.length ≤ 1000000 := by decide
theorem strict_calls2 (w : World) : Calls Tryz.prog 9 #[] w fun e w' => ∃ vr vf X, e = .returned (.agg #[.int .i64 1, .int .i64 2, .int .i64 1, .int .i64 0, vr, vf]) ∧ FX 46 ruleR w' w.heap.size X vr strictD.rules ∧ FX 49 finalR w' w.heap.size X vf strictD.finals ∧ (∀ g, X g → g < w'.heap.size) ∧ Below w.heap.size w w' := Strict_calls w
theorem _root_.Go.Um.FX.own_ge {α : Type} {e : TypeId} {r : RepOf α} {w : World} {b0 : Nat} {X : Nat → Prop} {v : Value} {xs : List α} (h : FX e r w b0 X v xs) : ∀ g, v.ownBlock = some g → b0 ≤ g := fun g hg => (OwnR.tag h.1 g hg).2
theorem one_in {α : Type} {r : RepOf α} {w : World} {S : Nat → Prop} {gb : Nat} {cs : List Value} {t : TypeId} {x : α} (h : w.heap[gb]? = some (.cells cs.toArray t)) (hS : S gb) (hx : r.rel w S cs x) : (listR r).rel w S [.slice (some ⟨gb, 0, none⟩) 1 1] [x] := by
  refine ⟨_, 1, 1, rfl, rfl, Nat.le_refl _, by unfold maxLen; omega, .inr ⟨gb, 0, rfl, hS, fun i y hy => ?_⟩⟩
  cases i with
  | succ i => simp at hy
  | zero =>
    simp at hy
    subst hy
    exact ⟨cs, hx, fun j u hu => (cell_of_row _ _ _ _ _ _ h).trans (by simpa using hu)⟩
def RpO (b0 bd : Nat) (X0 : Nat → Prop) (w4 wr : World) (vf : Value) (k : Nat) : Prop := ∃ X vr vn, RepI b0 bd 1 2 1 0 X wr vr vn (rulesAt k) (finsAt k) ∧ spansR.rel wr (ElX wr b0 X) [vf] (firstAt k) ∧ Stp b0 X0 w4 X wr
def RpN (b0 bd : Nat) (X0 : Nat → Prop) (w5 wi : World) (k : Nat) (g : List (List Span)) (j : Nat) : Prop := ∃ X vr vn, RepI b0 bd 1 2 1 0 X wi vr vn (rulesAt k ++ (brokeR g).take j) (finsAt k ++ (brokeE g).take j) ∧ Stp b0 X0 w5 X wi
set_option maxHeartbeats 4000000 in
set_option maxRecDepth 100000 in
theorem Repairer_calls (w : World) : Calls Tryz.prog 19 #[] w fun e w' => DescOwn repairD w e w' := by
  have HS := hid fun W => strict_calls2 W
  have HRo := hid fun W => Rows_calls W
  have HMi := hid fun a b v u W h1 h2 h3 h4 => Minus_calls a b v u W h1 h2 h3 h4
  have HBad := hid fun W => bad_calls W
  have HFr := hid fun gs v W h1 h2 h3 => fresh_calls gs v W h1 h2 h3
  obtain ⟨infR, hr0, hrz0, hrz1, hrz2⟩ := info_parts infoRu
  obtain ⟨infF, hf0, hfz0, hfz1, hfz2⟩ := info_parts infoFn
  obtain ⟨infG, hg0, hgz0, hgz1, hgz2⟩ := info_parts infoSs
  go_enter Tryz.func19, Tryz.ntmps19
  go_wp2_with fail
  obtain ⟨wz, hwz⟩ : ∃ wz, wz = w.alloc (.cells #[.int .i64 0, .int .i64 0, .int .i64 0, .int .i64 0, .slice none 0 0, .slice none 0 0] 27) := ⟨_, rfl⟩
  rw [← hwz]
  have hzZ : wz.heap[w.heap.size]? = some (.cells #[.int .i64 0, .int .i64 0, .int .i64 0, .int .i64 0, .slice none 0 0, .slice none 0 0] 27) := by rw [hwz]; exact heap_alloc_new w _
  have hsz : wz.heap.size = w.heap.size + 1 := by rw [hwz]; simp
  have hBz : Below w.heap.size w wz := by rw [hwz]; exact (Below.refl _ w).alloc (Nat.le_refl _) _
  clear hwz
  refine (HS.out _).mono ?_
  rintro e w1 ⟨vr, vn, X, rfl, hFr1, hFn1, hXl1, hB1⟩
  rw [show strictD.rules = rulesAt 0 from (List.append_nil _).symm] at hFr1
  rw [show strictD.finals = finsAt 0 from (List.append_nil _).symm] at hFn1
  obtain ⟨Ar, cr, rfl⟩ := hFr1.len
  obtain ⟨An, cn, rfl⟩ := hFn1.len
  go_wp2_with fail
  obtain ⟨b0, hb0⟩ : ∃ b0, b0 = wz.heap.size := ⟨_, rfl⟩
  rw [← hb0] at hFr1 hFn1 hB1
  obtain ⟨w2, hw2⟩ : ∃ w2, w2 = w1.alloc (.cells #[.int .i64 1, .int .i64 2, .int .i64 1, .int .i64 0, .slice Ar (rulesAt 0).length cr, .slice An (finsAt 0).length cn] 27) := ⟨_, rfl⟩
  have hB2 : Below w1.heap.size w1 w2 := by rw [hw2]; exact (Below.refl _ w1).alloc (Nat.le_refl _) _
  have hs2 : w2.heap.size = w1.heap.size + 1 := by rw [hw2]; simp
  have hbd0 : b0 ≤ w1.heap.size := by have := hB1.size; omega
  have hRep2 : RepI b0 w1.heap.size 1 2 1 0 (fun q => X q ∨ q = w1.heap.size) w2 (.slice Ar (rulesAt 0).length cr) (.slice An (finsAt 0).length cn) (rulesAt 0) (finsAt 0) := by
    refine ⟨by rw [hw2]; exact heap_alloc_new w1 _, ?_, ?_, fun q hq => hq.elim (fun h => by have := hXl1 q h; omega) (fun h => by omega), .inr rfl⟩
    · exact hFr1.keep hB2.size (fun _ h => .inl h) (fun q hq hl => hq.elim id (fun h => by omega)) (fun q hq => hB2.block q (hFr1.own_lt q hq)) (fun q _ hl _ => hB2.block q hl)
    · exact hFn1.keep hB2.size (fun _ h => .inl h) (fun q hq hl => hq.elim id (fun h => by omega)) (fun q hq => hB2.block q (hFn1.own_lt q hq)) (fun q _ hl _ => hB2.block q hl)
  rw [← hw2]
  clear hw2
  obtain ⟨w3, hw3⟩ : ∃ w3, w3 = w2.alloc (.cells #[.int .i64 0, .int .i64 255] 75) := ⟨_, rfl⟩
  have hB3 : Below w2.heap.size w2 w3 := by rw [hw3]; exact (Below.refl _ w2).alloc (Nat.le_refl _) _
  have hall := (one_span (w := w2) (base := w2.heap.size) (Nat.le_refl _) 0 255 (okI (by omega)) (okI (by omega))).rel (Nat.le_refl _)
  rw [← hw3, hs2] at hall
  rw [← hw3]
  clear hw3
  obtain ⟨bd, hbd⟩ : ∃ bd, w1.heap.size = bd := ⟨_, rfl⟩
  rw [hbd] at hall hRep2 hs2 hbd0
  try rw [hbd]
  obtain ⟨X0, hX0⟩ : ∃ X0, X0 = (fun q => X q ∨ q = bd) := ⟨_, rfl⟩
  rw [← hX0] at hRep2
  clear hX0
  have hZ3 : w3.heap[w.heap.size]? = some (.cells #[.int .i64 0, .int .i64 0, .int .i64 0, .int .i64 0, .slice none 0 0, .slice none 0 0] 27) := (hB3.block _ (by omega)).trans ((hB2.block _ (by omega)).trans ((hB1.block _ (by omega)).trans hzZ))
  have hBw3 : Below w.heap.size w w3 := ((hBz.trans (hB1.mono (by omega))).trans (hB2.mono (by omega))).trans (hB3.mono (by omega))
  refine (HRo.out _).mono ?_
  rintro e w4 ⟨u, rfl, hrows, hB4⟩
  have hs3 := hB3.size
  have hs4 := hB4.size
  have hRep4 := hRep2.later (hB3.trans (hB4.mono hs3))
  have hall4 : spansR.rel w4 (ElX w4 b0 X0) [.slice (some ⟨bd + 1, 0, none⟩) 1 1] allB := by
    have h1 := rel_fresh hall hB4
    exact rel_elx h1 (fun q hq => by have := hRep2.2.2.2.1 q hq; omega) (by omega)
  have hrows4 := rel_elx hrows (fun q hq => Nat.lt_of_lt_of_le (hRep2.2.2.2.1 q hq) hs3) (b0 := b0) (by omega)
  have hZ4 := (hB4.block w.heap.size (by omega)).trans hZ3
  have hBw4 : Below w.heap.size w w4 := hBw3.trans (hB4.mono (by omega))
  have hb04 : b0 ≤ w4.heap.size := by omega
  obtain ⟨A, c, rfl, hc, hm⟩ := list_form hrows
  have H9 : rowsP.length = 9 := rfl
  have HRW := hid hrows4
  have HA4 := hid hall4
  have HZ4 := hid hZ4
  have HBW := hid hBw4
  have HBD := hid hbd0
  have HB04 := hid hb04
  have Hb0w : Hid (w.heap.size < b0) := hid (by omega)
  rw [H9] at *
  clear H9 hrows hc hZ4 hZ3 hBw4 hBw3 hall hall4 hrows4 hFr1 hFn1 hXl1 hB1 hB2 hB3 hB4 hzZ hsz hBz hb0 hs2 hbd0 hs3 hs4 hb04 hRep2 HS HRo hbd
  go_wp2_with fail
  go_loopw [4, 14] (fun vf vi wr => ∃ k : Nat, k ≤ 9 ∧ vi = .int .i64 k ∧ RpO b0 bd X0 w4 wr vf k) (fun _ vi _ => 9 - (intOf vi).toNat)
  case atStart => exact ⟨0, Nat.zero_le _, rfl, _, _, _, hRep4, HA4.out, Stp.refl⟩
  case round =>
    clear hRep4
    obtain ⟨k, hk, rfl, XA, vrA, vnA, hRep, hfs, hStp⟩ := hrel
    obtain ⟨wo, hwo⟩ : ∃ wo, wo = wr := ⟨_, rfl⟩
    subst hwo
    by_cases hlt : k < 9
    · obtain ⟨g, hg⟩ := at_lt (xs := rowsP) (i := k) hlt
      have hlt' : (k : Int) < 9 := by omega
      have hgm := List.mem_of_getElem? hg
      obtain ⟨hg1, hg4⟩ := rows_len g hgm
      have hgi := rows_in g hgm
      have hrw := hStp.rel HRW.out
      obtain ⟨b1, o1, y1, rfl, hb1, hy1, hcg⟩ := list_at1 rfl hrw hg
      obtain ⟨A3, c3, rfl, hc3, hm3⟩ := list_form hy1
      obtain ⟨s0, hs0⟩ := at_lt (xs := g) (i := 0) (by omega)
      obtain ⟨b2, o2, z0, rfl, hb2, hz0, hcz⟩ := list_at1 rfl hy1 hs0
      rw [Nat.add_zero] at hcz
      obtain ⟨A4, c4, rfl, _, _⟩ := list_form hz0
      obtain ⟨Af, cf, rfl, _, _⟩ := list_form hfs
      have hs0l := (hgi s0 (List.mem_of_getElem? hs0)).2
      have hfl := (at_small' hk).2.2
      have hb1l := hb1.2.1
      have hb2l := hb2.2.1
      have hg1' : (0 : Int) < g.length := by omega
      have hg4' : (g.length : Int) ≤ 4 := by omega
      have hSU := rulesAt_succ hg
      have hEU := finsAt_succ hg
      have hFU : firstAt (k + 1) = minusF (firstAt k) s0 := by rw [firstAt_succ hg, List.getD_eq_getElem?_getD, hs0]; rfl
      have HSU := hid hSU
      have HEU := hid hEU
      have HFU := hid hFU
      have HY1 := hid hy1
      have HGI := hid hgi
      have HRepO := hid hRep
      have HStp := hid hStp
      have HMC := hid (HMi.out (firstAt k) s0 _ _ wo (elx_upto hfs) (elx_upto hz0) (by omega) (by omega))
      have hbR := heapLtM hRep.1
      have HFS := hid (fun q (h : XA q) => hRep.2.2.2.1 q h)
      have HB0o : Hid (b0 ≤ wo.heap.size) := hid (Nat.le_trans HBD.out (Nat.le_of_lt hbR))
      clear hSU hEU hFU hy1 hgi hRep hStp hfs hz0 hrw hg hgm hlt hs0 hfl hs0l hb1 hb2
      go_wp2_with fail
      refine HMC.out.mono ?_
      rintro e w5 ⟨v5, rfl, hO5, hB5⟩
      have hF5 := own_fresh hO5 (Nat.le_refl _)
      have hB5s := hB5.size
      have HF5 := hid hF5
      have HB5 := hid hB5
      clear hO5 hF5 hB5
      go_wp2_with fail
      go_loopw [7] (fun vi wi => ∃ j : Nat, j + 1 ≤ g.length ∧ vi = .int .i64 ((j : Int) + 1) ∧ RpN b0 bd XA w5 wi k g j) (fun vi _ => g.length - (intOf vi).toNat)
      case atStart => exact ⟨0, by omega, rfl, XA, vrA, vnA, by rw [List.take_zero, List.take_zero, List.append_nil, List.append_nil]; exact HRepO.out.later HB5.out, Stp.refl⟩
      case round =>
        obtain ⟨j, hj, rfl, X', vr', vn', hRepC, hStC⟩ := hrel
        obtain ⟨wi, hwi⟩ : ∃ wi, wi = wr := ⟨_, rfl⟩
        subst hwi
        by_cases hlt2 : j + 1 < g.length
        · obtain ⟨sn, hsn⟩ := at_lt (xs := g) (i := j + 1) hlt2
          have hlt2' : (j : Int) + 1 < g.length := by omega
          obtain ⟨hsn1, hsn2⟩ := HGI.out sn (List.mem_of_getElem? hsn)
          have hgw5 := (Stp.of HB5.out HB0o.out).rel HY1.out
          have hgw := hStC.rel hgw5
          obtain ⟨b3, o3, zn, he3, hbE, hzn, hcn⟩ := list_at1 rfl hgw hsn
          injection he3 with he3
          injection he3 with e1 e2 e3
          subst e1 e2
          obtain ⟨A5, c5, rfl, _, _⟩ := list_form hzn
          obtain ⟨RS, hRS⟩ : ∃ RS, RS = rulesAt k ++ (brokeR g).take j := ⟨_, rfl⟩
          obtain ⟨FS, hFS⟩ : ∃ FS, FS = finsAt k ++ (brokeE g).take j := ⟨_, rfl⟩
          rw [← hRS, ← hFS] at hRepC
          have hRSn : rulesAt k ++ (brokeR g).take (j + 1) = RS ++ [⟨0, 0, g.take (j + 1) ++ [minusF allB sn], (j : Int) + 1, badT⟩] := by rw [brokeR_take hsn, ← List.append_assoc, hRS]
          have hFSn : finsAt k ++ (brokeE g).take (j + 1) = FS ++ [⟨0, g.take (j + 1), badT⟩] := by rw [brokeE_take hlt2, ← List.append_assoc, hFS]
          have HRSN := hid hRSn
          have HFSN := hid hFSn
          have HRL : Hid (RS.length ≤ 1004) := hid (by have := (at_small' hk).1; rw [hRS, List.length_append, List.length_take]; omega)
          have HFL : Hid (FS.length ≤ 1004) := hid (by have := (at_small' hk).2.1; rw [hFS, List.length_append, List.length_take]; omega)
          have HTN : Hid ((∀ s ∈ g.take (j + 1), s ≠ [] ∧ s.length ≤ 1000000) ∧ (g.take (j + 1)).length ≤ 1000000) := hid ⟨fun s hs => HGI.out s (List.mem_of_mem_take hs), by rw [List.length_take]; omega⟩
          have HTKL : Hid ((g.take (j + 1)).length = j + 1) := hid (by rw [List.length_take]; omega)
          have HTL : Hid ((g.take (j + 1)).length ≤ 4) := hid (by rw [List.length_take]; omega)
          have hal := hStC.rel ((Stp.of HB5.out HB0o.out).rel (HStp.out.rel HA4.out))
          have HAL : Hid (∀ w', Below wi.heap.size wi w' → spansR.rel w' (upto w'.heap.size) [.slice (some ⟨bd + 1, 0, none⟩) 1 1] allB) := hid (fun w' hb => spansR.mono (fun p hp => hb.cell hp) (fun _ h => Nat.lt_of_lt_of_le h hb.size) (elx_upto hal))
          have HSN : Hid (∀ w', Below wi.heap.size wi w' → spansR.rel w' (upto w'.heap.size) [.slice A5 sn.length c5] sn) := hid (fun w' hb => spansR.mono (fun p hp => hb.cell hp) (fun _ h => Nat.lt_of_lt_of_le h hb.size) (elx_upto hzn))
          have HG5 := hid hgw5
          have HSNN := hid hsn
          have HStC := hid hStC
          have HTK : Hid ((listR spansR).rel wi.drew (upto wi.drew.heap.size) [.slice (some ⟨b2, o2, none⟩) (j + 1) c3] (g.take (j + 1))) := hid ((listR spansR).mono (fun _ _ => rfl) (fun _ h => h) (list_take (elx_upto hgw) (by omega)))
          have HQ : Hid (∀ q, (q = bd ∨ q = b2) → q < wi.heap.size) := hid (fun q hq => hq.elim (fun h => h ▸ heapLtM hRepC.1) (fun h => h ▸ hbE.2.1))
          have HNO : Hid (∀ q, (q = bd ∨ q = b2) → vr'.ownBlock ≠ some q) := hid (fun q hq he => hq.elim (fun h => Tag.ne (hRepC.2.1.tag q he) (h ▸ hRepC.tagd) (by decide) rfl) (fun h => hbE.2.2 (h ▸ hRepC.2.1.2 q he)))
          have HB0 : Hid (b0 ≤ wi.heap.size) := hid (Nat.le_trans HBD.out (Nat.le_of_lt (heapLtM hRepC.1)))
          have HRep := hid hRepC
          obtain ⟨x0, x1, x2, x3, x4, x5⟩ := hRepC.six
          have hbdl := heapLtM hRepC.1
          have hb2l' := hbE.2.1
          clear hRS hFS hRSn hFSn hal hzn hgw hgw5 hsn hStC hRepC hlt2 hbE
          go_wp2_with fail
          obtain ⟨ι, Wc, ⟨i0, hi0'⟩, hWc, Wsur⟩ := held_class wi.drew (fun q => q = bd ∨ q = b2)
          have hne : Nonempty ι := ⟨i0⟩
          have WS := hid Wsur; clear Wsur
          have HWc := hid hWc; clear hWc
          have Hi0 := hid hi0'; clear hi0'
          have g1 : ∀ i, (Wc i).cell? ⟨bd, 4, none⟩ = some vr' := fun i => (World.cell?_of_block (a := ⟨bd, 4, none⟩) (HWc.out i bd (.inl rfl))).trans x4
          have g2 : ∀ i, (Wc i).cell? ⟨b2, o2 + (j + 1), none⟩ = some (.slice A5 sn.length c5) := fun i => (World.cell?_of_block (a := ⟨b2, o2 + (j + 1), none⟩) (HWc.out i b2 (.inr rfl))).trans hcn
          refine region_anyL (S := fun w' => ∃ i, w' = Wc i) (last := 21) (by kernel_rfl) ?_
          refine anyL_seg 0 5 (by kernel_rfl) (fun _ _ _ _ _ h => h) ⟨i0, Hi0.out.symm⟩ (f := 17) rfl (by kernel_rfl) (by kernel_rfl) ?_
          simp only [List.drop_zero, List.take_succ_cons, List.take_zero]
          repeat go_big_quiet_step (fail)
          refine wpQuiet_nil ?_
          refine anyL_seg 6 5 (by kernel_rfl) (fun _ _ _ _ _ h => h) ⟨i0, Hi0.out.symm⟩ (f := 12) rfl (by kernel_rfl) (by kernel_rfl) ?_
          simp only [List.drop_succ_cons, List.drop_zero, List.take_succ_cons, List.take_zero]
          repeat go_big_quiet_step (fail)
          refine wpQuiet_nil ?_
          refine anyL_seg 14 2 (by kernel_rfl) (fun _ _ _ _ _ h => h) ⟨i0, Hi0.out.symm⟩ (f := 10) rfl (by kernel_rfl) (by kernel_rfl) ?_
          simp only [List.drop_succ_cons, List.drop_zero, List.take_succ_cons, List.take_zero]
          repeat go_big_quiet_step (fail)
          refine wpQuiet_nil ?_
          refine anyL_act (i := 5) (by kernel_rfl) rfl rfl ?_
          intro K hK
          go_wp2_with fail
          refine (HFr.out (g.take (j + 1)) _ wi.drew HTK.out HTN.out.1 HTN.out.2).mono ?_
          rintro e w6 ⟨u6, rfl, hF6, hB6⟩
          obtain ⟨A6, c6, h6⟩ := hF6.len
          rw [HTKL.out] at h6
          subst h6
          have hB6w : Below wi.heap.size wi w6 := ⟨hB6.os, hB6.tape, hB6.output, hB6.size, hB6.block⟩
          have hk6 : ∀ q, (q = bd ∨ q = b2) → w6.heap[q]? = wi.drew.heap[q]? := fun q hq => hB6w.block q (HQ.out q hq)
          have hS6 : ∃ i, w6 = Wc i := WS.out _ (fun q hq => hk6 q hq)
          go_wp2_with fail
          refine hK.out _ _ (fun _ => hS6) ?_
          clear hK K
          refine anyL_act (i := 11) (by kernel_rfl) rfl rfl ?_
          intro K hK
          go_wp2_with fail
          have hB6s := hB6w.size
          refine (HMi.out allB sn _ _ w6 (HAL.out w6 hB6w) (HSN.out w6 hB6w) (by decide) (by omega)).mono ?_
          rintro e w7 ⟨v7, rfl, hO7, hB7⟩
          have hF7 := own_fresh hO7 (Nat.le_refl _)
          obtain ⟨A7, c7, rfl, _, _⟩ := list_form hF7
          have hB7w : Below wi.heap.size wi w7 := hB6w.trans (hB7.mono hB6s)
          have hk7 : ∀ q, (q = bd ∨ q = b2) → w7.heap[q]? = wi.drew.heap[q]? := fun q hq => hB7w.block q (HQ.out q hq)
          have hS7 : ∃ i, w7 = Wc i := WS.out _ (fun q hq => hk7 q hq)
          go_wp2_with fail
          refine hK.out _ _ (fun _ => hS7) ?_
          clear hK K
          refine anyL_act (i := 12) (by kernel_rfl) rfl rfl ?_
          intro K hK
          go_wp2_with fail
          obtain ⟨M7, hM7⟩ : ∃ M7, M7 = (minusF allB sn).length := ⟨_, rfl⟩
          rw [← hM7]
          obtain ⟨wA, hwA⟩ : ∃ wA, wA = w7.alloc (.cells #[.slice A7 M7 c7] 76) := ⟨_, rfl⟩
          rw [← hwA]
          have hBA : Below wi.heap.size wi wA := by rw [hwA]; exact hB7w.alloc hB7w.size _
          have hBA7 : Below w7.heap.size w7 wA := by rw [hwA]; exact (Below.refl _ w7).alloc (Nat.le_refl _) _
          have hkA : ∀ q, (q = bd ∨ q = b2) → wA.heap[q]? = wi.drew.heap[q]? := fun q hq => hBA.block q (HQ.out q hq)
          have hrel7 : spansR.rel wA (Fresh w6.heap.size wA) [.slice A7 M7 c7] (minusF allB sn) := by rw [hM7]; exact rel_fresh hF7 hBA7
          have hSA : ∃ i, wA = Wc i := WS.out _ (fun q hq => hkA q hq)
          refine hK.out _ _ (fun _ => hSA) ?_
          clear hK K
          refine anyL_act (i := 13) (by kernel_rfl) rfl rfl ?_
          intro K hK
          refine act_append_fl (r := spansR) (v := .slice A6 (j + 1) c6) (xs := g.take (j + 1)) (w0 := w6) (w := wA) _ _ 43 (by rfl) infG _ 24 Tryz.underlying43 hg0 hgz0 hgz1 hgz2 rfl (by decide) (by rfl) hF6 ((hB7).trans (hBA7.mono hB7.size)) (Nat.le_trans (Nat.le_of_eq rfl) hBA.size) ⟨w7.heap.size, 0, none⟩ 1 (minusF allB sn) [.slice A7 M7 c7] (by rfl) (rel_els hrel7 hF6.own_lt hB6s)
            (by rw [hwA]; exact news_at (w := w7) (cs := #[_]) rfl) (by simp [Value.oneCell']) (by have := HTL.out; unfold maxLen; omega) (by have := HTL.out; omega) ?_
          intro v8 w8 hF8 hB8
          obtain ⟨A8, c8, h8⟩ := hF8.len
          generalize hL8 : (g.take (j + 1) ++ [minusF allB sn]).length = L8 at h8
          subst h8
          have hB8w : Below wi.heap.size wi w8 := hBA.trans hB8
          have hk8 : ∀ q, (q = bd ∨ q = b2) → w8.heap[q]? = wi.drew.heap[q]? := fun q hq => hB8w.block q (HQ.out q hq)
          have hS8 : ∃ i, w8 = Wc i := WS.out _ (fun q hq => hk8 q hq)
          refine hK.out _ _ (fun _ => hS8) ?_
          clear hK K
          go_simp
          refine anyL_act (i := 16) (by kernel_rfl) rfl rfl ?_
          intro K hK
          go_wp2_with fail
          refine (HBad.out w8).mono ?_
          rintro e w9 ⟨vb, rfl, hbad, hB9⟩
          obtain ⟨A9, c9, rfl, _, _⟩ := list_form hbad
          have hB9w : Below wi.heap.size wi w9 := hB8w.trans (hB9.mono hB8w.size)
          have hk9 : ∀ q, (q = bd ∨ q = b2) → w9.heap[q]? = wi.drew.heap[q]? := fun q hq => hB9w.block q (HQ.out q hq)
          have hS9 : ∃ i, w9 = Wc i := WS.out _ (fun q hq => hk9 q hq)
          go_wp2_with fail
          refine hK.out _ _ (fun _ => hS9) ?_
          clear hK K
          refine anyL_seg 17 1 (by kernel_rfl) (fun _ _ _ _ _ h => h) hS9 (f := 4) rfl (by kernel_rfl) (by kernel_rfl) ?_
          simp only [List.drop_succ_cons, List.drop_zero, List.take_succ_cons, List.take_zero]
          repeat go_big_quiet_step (fail)
          refine wpQuiet_nil ?_
          refine anyL_act (i := 18) (by kernel_rfl) rfl rfl ?_
          intro K hK
          go_wp2_with fail
          obtain ⟨wB, hwB⟩ : ∃ wB, wB = w9.alloc (.cells #[.int .i64 0, .int .i64 0, .slice A8 L8 c8, .int .i64 ((j : Int) + 1), .slice A9 badT.length c9] 46) := ⟨_, rfl⟩
          rw [← hwB]
          have hB9B : Below w9.heap.size w9 wB := by rw [hwB]; exact (Below.refl _ w9).alloc (Nat.le_refl _) _
          have hBB : Below wi.heap.size wi wB := hB9w.trans (hB9B.mono hB9w.size)
          have hkB : ∀ q, (q = bd ∨ q = b2) → wB.heap[q]? = wi.drew.heap[q]? := fun q hq => hBB.block q (HQ.out q hq)
          have hSB : ∃ i, wB = Wc i := WS.out _ (fun q hq => hkB q hq)
          refine hK.out _ _ (fun _ => hSB) ?_
          clear hK K
          refine anyL_act (i := 19) (by kernel_rfl) rfl rfl ?_
          intro K hK
          have hRB := HRep.out.later hBB
          have hgr : (listR spansR).rel wB (ElX wB b0 X') [.slice A8 L8 c8] (g.take (j + 1) ++ [minusF allB sn]) := by
            have h1 := rel_fresh (hF8.rel (Nat.le_refl _)) ((hB9).trans (hB9B.mono hB9.size))
            exact rel_elx h1 HRep.out.2.2.2.1 HB0.out
          have hbr : (listR termR).rel wB (ElX wB b0 X') [.slice A9 badT.length c9] badT := rel_elx (rel_fresh (rel_low hbad hB8w.size) hB9B) HRep.out.2.2.2.1 HB0.out
          refine act_append_fx (r := ruleR) (X := X') (b0 := b0) (v := vr') (xs := RS) (w := wB) _ _ 24 (by rfl) infR _ 72 Tryz.underlying24 hr0 hrz0 hrz1 hrz2 rfl (by decide) (by rfl) hRB.2.1 hRB.2.2.2.1 (Nat.le_trans HB0.out hBB.size) ⟨w9.heap.size, 0, none⟩ 1 ⟨0, 0, g.take (j + 1) ++ [minusF allB sn], (j : Int) + 1, badT⟩ [.int .i64 0, .int .i64 0, .slice A8 L8 c8, .int .i64 ((j : Int) + 1), .slice A9 badT.length c9] (by rfl) ⟨_, _, rfl, ⟨(okI (by omega) : I64 0), (okI (by omega) : I64 0), (okI (by omega) : I64 ((j : Int) + 1))⟩, hgr, hbr⟩
            (by rw [hwB]; exact news_at (w := w9) (cs := #[_, _, _, _, _]) rfl) (by simp [Value.oneCell']) (by have := HRL.out; unfold maxLen; omega) (by have := HRL.out; omega) ?_
          intro vr2 w10 hF10 hX10 hXl10 hB10 hk10
          obtain ⟨Aw, Lw, cw, rfl⟩ : ∃ A n c, vr2 = Value.slice A n c := (hF10.len).elim fun A h => h.elim fun c h => ⟨A, _, c, h⟩
          have hkT : ∀ q, (q = bd ∨ q = b2) → w10.heap[q]? = wi.drew.heap[q]? := fun q hq => (hk10 q (Nat.lt_of_lt_of_le (HQ.out q hq) hBB.size) (HNO.out q hq)).trans (hkB q hq)
          have hST : ∃ i, w10 = Wc i := WS.out _ (fun q hq => hkT q hq)
          refine hK.out _ _ (fun _ => hST) ?_
          clear hK K
          go_simp
          refine anyL_seg 20 1 (by kernel_rfl) (fun _ _ _ _ _ h => h) hST (f := 1) rfl (by kernel_rfl) (by kernel_rfl) ?_
          simp only [List.drop_succ_cons, List.drop_zero, List.take_succ_cons, List.take_zero]
          repeat go_big_quiet_step (fail)
          refine wpQuiet_nil ?_
          obtain ⟨hRep', hStp', hbd10⟩ := hRB.pushR HBD.out hF10 hX10 hXl10 hB10 hk10
          obtain ⟨y0, y1, y2, y3, y4, y5⟩ := six9 (W := w10) (b := bd) (x0 := .int .i64 1) (x1 := .int .i64 2) (x2 := .int .i64 1) (x3 := .int .i64 0) (x4 := vr') (x5 := vn') (t := 27) hbd10
          obtain ⟨f0, f1, f2, f3, f4, f5⟩ := fro6 (W := w10) (b := bd) (x0 := .int .i64 1) (x1 := .int .i64 2) (x2 := .int .i64 1) (x3 := .int .i64 0) (x4 := vr') (x5 := vn') (t := 27) hbd10
          have hbdw := heapLtM hbd10
          refine anyL_act (i := 21) (by kernel_rfl) rfl rfl ?_
          intro K hK
          go_wp2_with fail
          refine hK.out _ _ (fun h => absurd rfl h) ?_
          clear hK K
          refine anyL_done (by kernel_rfl) ?_ 0
          obtain ⟨wj, hwj⟩ : ∃ wj, wj = w10.setCell ⟨bd, 4, none⟩ (.slice Aw Lw cw) := ⟨_, rfl⟩
          rw [← hwj] at hRep' hStp'
          rw [← hwj]
          clear hwj
          obtain ⟨vr2, hvw⟩ : ∃ v, v = Value.slice Aw Lw cw := ⟨_, rfl⟩
          rw [← hvw] at hRep' hStp'
          clear y0 y1 y2 y3 y4 y5 f0 f1 f2 f3 f4 f5 hS6 hS7 hSA hS8 hS9 hSB hST g2 hbdw g1 WS HWc Hi0 hne i0 Wc ι
          obtain ⟨X2, hX2⟩ : ∃ X2, X2 = XNew X' vr2 := ⟨_, rfl⟩
          rw [← hX2] at hRep' hStp'
          clear hX2
          have hStJ := HStC.out.trans ((Stp.of hBB HB0.out).trans hStp')
          have hRepC := hRep'
          have hgw := hStJ.rel HG5.out
          have hsn := HSNN.out
          obtain ⟨b3, o3, zn, he3, hbE, _, _⟩ := list_at1 rfl hgw hsn
          injection he3 with he3
          injection he3 with e1 e2 e3
          subst e1 e2
          clear HTK HQ HNO HB0 HRep x0 x1 x2 x3 x4 x5 hcn hB6 hB6w hk6 hF6 hB6s hB7 hF7 hO7 hB7w hk7 hwA hM7 hBA hBA7 hkA hrel7 hF8 hB8 hB8w hk8 hB9 hB9w hk9 hbad hwB hL8 hB9B hBB hkB hRB hgr hbr hF10 hXl10 hB10 hk10 hkT hbd10 hStp' hRep' hvw hX10
          have HTK : Hid ((listR spansR).rel wj.drew (upto wj.drew.heap.size) [.slice (some ⟨b2, o2, none⟩) (j + 1) c3] (g.take (j + 1))) := hid ((listR spansR).mono (fun _ _ => rfl) (fun _ h => h) (list_take (elx_upto hgw) (by omega)))
          have HQ : Hid (∀ q, (q = bd ∨ q = b2) → q < wj.heap.size) := hid (fun q hq => hq.elim (fun h => h ▸ heapLtM hRepC.1) (fun h => h ▸ hbE.2.1))
          have HNO : Hid (∀ q, (q = bd ∨ q = b2) → vn'.ownBlock ≠ some q) := hid (fun q hq he => hq.elim (fun h => Tag.ne (hRepC.2.2.1.tag q he) (h ▸ hRepC.tagd) (by decide) rfl) (fun h => hbE.2.2 (h ▸ hRepC.2.2.1.2 q he)))
          have HB0 : Hid (b0 ≤ wj.heap.size) := hid (Nat.le_trans HBD.out (Nat.le_of_lt (heapLtM hRepC.1)))
          have HRep := hid hRepC
          obtain ⟨x0, x1, x2, x3, x4, x5⟩ := hRepC.six
          have hbdl := heapLtM hRepC.1
          have HStJ := hid hStJ
          clear hgw hsn hStJ hRepC hbE
          go_wp2_with fail
          obtain ⟨ι, Wc, ⟨i0, hi0'⟩, hWc, Wsur⟩ := held_class wj.drew (fun q => q = bd ∨ q = b2)
          have hne : Nonempty ι := ⟨i0⟩
          have WS := hid Wsur; clear Wsur
          have HWc := hid hWc; clear hWc
          have Hi0 := hid hi0'; clear hi0'
          have g1 : ∀ i, (Wc i).cell? ⟨bd, 5, none⟩ = some vn' := fun i => (World.cell?_of_block (a := ⟨bd, 5, none⟩) (HWc.out i bd (.inl rfl))).trans x5
          refine region_anyL (S := fun w' => ∃ i, w' = Wc i) (last := 12) (by kernel_rfl) ?_
          refine anyL_seg 0 5 (by kernel_rfl) (fun _ _ _ _ _ h => h) ⟨i0, Hi0.out.symm⟩ (f := 8) rfl (by kernel_rfl) (by kernel_rfl) ?_
          simp only [List.drop_zero, List.take_succ_cons, List.take_zero]
          repeat go_big_quiet_step (fail)
          refine wpQuiet_nil ?_
          refine anyL_seg 6 1 (by kernel_rfl) (fun _ _ _ _ _ h => h) ⟨i0, Hi0.out.symm⟩ (f := 7) rfl (by kernel_rfl) (by kernel_rfl) ?_
          simp only [List.drop_succ_cons, List.drop_zero, List.take_succ_cons, List.take_zero]
          repeat go_big_quiet_step (fail)
          refine wpQuiet_nil ?_
          refine anyL_act (i := 5) (by kernel_rfl) rfl rfl ?_
          intro K hK
          go_wp2_with fail
          refine (HFr.out (g.take (j + 1)) _ wj.drew HTK.out HTN.out.1 HTN.out.2).mono ?_
          rintro e w6 ⟨u6, rfl, hF6, hB6⟩
          obtain ⟨A6, c6, h6⟩ := hF6.len
          rw [HTKL.out] at h6
          subst h6
          have hB6w : Below wj.heap.size wj w6 := ⟨hB6.os, hB6.tape, hB6.output, hB6.size, hB6.block⟩
          have hk6 : ∀ q, (q = bd ∨ q = b2) → w6.heap[q]? = wj.drew.heap[q]? := fun q hq => hB6w.block q (HQ.out q hq)
          have hS6 : ∃ i, w6 = Wc i := WS.out _ (fun q hq => hk6 q hq)
          go_wp2_with fail
          refine hK.out _ _ (fun _ => hS6) ?_
          clear hK K
          refine anyL_act (i := 7) (by kernel_rfl) rfl rfl ?_
          intro K hK
          go_wp2_with fail
          refine (HBad.out w6).mono ?_
          rintro e w9 ⟨vb, rfl, hbad, hB9⟩
          obtain ⟨A9, c9, rfl, _, _⟩ := list_form hbad
          have hB9w : Below wj.heap.size wj w9 := hB6w.trans (hB9.mono hB6w.size)
          have hk9 : ∀ q, (q = bd ∨ q = b2) → w9.heap[q]? = wj.drew.heap[q]? := fun q hq => hB9w.block q (HQ.out q hq)
          have hS9 : ∃ i, w9 = Wc i := WS.out _ (fun q hq => hk9 q hq)
          go_wp2_with fail
          refine hK.out _ _ (fun _ => hS9) ?_
          clear hK K
          refine anyL_seg 8 1 (by kernel_rfl) (fun _ _ _ _ _ h => h) hS9 (f := 4) rfl (by kernel_rfl) (by kernel_rfl) ?_
          simp only [List.drop_succ_cons, List.drop_zero, List.take_succ_cons, List.take_zero]
          repeat go_big_quiet_step (fail)
          refine wpQuiet_nil ?_
          refine anyL_act (i := 9) (by kernel_rfl) rfl rfl ?_
          intro K hK
          go_wp2_with fail
          obtain ⟨wB, hwB⟩ : ∃ wB, wB = w9.alloc (.cells #[.int .i64 0, .slice A6 (j + 1) c6, .slice A9 badT.length c9] 49) := ⟨_, rfl⟩
          rw [← hwB]
          have hB9B : Below w9.heap.size w9 wB := by rw [hwB]; exact (Below.refl _ w9).alloc (Nat.le_refl _) _
          have hBB : Below wj.heap.size wj wB := hB9w.trans (hB9B.mono hB9w.size)
          have hkB : ∀ q, (q = bd ∨ q = b2) → wB.heap[q]? = wj.drew.heap[q]? := fun q hq => hBB.block q (HQ.out q hq)
          have hSB : ∃ i, wB = Wc i := WS.out _ (fun q hq => hkB q hq)
          refine hK.out _ _ (fun _ => hSB) ?_
          clear hK K
          refine anyL_act (i := 10) (by kernel_rfl) rfl rfl ?_
          intro K hK
          have hRB := HRep.out.later hBB
          have hgr : (listR spansR).rel wB (ElX wB b0 X2) [.slice A6 (j + 1) c6] (g.take (j + 1)) := by
            have h1 := rel_fresh (hF6.rel (Nat.le_refl _)) ((hB9).trans (hB9B.mono hB9.size))
            exact rel_elx h1 HRep.out.2.2.2.1 HB0.out
          have hbr : (listR termR).rel wB (ElX wB b0 X2) [.slice A9 badT.length c9] badT := rel_elx (rel_fresh (rel_low hbad hB6w.size) hB9B) HRep.out.2.2.2.1 HB0.out
          refine act_append_fx (r := finalR) (X := X2) (b0 := b0) (v := vn') (xs := FS) (w := wB) _ _ 25 (by rfl) infF _ 56 Tryz.underlying25 hf0 hfz0 hfz1 hfz2 rfl (by decide) (by rfl) hRB.2.2.1 hRB.2.2.2.1 (Nat.le_trans HB0.out hBB.size) ⟨w9.heap.size, 0, none⟩ 1 ⟨0, g.take (j + 1), badT⟩ [.int .i64 0, .slice A6 (j + 1) c6, .slice A9 badT.length c9] (by rfl) ⟨_, _, rfl, (okI (by omega) : I64 0), hgr, hbr⟩
            (by rw [hwB]; exact news_at (w := w9) (cs := #[_, _, _]) rfl) (by simp [Value.oneCell']) (by have := HFL.out; unfold maxLen; omega) (by have := HFL.out; omega) ?_
          intro v' w10 hF10 hX10 hXl10 hB10 hk10
          obtain ⟨Aw, Lw, cw, rfl⟩ : ∃ A n c, v' = Value.slice A n c := (hF10.len).elim fun A h => h.elim fun c h => ⟨A, _, c, h⟩
          have hkT : ∀ q, (q = bd ∨ q = b2) → w10.heap[q]? = wj.drew.heap[q]? := fun q hq => (hk10 q (Nat.lt_of_lt_of_le (HQ.out q hq) hBB.size) (HNO.out q hq)).trans (hkB q hq)
          have hST : ∃ i, w10 = Wc i := WS.out _ (fun q hq => hkT q hq)
          refine hK.out _ _ (fun _ => hST) ?_
          clear hK K
          go_simp
          refine anyL_seg 11 1 (by kernel_rfl) (fun _ _ _ _ _ h => h) hST (f := 1) rfl (by kernel_rfl) (by kernel_rfl) ?_
          simp only [List.drop_succ_cons, List.drop_zero, List.take_succ_cons, List.take_zero]
          repeat go_big_quiet_step (fail)
          refine wpQuiet_nil ?_
          obtain ⟨hRep', hStp', hbd10⟩ := hRB.pushF HBD.out hF10 hX10 hXl10 hB10 hk10
          obtain ⟨y0, y1, y2, y3, y4, y5⟩ := six9 (W := w10) (b := bd) (x0 := .int .i64 1) (x1 := .int .i64 2) (x2 := .int .i64 1) (x3 := .int .i64 0) (x4 := vr2) (x5 := vn') (t := 27) hbd10
          obtain ⟨f0, f1, f2, f3, f4, f5⟩ := fro6 (W := w10) (b := bd) (x0 := .int .i64 1) (x1 := .int .i64 2) (x2 := .int .i64 1) (x3 := .int .i64 0) (x4 := vr2) (x5 := vn') (t := 27) hbd10
          have hbdw := heapLtM hbd10
          refine anyL_act (i := 12) (by kernel_rfl) rfl rfl ?_
          intro K hK
          go_wp2_with fail
          refine hK.out _ _ (fun h => absurd rfl h) ?_
          clear hK K
          refine anyL_done (by kernel_rfl) ?_ 0
          obtain ⟨wn, hwj⟩ : ∃ wn, wn = w10.setCell ⟨bd, 5, none⟩ (.slice Aw Lw cw) := ⟨_, rfl⟩
          rw [← hwj] at hRep' hStp'
          rw [← hwj]
          clear hwj
          obtain ⟨vn2, hvw⟩ : ∃ v, v = Value.slice Aw Lw cw := ⟨_, rfl⟩
          rw [← hvw] at hRep' hStp'
          clear y0 y1 y2 y3 y4 y5 f0 f1 f2 f3 f4 f5 hS6 hS9 hSB hST hbdw g1 WS HWc Hi0 hne i0 Wc ι
          have hStN := HStJ.out.trans ((Stp.of hBB HB0.out).trans hStp')
          have HE : Hid (∃ j' : Nat, j' + 1 ≤ g.length ∧ Value.int .i64 ((j : Int) + 1 + 1) = .int .i64 ((j' : Int) + 1) ∧ RpN b0 bd XA w5 wn k g j') := hid ⟨j + 1, by omega, by push_cast; rfl, _, _, _, by rw [HRSN.out, HFSN.out]; exact hRep', hStN⟩
          clear HTK HQ HNO HB0 HRep x0 x1 x2 x3 x4 x5 hB6 hB6w hk6 hF6 hB9 hB9w hk9 hbad hwB hB9B hBB hkB hRB hgr hbr hF10 hX10 hXl10 hB10 hk10 hkT hbd10 hStp' hRep' hStN hvw
          go_wp2_with fail
          first
            | (refine ⟨HE.out, ?_⟩; simp [intOf]; omega)
            | (go_simp; refine ⟨by simpa using HE.out, ?_⟩; simp [intOf]; omega)
            | (go_simp; refine ⟨by simpa using HE.out, ?_⟩; simp [intOf])
        · have hje : j = g.length - 1 := by omega
          rw [hje, (broke_full g).1, (broke_full g).2, ← HSU.out, ← HEU.out] at hRepC
          have hf6 : spansR.rel wi (ElX wi b0 X') [v5] (firstAt (k + 1)) := by rw [HFU.out]; exact hStC.rel (rel_elx HF5.out HFS.out HB0o.out)
          have hS6 := HStp.out.trans ((Stp.of HB5.out HB0o.out).trans hStC)
          have HE : Hid (∃ k' : Nat, k' ≤ 9 ∧ Value.int .i64 ((k : Int) + 1) = .int .i64 k' ∧ RpO b0 bd X0 w4 wi v5 k') := hid ⟨k + 1, by omega, by push_cast; rfl, _, _, _, hRepC, hf6, hS6⟩
          have hnl : ¬ ((j : Int) + 1 < g.length) := by omega
          clear hje hf6 hS6 hRepC hStC hlt2
          go_wp2_with fail
          first
            | (refine ⟨HE.out, ?_⟩; simp [intOf]; omega)
            | (go_simp; refine ⟨by simpa using HE.out, ?_⟩; simp [intOf]; omega)
            | (go_simp; refine ⟨by simpa using HE.out, ?_⟩; simp [intOf])
    · obtain rfl : k = 9 := by omega
      obtain ⟨Af, cf, hAf, _, _⟩ := list_form hfs
      generalize (firstAt 9).length = L9 at hAf
      subst hAf
      obtain ⟨x0, x1, x2, x3, x4, x5⟩ := hRep.six
      have hbdl := heapLtM hRep.1
      have HQ : Hid (∀ q, q = bd → q < wo.heap.size) := hid (fun q hq => hq ▸ hbdl)
      have HNO : Hid (∀ q, q = bd → vrA.ownBlock ≠ some q) := hid (fun q hq he => Tag.ne (hRep.2.1.tag q he) (hq ▸ hRep.tagd) (by decide) rfl)
      have HB0 : Hid (b0 ≤ wo.heap.size) := hid (Nat.le_trans HBD.out (Nat.le_of_lt hbdl))
      have HRep := hid hRep
      have HStp := hid hStp
      have HFS := hid hfs
      clear hRep hStp hfs hlt hk
      go_wp2_with fail
      obtain ⟨ι, Wc, ⟨i0, hi0'⟩, hWc, Wsur⟩ := held_class wo.drew (fun q => q = bd)
      have hne : Nonempty ι := ⟨i0⟩
      have WS := hid Wsur; clear Wsur
      have HWc := hid hWc; clear hWc
      have Hi0 := hid hi0'; clear hi0'
      have g1 : ∀ i, (Wc i).cell? ⟨bd, 4, none⟩ = some vrA := fun i => (World.cell?_of_block (a := ⟨bd, 4, none⟩) (HWc.out i bd rfl)).trans x4
      refine region_anyL (S := fun w' => ∃ i, w' = Wc i) (last := 10) (by kernel_rfl) ?_
      refine anyL_seg 0 3 (by kernel_rfl) (fun _ _ _ _ _ h => h) ⟨i0, Hi0.out.symm⟩ (f := 8) rfl (by kernel_rfl) (by kernel_rfl) ?_
      simp only [List.drop_zero, List.take_succ_cons, List.take_zero]
      repeat go_big_quiet_step (fail)
      refine wpQuiet_nil ?_
      refine anyL_seg 4 1 (by kernel_rfl) (fun _ _ _ _ _ h => h) ⟨i0, Hi0.out.symm⟩ (f := 7) rfl (by kernel_rfl) (by kernel_rfl) ?_
      simp only [List.drop_succ_cons, List.drop_zero, List.take_succ_cons, List.take_zero]
      repeat go_big_quiet_step (fail)
      refine wpQuiet_nil ?_
      refine anyL_two (i := 3) (j := 5) (by kernel_rfl) rfl rfl rfl rfl ?_ ?_
      · intro K hK
        go_wp2_with fail
        obtain ⟨wA, hwA⟩ : ∃ wA, wA = (wo.alloc (.cells #[.slice Af L9 cf] 76)).drew := ⟨_, rfl⟩
        rw [← hwA]
        have hBA : Below wo.heap.size wo wA := by rw [hwA]; exact ((Below.refl _ wo).alloc (Nat.le_refl _) _).drew
        have hGA : wA.heap[wo.heap.size]? = some (.cells #[.slice Af L9 cf] 76) := by rw [hwA]; exact heap_alloc_new wo _
        have hsA : wo.heap.size < wA.heap.size := heapLtM hGA
        clear hwA
        have hkA : ∀ q, q = bd → wA.heap[q]? = wo.drew.heap[q]? := fun q hq => hBA.block q (HQ.out q hq)
        have hSA : ∃ i, wA = Wc i := WS.out _ (fun q hq => hkA q hq)
        refine hK.out _ _ (fun _ => hSA) ?_
        clear hK K
        refine anyL_act (i := 5) (by kernel_rfl) rfl rfl ?_
        intro K hK
        go_wp2_with fail
        refine (HBad.out wA).mono ?_
        rintro e w9 ⟨vb, rfl, hbad, hB9⟩
        obtain ⟨A9, c9, rfl, _, _⟩ := list_form hbad
        have hB9w : Below wo.heap.size wo w9 := hBA.trans (hB9.mono hBA.size)
        have hk9 : ∀ q, q = bd → w9.heap[q]? = wo.drew.heap[q]? := fun q hq => hB9w.block q (HQ.out q hq)
        have hS9 : ∃ i, w9 = Wc i := WS.out _ (fun q hq => hk9 q hq)
        go_wp2_with fail
        refine hK.out _ _ (fun _ => hS9) ?_
        clear hK K
        have hbad9 : (listR termR).rel w9 (Fresh wo.heap.size w9) [.slice A9 badT.length c9] badT := rel_low hbad hBA.size
        have hgd : (listR spansR).rel w9 (ElX w9 b0 XA) [.slice (some ⟨wo.heap.size, 0, none⟩) 1 1] [firstAt 9] := one_in (cs := [.slice Af L9 cf]) ((hB9.block wo.heap.size hsA).trans hGA) ⟨HB0.out, Nat.lt_of_lt_of_le hsA hB9.size, fun hx => by have := HRep.out.2.2.2.1 _ hx; omega⟩ ((Stp.of hB9w HB0.out).rel HFS.out)
        refine anyL_seg 6 1 (by kernel_rfl) (fun _ _ _ _ _ h => h) hS9 (f := 4) rfl (by kernel_rfl) (by kernel_rfl) ?_
        simp only [List.drop_succ_cons, List.drop_zero, List.take_succ_cons, List.take_zero]
        repeat go_big_quiet_step (fail)
        refine wpQuiet_nil ?_
        refine anyL_act (i := 7) (by kernel_rfl) rfl rfl ?_
        intro K hK
        go_wp2_with fail
        obtain ⟨wB, hwB⟩ : ∃ wB, wB = w9.alloc (.cells #[.int .i64 0, .int .i64 0, .slice (some ⟨wo.heap.size, 0, none⟩) 1 1, .int .i64 1, .slice A9 badT.length c9] 46) := ⟨_, rfl⟩
        rw [← hwB]
        have hB9B : Below w9.heap.size w9 wB := by rw [hwB]; exact (Below.refl _ w9).alloc (Nat.le_refl _) _
        have hBB : Below wo.heap.size wo wB := hB9w.trans (hB9B.mono hB9w.size)
        have hkB : ∀ q, q = bd → wB.heap[q]? = wo.drew.heap[q]? := fun q hq => hBB.block q (HQ.out q hq)
        have hSB : ∃ i, wB = Wc i := WS.out _ (fun q hq => hkB q hq)
        refine hK.out _ _ (fun _ => hSB) ?_
        clear hK K
        refine anyL_act (i := 8) (by kernel_rfl) rfl rfl ?_
        intro K hK
        have hRB := HRep.out.later hBB
        have hgr : (listR spansR).rel wB (ElX wB b0 XA) [.slice (some ⟨wo.heap.size, 0, none⟩) 1 1] [firstAt 9] := (Stp.of hB9B (Nat.le_trans HB0.out hB9w.size)).rel hgd
        have hbr : (listR termR).rel wB (ElX wB b0 XA) [.slice A9 badT.length c9] badT := rel_elx (rel_fresh hbad9 hB9B) HRep.out.2.2.2.1 HB0.out
        refine act_append_fx (r := ruleR) (X := XA) (b0 := b0) (v := vrA) (xs := rulesAt 9) (w := wB) _ _ 24 (by rfl) infR _ 72 Tryz.underlying24 hr0 hrz0 hrz1 hrz2 rfl (by decide) (by rfl) hRB.2.1 hRB.2.2.2.1 (Nat.le_trans HB0.out hBB.size) ⟨w9.heap.size, 0, none⟩ 1 ⟨0, 0, [firstAt 9], 1, badT⟩ [.int .i64 0, .int .i64 0, .slice (some ⟨wo.heap.size, 0, none⟩) 1 1, .int .i64 1, .slice A9 badT.length c9] (by rfl) ⟨_, _, rfl, ⟨(okI (by omega) : I64 0), (okI (by omega) : I64 0), (okI (by omega) : I64 1)⟩, hgr, hbr⟩
          (by rw [hwB]; exact news_at (w := w9) (cs := #[_, _, _, _, _]) rfl) (by simp [Value.oneCell']) (by have := (at_small' (Nat.le_refl 9)).1; unfold maxLen; omega) (by have := (at_small' (Nat.le_refl 9)).1; omega) ?_
        intro v' w10 hF10 hX10 hXl10 hB10 hk10
        obtain ⟨Aw, Lw, cw, rfl⟩ : ∃ A n c, v' = Value.slice A n c := (hF10.len).elim fun A h => h.elim fun c h => ⟨A, _, c, h⟩
        have hkT : ∀ q, q = bd → w10.heap[q]? = wo.drew.heap[q]? := fun q hq => (hk10 q (Nat.lt_of_lt_of_le (HQ.out q hq) hBB.size) (HNO.out q hq)).trans (hkB q hq)
        have hST : ∃ i, w10 = Wc i := WS.out _ (fun q hq => hkT q hq)
        refine hK.out _ _ (fun _ => hST) ?_
        clear hK K
        go_simp
        refine anyL_seg 9 1 (by kernel_rfl) (fun _ _ _ _ _ h => h) hST (f := 1) rfl (by kernel_rfl) (by kernel_rfl) ?_
        simp only [List.drop_succ_cons, List.drop_zero, List.take_succ_cons, List.take_zero]
        repeat go_big_quiet_step (fail)
        refine wpQuiet_nil ?_
        obtain ⟨hRep', hStp', hbd10⟩ := hRB.pushR HBD.out hF10 hX10 hXl10 hB10 hk10
        obtain ⟨y0, y1, y2, y3, y4, y5⟩ := six9 (W := w10) (b := bd) (x0 := .int .i64 1) (x1 := .int .i64 2) (x2 := .int .i64 1) (x3 := .int .i64 0) (x4 := vrA) (x5 := vnA) (t := 27) hbd10
        obtain ⟨f0, f1, f2, f3, f4, f5⟩ := fro6 (W := w10) (b := bd) (x0 := .int .i64 1) (x1 := .int .i64 2) (x2 := .int .i64 1) (x3 := .int .i64 0) (x4 := vrA) (x5 := vnA) (t := 27) hbd10
        have hbdw := heapLtM hbd10
        refine anyL_act (i := 10) (by kernel_rfl) rfl rfl ?_
        intro K hK
        go_wp2_with fail
        refine hK.out _ _ (fun h => absurd rfl h) ?_
        clear hK K
        refine anyL_done (by kernel_rfl) ?_ 0
        obtain ⟨wn, hwj⟩ : ∃ wn, wn = w10.setCell ⟨bd, 4, none⟩ (.slice Aw Lw cw) := ⟨_, rfl⟩
        rw [← hwj] at hRep' hStp'
        rw [← hwj]
        clear hwj
        obtain ⟨vr2, hvw⟩ : ∃ v, v = Value.slice Aw Lw cw := ⟨_, rfl⟩
        rw [← hvw] at hRep' hStp'
        clear y0 y1 y2 y3 y4 y5 f0 f1 f2 f3 f4 f5 hST hSB hS9 hSA hbdw g1 WS HWc Hi0 hne i0 Wc ι
        have hStN := HStp.out.trans ((Stp.of hBB HB0.out).trans hStp')
        obtain ⟨X2, hX2⟩ : ∃ X2, X2 = XNew XA vr2 := ⟨_, rfl⟩
        rw [← hX2] at hRep' hStN
        have hZn := (hStN.bl.block w.heap.size Hb0w.out).trans HZ4.out
        have hBn : Below w.heap.size w wn := HBW.out.trans (hStN.bl.mono (Nat.le_of_lt Hb0w.out))
        obtain ⟨y0, y1, y2, y3, y4, y5⟩ := hRep'.six
        obtain ⟨f0, f1, f2, f3, f4, f5⟩ := fro6 hZn
        obtain ⟨z0, z1, z2, z3, z4, z5⟩ := six9 hZn
        have hZl := heapLtM hZn
        have hrd : rulesAt 9 ++ [⟨0, 0, [firstAt 9], 1, badT⟩] = repairD.rules := by unfold rulesAt firstAt repairD firstP; rw [show rowsP.take 9 = rowsP from rfl]
        have hfd : finsAt 9 = repairD.finals := by unfold finsAt repairD; rw [show rowsP.take 9 = rowsP from rfl]
        rw [hrd, hfd] at hRep'
        rw [hvw] at hRep' y4
        obtain ⟨An', Ln', cn', rfl⟩ : ∃ A n c, vnA = Value.slice A n c := (hRep'.2.2.1.len).elim fun A h => h.elim fun c h => ⟨A, _, c, h⟩
        have HZN := hid hZn
        have HBN := hid hBn
        have HRepN := hid hRep'
        have hbdl := heapLtM hRep'.1
        clear hrd hfd hZn hBn hRep' hStN hStp' hX2 hvw hbd10 hk10 hB10 hXl10 hF10 hX10 hRB hgr hbr hkT hkB hBB hB9B hwB hgd hbad9 hB9w hk9
        go_wp2_with fail
        obtain ⟨ws, hws⟩ : ∃ ws, ws = setS wn w.heap.size (.int .i64 1) (.int .i64 2) (.int .i64 1) (.int .i64 0) (.slice Aw Lw cw) (.slice An' Ln' cn') := ⟨_, rfl⟩
        have hXs : ws.heap[w.heap.size]? = some (dbox 1 2 1 0 (.slice Aw Lw cw) (.slice An' Ln' cn')) := by rw [hws]; exact setS_heap HZN.out _ _ _ _ _ _
        have hBs : Below w.heap.size w ws := by rw [hws]; exact HBN.out.set6 (Nat.le_refl _) _ _ _ _ _ _
        have hss : ws.heap.size = wn.heap.size := by rw [hws]; exact setS_size ..
        have hoth : ∀ q, q ≠ w.heap.size → ws.heap[q]? = wn.heap[q]? := fun q hq => by rw [hws]; exact setS_other _ _ _ _ _ _ _ _ _ hq
        unfold setS at hws
        rw [← hws]
        clear hws
        obtain ⟨y0, y1, y2, y3, y4, y5⟩ := six9 (x0 := .int .i64 1) (x1 := .int .i64 2) (x2 := .int .i64 1) (x3 := .int .i64 0) (x4 := .slice Aw Lw cw) (x5 := .slice An' Ln' cn') (t := 27) hXs
        have hXq : ∀ q, b0 ≤ q → ws.heap[q]? = wn.heap[q]? := fun q hq => hoth q (by have := Hb0w.out; omega)
        have hFXr' : FX 46 ruleR ws b0 X2 (.slice Aw Lw cw) repairD.rules := HRepN.out.2.1.keep (w' := ws) (X' := X2) (Nat.le_of_eq hss.symm) (fun _ h => h) (fun _ h _ => h) (fun q hq => hXq q (HRepN.out.2.1.own_ge q hq)) (fun q hq _ _ => hXq q hq)
        have hFXr := FX.low hFXr' (Nat.le_of_lt Hb0w.out)
        have hFXf' : FX 49 finalR ws b0 X2 (.slice An' Ln' cn') repairD.finals := HRepN.out.2.2.1.keep (w' := ws) (X' := X2) (Nat.le_of_eq hss.symm) (fun _ h => h) (fun _ h _ => h) (fun q hq => hXq q (HRepN.out.2.2.1.own_ge q hq)) (fun q hq _ _ => hXq q hq)
        have hFXf := FX.low hFXf' (Nat.le_of_lt Hb0w.out)
        have hXl : ∀ q, X2 q → q < ws.heap.size := fun q hq => by rw [hss]; exact HRepN.out.2.2.2.1 q hq
        exact bodyPost_ret (v := .agg #[.int .i64 1, .int .i64 2, .int .i64 1, .int .i64 0, .slice Aw Lw cw, .slice An' Ln' cn']) (by simp [results, Tryz.results19, go_sem, y0, y1, y2, y3, y4, y5]) rfl ⟨_, _, _, rfl, hFXr, hFXf, hXl, hBs⟩
      · intro K hK
        go_wp2_with fail
        refine (HBad.out wo.drew).mono ?_
        rintro e w8 ⟨vb, rfl, hbad, hB8⟩
        obtain ⟨A9, c9, rfl, _, _⟩ := list_form hbad
        have hB8w : Below wo.heap.size wo w8 := ⟨hB8.os, hB8.tape, hB8.output, hB8.size, hB8.block⟩
        have hk8 : ∀ q, q = bd → w8.heap[q]? = wo.drew.heap[q]? := fun q hq => hB8w.block q (HQ.out q hq)
        have hSA : ∃ i, w8 = Wc i := WS.out _ (fun q hq => hk8 q hq)
        go_wp2_with fail
        refine hK.out _ _ (fun _ => hSA) ?_
        clear hK K
        refine anyL_act (i := 3) (by kernel_rfl) rfl rfl ?_
        intro K hK
        go_wp2_with fail
        obtain ⟨w9, hw9⟩ : ∃ w9, w9 = w8.alloc (.cells #[.slice Af L9 cf] 76) := ⟨_, rfl⟩
        rw [← hw9]
        have hB89 : Below w8.heap.size w8 w9 := by rw [hw9]; exact (Below.refl _ w8).alloc (Nat.le_refl _) _
        have hG9 : w9.heap[w8.heap.size]? = some (.cells #[.slice Af L9 cf] 76) := by rw [hw9]; exact heap_alloc_new w8 _
        clear hw9
        have hB9w : Below wo.heap.size wo w9 := hB8w.trans (hB89.mono hB8w.size)
        have hk9 : ∀ q, q = bd → w9.heap[q]? = wo.drew.heap[q]? := fun q hq => hB9w.block q (HQ.out q hq)
        have hS9 : ∃ i, w9 = Wc i := WS.out _ (fun q hq => hk9 q hq)
        refine hK.out _ _ (fun _ => hS9) ?_
        clear hK K
        have hbad9 : (listR termR).rel w9 (Fresh wo.heap.size w9) [.slice A9 badT.length c9] badT := rel_fresh hbad hB89
        have hgd : (listR spansR).rel w9 (ElX w9 b0 XA) [.slice (some ⟨w8.heap.size, 0, none⟩) 1 1] [firstAt 9] := one_in (cs := [.slice Af L9 cf]) hG9 ⟨Nat.le_trans HB0.out hB8w.size, heapLtM hG9, fun hx => by have := HRep.out.2.2.2.1 _ hx; have := hB8w.size; omega⟩ ((Stp.of hB9w HB0.out).rel HFS.out)
        refine anyL_seg 6 1 (by kernel_rfl) (fun _ _ _ _ _ h => h) hS9 (f := 4) rfl (by kernel_rfl) (by kernel_rfl) ?_
        simp only [List.drop_succ_cons, List.drop_zero, List.take_succ_cons, List.take_zero]
        repeat go_big_quiet_step (fail)
        refine wpQuiet_nil ?_
        refine anyL_act (i := 7) (by kernel_rfl) rfl rfl ?_
        intro K hK
        go_wp2_with fail
        obtain ⟨wB, hwB⟩ : ∃ wB, wB = w9.alloc (.cells #[.int .i64 0, .int .i64 0, .slice (some ⟨w8.heap.size, 0, none⟩) 1 1, .int .i64 1, .slice A9 badT.length c9] 46) := ⟨_, rfl⟩
        rw [← hwB]
        have hB9B : Below w9.heap.size w9 wB := by rw [hwB]; exact (Below.refl _ w9).alloc (Nat.le_refl _) _
        have hBB : Below wo.heap.size wo wB := hB9w.trans (hB9B.mono hB9w.size)
        have hkB : ∀ q, q = bd → wB.heap[q]? = wo.drew.heap[q]? := fun q hq => hBB.block q (HQ.out q hq)
        have hSB : ∃ i, wB = Wc i := WS.out _ (fun q hq => hkB q hq)
        refine hK.out _ _ (fun _ => hSB) ?_
        clear hK K
        refine anyL_act (i := 8) (by kernel_rfl) rfl rfl ?_
        intro K hK
        have hRB := HRep.out.later hBB
        have hgr : (listR spansR).rel wB (ElX wB b0 XA) [.slice (some ⟨w8.heap.size, 0, none⟩) 1 1] [firstAt 9] := (Stp.of hB9B (Nat.le_trans HB0.out hB9w.size)).rel hgd
        have hbr : (listR termR).rel wB (ElX wB b0 XA) [.slice A9 badT.length c9] badT := rel_elx (rel_fresh hbad9 hB9B) HRep.out.2.2.2.1 HB0.out
        refine act_append_fx (r := ruleR) (X := XA) (b0 := b0) (v := vrA) (xs := rulesAt 9) (w := wB) _ _ 24 (by rfl) infR _ 72 Tryz.underlying24 hr0 hrz0 hrz1 hrz2 rfl (by decide) (by rfl) hRB.2.1 hRB.2.2.2.1 (Nat.le_trans HB0.out hBB.size) ⟨w9.heap.size, 0, none⟩ 1 ⟨0, 0, [firstAt 9], 1, badT⟩ [.int .i64 0, .int .i64 0, .slice (some ⟨w8.heap.size, 0, none⟩) 1 1, .int .i64 1, .slice A9 badT.length c9] (by rfl) ⟨_, _, rfl, ⟨(okI (by omega) : I64 0), (okI (by omega) : I64 0), (okI (by omega) : I64 1)⟩, hgr, hbr⟩
          (by rw [hwB]; exact news_at (w := w9) (cs := #[_, _, _, _, _]) rfl) (by simp [Value.oneCell']) (by have := (at_small' (Nat.le_refl 9)).1; unfold maxLen; omega) (by have := (at_small' (Nat.le_refl 9)).1; omega) ?_
        intro v' w10 hF10 hX10 hXl10 hB10 hk10
        obtain ⟨Aw, Lw, cw, rfl⟩ : ∃ A n c, v' = Value.slice A n c := (hF10.len).elim fun A h => h.elim fun c h => ⟨A, _, c, h⟩
        have hkT : ∀ q, q = bd → w10.heap[q]? = wo.drew.heap[q]? := fun q hq => (hk10 q (Nat.lt_of_lt_of_le (HQ.out q hq) hBB.size) (HNO.out q hq)).trans (hkB q hq)
        have hST : ∃ i, w10 = Wc i := WS.out _ (fun q hq => hkT q hq)
        refine hK.out _ _ (fun _ => hST) ?_
        clear hK K
        go_simp
        refine anyL_seg 9 1 (by kernel_rfl) (fun _ _ _ _ _ h => h) hST (f := 1) rfl (by kernel_rfl) (by kernel_rfl) ?_
        simp only [List.drop_succ_cons, List.drop_zero, List.take_succ_cons, List.take_zero]
        repeat go_big_quiet_step (fail)
        refine wpQuiet_nil ?_
        obtain ⟨hRep', hStp', hbd10⟩ := hRB.pushR HBD.out hF10 hX10 hXl10 hB10 hk10
        obtain ⟨y0, y1, y2, y3, y4, y5⟩ := six9 (W := w10) (b := bd) (x0 := .int .i64 1) (x1 := .int .i64 2) (x2 := .int .i64 1) (x3 := .int .i64 0) (x4 := vrA) (x5 := vnA) (t := 27) hbd10
        obtain ⟨f0, f1, f2, f3, f4, f5⟩ := fro6 (W := w10) (b := bd) (x0 := .int .i64 1) (x1 := .int .i64 2) (x2 := .int .i64 1) (x3 := .int .i64 0) (x4 := vrA) (x5 := vnA) (t := 27) hbd10
        have hbdw := heapLtM hbd10
        refine anyL_act (i := 10) (by kernel_rfl) rfl rfl ?_
        intro K hK
        go_wp2_with fail
        refine hK.out _ _ (fun h => absurd rfl h) ?_
        clear hK K
        refine anyL_done (by kernel_rfl) ?_ 0
        obtain ⟨wn, hwj⟩ : ∃ wn, wn = w10.setCell ⟨bd, 4, none⟩ (.slice Aw Lw cw) := ⟨_, rfl⟩
        rw [← hwj] at hRep' hStp'
        rw [← hwj]
        clear hwj
        obtain ⟨vr2, hvw⟩ : ∃ v, v = Value.slice Aw Lw cw := ⟨_, rfl⟩
        rw [← hvw] at hRep' hStp'
        clear y0 y1 y2 y3 y4 y5 f0 f1 f2 f3 f4 f5 hST hSB hS9 hSA hbdw g1 WS HWc Hi0 hne i0 Wc ι
        have hStN := HStp.out.trans ((Stp.of hBB HB0.out).trans hStp')
        obtain ⟨X2, hX2⟩ : ∃ X2, X2 = XNew XA vr2 := ⟨_, rfl⟩
        rw [← hX2] at hRep' hStN
        have hZn := (hStN.bl.block w.heap.size Hb0w.out).trans HZ4.out
        have hBn : Below w.heap.size w wn := HBW.out.trans (hStN.bl.mono (Nat.le_of_lt Hb0w.out))
        obtain ⟨y0, y1, y2, y3, y4, y5⟩ := hRep'.six
        obtain ⟨f0, f1, f2, f3, f4, f5⟩ := fro6 hZn
        obtain ⟨z0, z1, z2, z3, z4, z5⟩ := six9 hZn
        have hZl := heapLtM hZn
        have hrd : rulesAt 9 ++ [⟨0, 0, [firstAt 9], 1, badT⟩] = repairD.rules := by unfold rulesAt firstAt repairD firstP; rw [show rowsP.take 9 = rowsP from rfl]
        have hfd : finsAt 9 = repairD.finals := by unfold finsAt repairD; rw [show rowsP.take 9 = rowsP from rfl]
        rw [hrd, hfd] at hRep'
        rw [hvw] at hRep' y4
        obtain ⟨An', Ln', cn', rfl⟩ : ∃ A n c, vnA = Value.slice A n c := (hRep'.2.2.1.len).elim fun A h => h.elim fun c h => ⟨A, _, c, h⟩
        have HZN := hid hZn
        have HBN := hid hBn
        have HRepN := hid hRep'
        have hbdl := heapLtM hRep'.1
        clear hrd hfd hZn hBn hRep' hStN hStp' hX2 hvw hbd10 hk10 hB10 hXl10 hF10 hX10 hRB hgr hbr hkT hkB hBB hB9B hwB hgd hbad9 hB9w hk9
        go_wp2_with fail
        obtain ⟨ws, hws⟩ : ∃ ws, ws = setS wn w.heap.size (.int .i64 1) (.int .i64 2) (.int .i64 1) (.int .i64 0) (.slice Aw Lw cw) (.slice An' Ln' cn') := ⟨_, rfl⟩
        have hXs : ws.heap[w.heap.size]? = some (dbox 1 2 1 0 (.slice Aw Lw cw) (.slice An' Ln' cn')) := by rw [hws]; exact setS_heap HZN.out _ _ _ _ _ _
        have hBs : Below w.heap.size w ws := by rw [hws]; exact HBN.out.set6 (Nat.le_refl _) _ _ _ _ _ _
        have hss : ws.heap.size = wn.heap.size := by rw [hws]; exact setS_size ..
        have hoth : ∀ q, q ≠ w.heap.size → ws.heap[q]? = wn.heap[q]? := fun q hq => by rw [hws]; exact setS_other _ _ _ _ _ _ _ _ _ hq
        unfold setS at hws
        rw [← hws]
        clear hws
        obtain ⟨y0, y1, y2, y3, y4, y5⟩ := six9 (x0 := .int .i64 1) (x1 := .int .i64 2) (x2 := .int .i64 1) (x3 := .int .i64 0) (x4 := .slice Aw Lw cw) (x5 := .slice An' Ln' cn') (t := 27) hXs
        have hXq : ∀ q, b0 ≤ q → ws.heap[q]? = wn.heap[q]? := fun q hq => hoth q (by have := Hb0w.out; omega)
        have hFXr' : FX 46 ruleR ws b0 X2 (.slice Aw Lw cw) repairD.rules := HRepN.out.2.1.keep (w' := ws) (X' := X2) (Nat.le_of_eq hss.symm) (fun _ h => h) (fun _ h _ => h) (fun q hq => hXq q (HRepN.out.2.1.own_ge q hq)) (fun q hq _ _ => hXq q hq)
        have hFXr := FX.low hFXr' (Nat.le_of_lt Hb0w.out)
        have hFXf' : FX 49 finalR ws b0 X2 (.slice An' Ln' cn') repairD.finals := HRepN.out.2.2.1.keep (w' := ws) (X' := X2) (Nat.le_of_eq hss.symm) (fun _ h => h) (fun _ h _ => h) (fun q hq => hXq q (HRepN.out.2.2.1.own_ge q hq)) (fun q hq _ _ => hXq q hq)
        have hFXf := FX.low hFXf' (Nat.le_of_lt Hb0w.out)
        have hXl : ∀ q, X2 q → q < ws.heap.size := fun q hq => by rw [hss]; exact HRepN.out.2.2.2.1 q hq
        exact bodyPost_ret (v := .agg #[.int .i64 1, .int .i64 2, .int .i64 1, .int .i64 0, .slice Aw Lw cw, .slice An' Ln' cn']) (by simp [results, Tryz.results19, go_sem, y0, y1, y2, y3, y4, y5]) rfl ⟨_, _, _, rfl, hFXr, hFXf, hXl, hBs⟩
end Go.Proofs.YthfcbbdghggefaaGreat
