/-
  The program's desc.cycle: it answers as kahnF does.
-/
import Derived.Test.YtmkmikacfilbpaaGreatKPlain
import Derived.Test.YtmkmikacfilbpaaGreatKHeadW
namespace Go.Proofs.YtmkmikacfilbpaaGreat
open Go.Proofs Go.Um Go.RowKit
theorem infoSI : (Tryz.prog.info? 73).map (fun i => (i.zero, i.size, i.bytes)) = some (some (.slice none 0 0), 1, 24) := by kernel_rfl
theorem ints_in {w : World} {base : Nat} {v : Value} {zs : List Int} {S : Nat → Prop} (h : w.ownsRow base 3 1 v zs.length (zs.map (Value.int .i64))) (hz : ∀ z ∈ zs, I64 z) (hS : ∀ g, v.ownBlock = some g → S g) : (listR intR).rel w S [v] zs := by
  have e : zs.map (Value.int .i64) = zs.flatMap (fun z => [Value.int .i64 z]) := by
    clear h hz
    induction zs with
    | nil => rfl
    | cons z zs ih => simp [ih]
  rw [e] at h
  exact own_list (r := intR) (enc := fun z => [Value.int .i64 z]) h hS fun x hx => ⟨rfl, rfl, hz x hx⟩
theorem own_shape {w : World} {base : Nat} {e : TypeId} {size n : Nat} {v : Value} {xs : List Value} (h : w.ownsRow base e size v n xs) : ∃ A c, v = .slice A n c := by
  rcases h.2 with ⟨rfl, rfl⟩ | ⟨g, cap, cur, h1, _⟩
  · exact ⟨_, _, rfl⟩
  · exact ⟨_, _, h1⟩
set_option maxHeartbeats 1000000 in
set_option maxRecDepth 100000 in
theorem cycle_calls (d : Desc) (v u : Value) (w : World) (n : Nat) (hv : (listR ruleR).rel w (upto w.heap.size) [v] d.rules) (hn : d.states = n) (hn1 : n ≤ 1024) (hl : d.rules.length ≤ 4096)
    (hr : ∀ r ∈ d.rules, (0 ≤ r.src ∧ r.src < d.states) ∧ 0 ≤ r.dst ∧ r.dst < d.states) :
    Calls Tryz.prog 110 #[.agg #[.int .i64 d.inn, .int .i64 d.out, .int .i64 d.states, .int .i64 d.start, v, u]] w fun e w' => e = .returned (.bool (kahnF (edgesF d.rules) n)) ∧ Below w.heap.size w w' := by
  obtain ⟨A1, c1, rfl, hc1, hm1⟩ := list_form hv
  unfold maxLen at hm1
  obtain ⟨iss, his0, hisz, his1, his2⟩ := info_parts infoSI
  obtain ⟨inf3, hi3, hy0, hy1, hy2⟩ := info_parts info3
  have hmk : ∀ W : World, (Instr.makeSlice 72 (.int .i64 n) (.int .i64 n)).run Tryz.prog W = .ok (.slice (some ⟨W.heap.size, 0, none⟩) n n) (W.alloc (.cells (madeCells (Value.slice none 0 0).cells (n * iss.size)) 73)) :=
    fun W => make_rowN (P := Tryz.prog) 72 73 iss (.slice none 0 0) Tryz.underlying72 his0 hisz .i64 .i64 n n (Nat.le_refl _) (by rw [his2]; omega) (by omega) W
  rw [his1] at hmk
  have hmk2 : ∀ W : World, (Instr.makeSlice 73 (.int .i64 n) (.int .i64 n)).run Tryz.prog W = .ok (.slice (some ⟨W.heap.size, 0, none⟩) n n) (W.alloc (.cells (madeCells (Value.int .i64 0).cells (n * inf3.size)) 3)) :=
    fun W => make_rowN (P := Tryz.prog) 73 3 inf3 (.int .i64 0) Tryz.underlying73 hi3 hy0 .i64 .i64 n n (Nat.le_refl _) (by rw [hy2]; omega) (by omega) W
  rw [hy1] at hmk2
  rw [hn] at hr ⊢
  have HR := hid hr
  clear hr
  go_enter Tryz.func110, Tryz.ntmps110
  go_wp2_with fail
  have hR0 : OwnRows (((w.alloc (.cells #[.int .i64 d.inn, .int .i64 d.out, .int .i64 n, .int .i64 d.start, .slice A1 d.rules.length c1, u] 26)).alloc (.cells (madeCells #[.slice none 0 0] n) 73)).alloc (.cells (madeCells #[.int .i64 0] n) 3)) (w.heap.size + 1) (w.heap.size + 3) 3 73 n (fun s => toF (edgesF (d.rules.take 0)) s) := by
    refine ⟨List.replicate n (.slice none 0 0), by simp, ?_, fun s v hv => ?_, fun s s' v v' g _ hv _ hg => ?_⟩
    · rw [Below.heap_alloc _ _ _ (by simp)]
      rw [show w.heap.size + 1 = (w.alloc (.cells #[.int .i64 d.inn, .int .i64 d.out, .int .i64 n, .int .i64 d.start, .slice A1 d.rules.length c1, u] 26)).heap.size by simp, heap_alloc_new, ← toList_madeCells_one]
    · obtain ⟨_, rfl⟩ := List.mem_replicate.1 (List.mem_of_getElem? hv)
      exact World.ownsRow_nil _ _ _ _
    · obtain ⟨_, rfl⟩ := List.mem_replicate.1 (List.mem_of_getElem? hv)
      cases hg
  have hI0 : InRow (((w.alloc (.cells #[.int .i64 d.inn, .int .i64 d.out, .int .i64 n, .int .i64 d.start, .slice A1 d.rules.length c1, u] 26)).alloc (.cells (madeCells #[.slice none 0 0] n) 73)).alloc (.cells (madeCells #[.int .i64 0] n) 3)) (w.heap.size + 2) 3 n (innF (edgesF (d.rules.take 0))) := by
    show _ = some (Obj.cells (inVals n (fun _ => 0)).toArray _ _)
    rw [show w.heap.size + 2 = ((w.alloc (.cells #[.int .i64 d.inn, .int .i64 d.out, .int .i64 n, .int .i64 d.start, .slice A1 d.rules.length c1, u] 26)).alloc (.cells (madeCells #[.slice none 0 0] n) 73)).heap.size by simp, heap_alloc_new, inVals_zero, ← toList_madeCells_one]
  have hX0 : (((w.alloc (.cells #[.int .i64 d.inn, .int .i64 d.out, .int .i64 n, .int .i64 d.start, .slice A1 d.rules.length c1, u] 26)).alloc (.cells (madeCells #[.slice none 0 0] n) 73)).alloc (.cells (madeCells #[.int .i64 0] n) 3)).heap[w.heap.size]? = some (.cells #[.int .i64 d.inn, .int .i64 d.out, .int .i64 n, .int .i64 d.start, .slice A1 d.rules.length c1, u] 26) := by
    rw [Below.heap_alloc _ _ _ (by simp; omega), Below.heap_alloc _ _ _ (by simp), heap_alloc_new]
  have hB0 : Below w.heap.size w (((w.alloc (.cells #[.int .i64 d.inn, .int .i64 d.out, .int .i64 n, .int .i64 d.start, .slice A1 d.rules.length c1, u] 26)).alloc (.cells (madeCells #[.slice none 0 0] n) 73)).alloc (.cells (madeCells #[.int .i64 0] n) 3)) := ((((Below.refl _ w).alloc (Nat.le_refl _) _).alloc (by simp) _).alloc (by simp; omega) _)
  have hS0 : (((w.alloc (.cells #[.int .i64 d.inn, .int .i64 d.out, .int .i64 n, .int .i64 d.start, .slice A1 d.rules.length c1, u] 26)).alloc (.cells (madeCells #[.slice none 0 0] n) 73)).alloc (.cells (madeCells #[.int .i64 0] n) 3)).heap.size = w.heap.size + 3 := by simp
  generalize (((w.alloc (.cells #[.int .i64 d.inn, .int .i64 d.out, .int .i64 n, .int .i64 d.start, .slice A1 d.rules.length c1, u] 26)).alloc (.cells (madeCells #[.slice none 0 0] n) 73)).alloc (.cells (madeCells #[.int .i64 0] n) 3)) = wm at *
  go_loopw [23] (fun vi wr => ∃ k : Nat, k ≤ d.rules.length ∧ vi = .int .i64 k ∧ OwnRows wr (w.heap.size + 1) (w.heap.size + 3) 3 73 n (fun s => toF (edgesF (d.rules.take k)) s) ∧ InRow wr (w.heap.size + 2) 3 n (innF (edgesF (d.rules.take k))) ∧
      wr.heap[w.heap.size]? = some (.cells #[.int .i64 d.inn, .int .i64 d.out, .int .i64 n, .int .i64 d.start, .slice A1 d.rules.length c1, u] 26) ∧ Below w.heap.size w wr ∧ w.heap.size + 3 ≤ wr.heap.size) (fun vi _ => d.rules.length - (intOf vi).toNat)
  case atStart => exact ⟨0, Nat.zero_le _, rfl, hR0, hI0, hX0, hB0, by omega⟩
  case round =>
    clear hR0 hI0 hX0 hB0 hS0
    obtain ⟨k, hk, rfl, hR, hI, hX, hB, hS⟩ := hrel
    obtain ⟨wo, hwo⟩ : ∃ wo, wo = wr := ⟨_, rfl⟩
    subst hwo
    have hrw := (listR ruleR).mono (below_cells hB) (fun _ h => h) hv
    by_cases hlt : k < d.rules.length
    · obtain ⟨⟨sx, dx, gx, ex, ox⟩, hx⟩ := at_lt hlt
      obtain ⟨⟨hs0, hs1⟩, hd0, hd1⟩ := HR.out _ (List.mem_of_getElem? hx)
      dsimp only at hs0 hs1 hd0 hd1
      obtain ⟨s, rfl⟩ : ∃ s : Nat, sx = s := ⟨sx.toNat, by omega⟩
      obtain ⟨t, rfl⟩ : ∃ t : Nat, dx = t := ⟨dx.toNat, by omega⟩
      have hsn : s < n := by omega
      have htn : t < n := by omega
      have hlt' : (k : Int) < d.rules.length := by omega
      have HE : Hid (edgesF (d.rules.take (k + 1)) = edgesF (d.rules.take k) ++ (if gx.length = 0 then [((s : Int), (t : Int))] else [])) := hid (by rw [take_snoc hx, edgesF_snoc])
      obtain ⟨b, o, y, z, rfl, hb, q1, q2, q3, q4, q5, q6, hy, hz⟩ := rule_at hrw hx
      obtain ⟨A3, c3, rfl, _, _⟩ := list_form hy
      obtain ⟨A4, c4, rfl, _, _⟩ := list_form hz
      have hbs : b < wo.heap.size := Nat.lt_of_lt_of_le hb hB.size
      have HRr := hid hR
      have HI := hid hI
      have HX := hid hX
      clear hR hI hX hrw hx hy hz q6
      dsimp only at q1 q2 q3 q4 q5
      obtain ⟨wa, hwa⟩ : ∃ wa, wa = wo.alloc (.cells #[.int .i64 s, .int .i64 t, .slice A3 gx.length c3, .int .i64 ex, .slice A4 ox.length c4] 56) := ⟨_, rfl⟩
      by_cases h0 : gx.length = 0
      · have h0' : ((gx.length : Int) == 0) = true := beq_t (by omega)
        have HE2 : Hid (edgesF (d.rules.take (k + 1)) = edgesF (d.rules.take k) ++ [((s : Int), (t : Int))]) := hid (by rw [HE.out, if_pos h0])
        clear HE h0
        obtain ⟨vs, e1, e2, ho, hback⟩ := HRr.out.at hsn
        obtain ⟨A9, c9, rfl⟩ := own_shape ho
        have HO := hid ho
        have HBK := hid hback
        obtain ⟨i1, i2⟩ := HI.out.at htn
        obtain ⟨ib1, ib2⟩ := innF_bounds (edgesF (d.rules.take k)) t
        have hel : (edgesF (d.rules.take k)).length ≤ 4096 := Nat.le_trans (edgesF_len _) (by rw [List.length_take]; omega)
        have htl : (toF (edgesF (d.rules.take k)) s).length ≤ 4096 := Nat.le_trans (toF_len _ _) hel
        obtain ⟨IT, hIT⟩ : ∃ IT, IT = innF (edgesF (d.rules.take k)) t := ⟨_, rfl⟩
        rw [← hIT] at i1 ib1 ib2
        have HIT := hid hIT
        clear ho hback hIT
        have e1a : (wo.alloc (.cells #[.int .i64 s, .int .i64 t, .slice A3 gx.length c3, .int .i64 ex, .slice A4 ox.length c4] 56)).cell? ⟨w.heap.size + 1, s, none⟩ = some _ := (World.cell?_of_block (Below.heap_alloc _ _ _ (by show w.heap.size + 1 < _; omega))).trans e1
        have hwa := heap_alloc_new wo (.cells #[.int .i64 s, .int .i64 t, .slice A3 gx.length c3, .int .i64 ex, .slice A4 ox.length c4] 56)
        go_wp2_with fail
        obtain ⟨ι, W, ⟨i0, hi0⟩, hW, Wsur⟩ := held_class (wo.alloc (.cells #[.int .i64 s, .int .i64 t, .slice A3 gx.length c3, .int .i64 ex, .slice A4 ox.length c4] 56)).drew (fun g => g = wo.heap.size ∨ g = w.heap.size + 1)
        have hne : Nonempty ι := ⟨i0⟩
        have g1 : ∀ i, (W i).cell? ⟨wo.heap.size, 0, none⟩ = some (.int .i64 s) := fun i => (World.cell?_of_block (a := ⟨wo.heap.size, 0, none⟩) (hW i _ (.inl rfl))).trans (cell_of_row (wo.alloc (.cells #[.int .i64 s, .int .i64 t, .slice A3 gx.length c3, .int .i64 ex, .slice A4 ox.length c4] 56)) _ 0 _ _ _ hwa)
        have g2 : ∀ i, (W i).cell? ⟨wo.heap.size, 1, none⟩ = some (.int .i64 t) := fun i => (World.cell?_of_block (a := ⟨wo.heap.size, 1, none⟩) (hW i _ (.inl rfl))).trans (cell_of_row (wo.alloc (.cells #[.int .i64 s, .int .i64 t, .slice A3 gx.length c3, .int .i64 ex, .slice A4 ox.length c4] 56)) _ 1 _ _ _ hwa)
        have g3 : ∀ i, (W i).cell? ⟨w.heap.size + 1, s, none⟩ = some _ := fun i => (World.cell?_of_block (a := ⟨w.heap.size + 1, s, none⟩) (hW i _ (.inr rfl))).trans e1a
        have WS := hid Wsur; clear Wsur
        have HW := hid hW; clear hW
        have Hi0 := hid hi0; clear hi0
        refine region_anyL (S := fun w' => ∃ i, w' = W i) (last := 13) (by kernel_rfl) ?_
        refine anyL_seg 0 10 (by kernel_rfl) (fun _ _ _ _ _ h => h) ⟨i0, Hi0.out.symm⟩ (f := 4) rfl (by kernel_rfl) (by kernel_rfl) ?_
        simp only [List.drop_zero, List.take_succ_cons, List.take_zero]
        repeat go_big_quiet_step (fail)
        refine wpQuiet_nil ?_
        refine anyL_act (i := 10) (by kernel_rfl) rfl rfl ?_
        intro K hK
        go_wp2_with fail
        have hS1 : ∃ i, ((wo.alloc (.cells #[.int .i64 s, .int .i64 t, .slice A3 gx.length c3, .int .i64 ex, .slice A4 ox.length c4] 56)).alloc (.cells #[.int .i64 t] 3)).drew = W i := WS.out _ (fun g hg => Below.heap_alloc _ _ _ (by rcases hg with rfl | rfl <;> (simp <;> omega)))
        refine hK.out _ _ (fun _ => hS1) ?_
        clear hK K
        refine anyL_act (i := 11) (by kernel_rfl) rfl rfl ?_
        intro K hK
        have hoa := (HO.out.alloc (.cells #[.int .i64 s, .int .i64 t, .slice A3 gx.length c3, .int .i64 ex, .slice A4 ox.length c4] 56)).alloc (.cells #[.int .i64 t] 3)
        refine act_append_at _ _ 73 rfl (w.heap.size + 3) 3 inf3 (.int .i64 0) 1 8 Tryz.underlying73 hi3 hy0 hy1 hy2 rfl (by decide) (.slice A9 (toF (edgesF (d.rules.take k)) s).length c9) _ _ rfl (ownsRow_drew hoa) ⟨wo.heap.size + 1, 0, none⟩ 1 1 [.int .i64 t] rfl rfl (news_at (w := wo.alloc (.cells #[.int .i64 s, .int .i64 t, .slice A3 gx.length c3, .int .i64 ex, .slice A4 ox.length c4] 56)) (cs := #[_]) (by simp)) (by simp [Value.oneCell']) (by unfold maxLen; omega) (by omega) (by simp; omega) ?_
        intro v' w1 hown' hgrow hnil hloc
        have hGb : w.heap.size + 1 < w.heap.size + 3 := by omega
        have hdr : ((wo.alloc (.cells #[.int .i64 s, .int .i64 t, .slice A3 gx.length c3, .int .i64 ex, .slice A4 ox.length c4] 56)).alloc (.cells #[.int .i64 t] 3)).grownBy ((wo.alloc (.cells #[.int .i64 s, .int .i64 t, .slice A3 gx.length c3, .int .i64 ex, .slice A4 ox.length c4] 56)).alloc (.cells #[.int .i64 t] 3)).drew (Value.slice A9 (toF (edgesF (d.rules.take k)) s).length c9).ownBlock := ⟨rfl, rfl, rfl, Nat.le_refl _, fun _ _ _ => rfl⟩
        have hgr : wo.grownBy w1 (Value.slice A9 (toF (edgesF (d.rules.take k)) s).length c9).ownBlock := (((World.grownBy_alloc wo (.cells #[.int .i64 s, .int .i64 t, .slice A3 gx.length c3, .int .i64 ex, .slice A4 ox.length c4] 56) _).trans (World.grownBy_alloc _ (.cells #[.int .i64 t] 3) _)).trans hdr).trans hgrow
        have hnw : OwnRows (w1.setCell ⟨w.heap.size + 1, s, none⟩ v') (w.heap.size + 1) (w.heap.size + 3) 3 73 n (fun r => toF (edgesF (d.rules.take (k + 1))) r) := by
          have := HBK.out w1 v' t hgr hown' (hloc.imp id fun e => ⟨_, e, by simp; omega⟩) (by omega)
          rw [HE2.out]
          have he : (fun r : Nat => toF (edgesF (d.rules.take k) ++ [((s : Int), (t : Int))]) r) = fun r : Nat => if r = s then toF (edgesF (d.rules.take k)) s ++ [(t : Int)] else toF (edgesF (d.rules.take k)) r := by
            funext r
            rw [toF_snoc]
            by_cases hrs : r = s
            · subst hrs; simp
            · rw [if_neg (by omega), if_neg hrs]
          rw [he]
          exact this
        have hlow := fun g hg => ((HO.out.lt g hg).1)
        have hin1 : InRow w1 (w.heap.size + 2) 3 n (innF (edgesF (d.rules.take k))) := HI.out.carry (hgr.block _ (by omega) (fun e => by have := hlow _ e.symm; omega))
        have hbx1 : w1.heap[w.heap.size]? = _ := (hgr.block _ (by omega) (fun e => by have := hlow _ e.symm; omega)).trans HX.out
        have hB1 : Below (w.heap.size + 3) wo w1 := (Below.refl _ wo).grown hgr (by omega) (fun j hj => hlow j hj)
        have e1b : w1.cell? ⟨w.heap.size + 1, s, none⟩ = some _ := (hB1.cell (p := ⟨w.heap.size + 1, s, none⟩) (by show w.heap.size + 1 < _; omega)).trans e1
        have e2b : w1.frozen? ⟨w.heap.size + 1, s, none⟩ = false := (hB1.frozen (p := ⟨w.heap.size + 1, s, none⟩) (by show w.heap.size + 1 < _; omega)).trans e2
        have hS2 : ∃ i, w1 = W i := WS.out _ (fun g hg => by
          have hg2 : some g ≠ (Value.slice A9 (toF (edgesF (d.rules.take k)) s).length c9).ownBlock := fun e => by
            have := HO.out.lt g e.symm
            rcases hg with rfl | rfl <;> omega
          rw [hgrow.block g (by rcases hg with rfl | rfl <;> (simp <;> omega)) hg2]
          exact Below.heap_alloc _ _ _ (by rcases hg with rfl | rfl <;> (simp <;> omega)))
        obtain ⟨A8, c8, rfl⟩ := own_shape hown'
        refine hK.out _ _ (fun _ => hS2) ?_
        clear hK K
        refine anyL_act (i := 12) (by kernel_rfl) rfl rfl ?_
        intro K hK
        go_wp2_with fail
        refine hK.out _ _ (fun _ => hS2) ?_
        clear hK K
        refine anyL_act (i := 13) (by kernel_rfl) rfl rfl ?_
        intro K hK
        go_wp2_with fail
        refine hK.out _ _ (fun h => absurd rfl h) ?_
        clear hK K
        refine anyL_done (by kernel_rfl) ?_ _
        have hr1 : w1.heap[wo.heap.size]? = some (.cells #[.int .i64 s, .int .i64 t, .slice A3 gx.length c3, .int .i64 ex, .slice A4 ox.length c4] 56) := by
          rw [hgrow.block wo.heap.size (by simp; omega) (fun e => by have := (HO.out.lt _ e.symm).2; omega)]
          exact (Below.heap_alloc _ _ _ (by simp)).trans hwa
        have hinz := hin1.carry (heap_setCell_other w1 ⟨w.heap.size + 1, s, none⟩ (w.heap.size + 2) (.slice A8 ((toF (edgesF (d.rules.take k)) s).length + 1) c8) (by show _ ≠ w.heap.size + 1; omega))
        have hbxz := (heap_setCell_other w1 ⟨w.heap.size + 1, s, none⟩ w.heap.size (.slice A8 ((toF (edgesF (d.rules.take k)) s).length + 1) c8) (by show _ ≠ w.heap.size + 1; omega)).trans hbx1
        have hrz := (heap_setCell_other w1 ⟨w.heap.size + 1, s, none⟩ wo.heap.size (.slice A8 ((toF (edgesF (d.rules.take k)) s).length + 1) c8) (by show _ ≠ w.heap.size + 1; omega)).trans hr1
        have hBz : Below w.heap.size w (w1.setCell ⟨w.heap.size + 1, s, none⟩ (.slice A8 ((toF (edgesF (d.rules.take k)) s).length + 1) c8)) := (hB.trans (hB1.mono (by omega))).setCell (p := ⟨w.heap.size + 1, s, none⟩) (by show w.heap.size ≤ w.heap.size + 1; omega) _
        have hSz : w.heap.size + 3 ≤ (w1.setCell ⟨w.heap.size + 1, s, none⟩ (.slice A8 ((toF (edgesF (d.rules.take k)) s).length + 1) c8)).heap.size := by have := hB1.size; simp; omega
        clear hr1 hin1 hbx1 hB1 e1b e2b hS1 hS2 hlow hgr hgrow hnil hloc hown' hdr hoa g1 g2 g3 WS HW Hi0 hne i0 W ι HBK HO hwa e1a e1 e2 i1 i2
        generalize w1.setCell ⟨w.heap.size + 1, s, none⟩ (.slice A8 ((toF (edgesF (d.rules.take k)) s).length + 1) c8) = wz at *
        have r1 := cell_of_row _ _ 1 _ _ _ hrz
        obtain ⟨i1, i2⟩ := hinz.at htn
        rw [← HIT.out] at i1
        have hput := hinz.put htn (IT + 1)
        have HPUT : Hid (InRow (wz.setCell ⟨w.heap.size + 2, t, none⟩ (.int .i64 (IT + 1))) (w.heap.size + 2) 3 n (innF (edgesF (d.rules.take (k + 1))))) := hid (by
          have he : innF (edgesF (d.rules.take (k + 1))) = fun x : Int => if x = t then IT + 1 else innF (edgesF (d.rules.take k)) x := by
            funext x
            rw [HE2.out, innF_snoc]
            by_cases hx : x = t
            · subst hx; rw [if_pos rfl, if_pos rfl, ← HIT.out]
            · rw [if_neg hx, if_neg hx]
          rw [he]; exact hput)
        have HNW := hid (hnw.carry (w' := wz.setCell ⟨w.heap.size + 2, t, none⟩ (.int .i64 (IT + 1))) (heap_setCell_other wz _ _ _ (by show _ ≠ w.heap.size + 2; omega)) (fun g hg _ => heap_setCell_other wz _ _ _ (by show _ ≠ w.heap.size + 2; omega)))
        have HBZ := hid hbxz
        clear hput hnw hbxz hrz hinz
        simp at r1
        go_wp2_with fail
        refine ⟨⟨k + 1, by omega, by push_cast; rfl, HNW.out, HPUT.out, (heap_setCell_other wz _ _ _ (by show _ ≠ w.heap.size + 2; omega)).trans HBZ.out, hBz.setCell (by show _ ≤ w.heap.size + 2; omega) _, by simpa using hSz⟩, ?_⟩
        simp [intOf]; omega
      · have h0' : ((gx.length : Int) == 0) = false := beq_f (by omega)
        have HE2 : Hid (edgesF (d.rules.take (k + 1)) = edgesF (d.rules.take k)) := hid (by rw [HE.out, if_neg h0]; simp)
        clear HE h0
        have hBa : Below (w.heap.size + 3) wo (wo.alloc (.cells #[.int .i64 s, .int .i64 t, .slice A3 gx.length c3, .int .i64 ex, .slice A4 ox.length c4] 56)) := (Below.refl _ _).alloc hS _
        have HR2 := hid (HRr.out.carry (hBa.block _ (by omega)) (fun g _ hg => Below.heap_alloc _ _ _ hg))
        have HI2 := hid (HI.out.carry (hBa.block _ (by omega)))
        have HX2 := hid ((hBa.block _ (by omega)).trans HX.out)
        have hBz := hB.trans (hBa.mono (by omega))
        clear hBa HRr HI HX
        go_wp2_with fail
        refine ⟨⟨k + 1, by omega, by push_cast; rfl, by rw [HE2.out]; exact HR2.out, by rw [HE2.out]; exact HI2.out, HX2.out, hBz, by simp; omega⟩, ?_⟩
        simp [intOf]; omega
    · obtain rfl : k = d.rules.length := by omega
      obtain ⟨E, hE⟩ : ∃ E, E = edgesF d.rules := ⟨_, rfl⟩
      rw [List.take_length, ← hE] at hR hI
      have HR2 := hid hR
      have HI2 := hid hI
      have HX2 := hid hX
      have HE := hid hE
      have hsz : w.heap.size < wo.heap.size := by omega
      clear hR hI hX hrw hE hlt
      go_wp2_with fail
      go_loopw [7, 54] (fun vt vi wr => ∃ (i : Nat) (xs : List Int), i ≤ n ∧ vi = .int .i64 i ∧ xs = todoF E i ∧ QAt wr wo.heap.size vt xs ∧ Below wo.heap.size wo wr) (fun _ vi _ => n - (intOf vi).toNat)
      case atStart => exact ⟨0, [], Nat.zero_le _, rfl, rfl, QAt.nil _ _, Below.refl _ _⟩
      case round =>
        obtain ⟨i, xs, hi, rfl, hxs, hq, hBi⟩ := hrel
        obtain ⟨wi, hwi⟩ : ∃ wi, wi = wr := ⟨_, rfl⟩
        subst hwi
        have HXS := hid hxs
        clear hxs
        by_cases hlt : i < n
        · obtain ⟨i1, i2⟩ := HI2.out.at hlt
          replace i1 := (hBi.cell (p := ⟨w.heap.size + 2, i, none⟩) (by show w.heap.size + 2 < _; omega)).trans i1
          obtain ⟨IT, hIT⟩ : ∃ IT, IT = innF E i := ⟨_, rfl⟩
          rw [← hIT] at i1
          have hxl : xs.length ≤ n := by
            rw [HXS.out]; unfold todoF
            have := List.length_filter_le (fun t => decide (innF E t = 0)) ((List.range i).map fun k : Nat => (k : Int))
            simp at this; omega
          have HST : Hid (todoF E (i + 1) = todoF E i ++ (if IT = 0 then [(i : Int)] else [])) := hid (by
            unfold todoF
            rw [List.range_succ, List.map_append, List.filter_append, hIT]
            by_cases h0 : innF E i = 0 <;> simp [h0])
          clear hIT i2
          have hlt' : (i : Int) < n := by omega
          by_cases h0 : IT = 0
          · subst h0
            have HST2 : Hid (todoF E (i + 1) = todoF E i ++ [(i : Int)]) := hid (by rw [HST.out, if_pos rfl])
            clear HST
            go_wp2_with (at_builtin; refine Hid.out ?_)
            refine hid ?_
            refine wpList_append_q _ rfl _ _ 73 rfl 3 inf3 Tryz.underlying73 hi3 hy0 hy1 hy2 rfl ((hq.carry (w' := wi.alloc (.cells #[.int .i64 i] 3)) (by simp) (fun g _ hg => Below.heap_alloc _ _ _ hg))) (by have := hBi.size; simp; omega) (by omega) ⟨wi.heap.size, 0, none⟩ 1 i rfl (cell_of_row _ _ 0 _ _ _ (heap_alloc_new wi _)) rfl ?_
            intro v' w1 hq1 hB1
            obtain ⟨A8, c8, rfl, hc8, hm8⟩ := hq1.len
            go_wp2_with fail
            refine ⟨⟨i + 1, xs ++ [(i : Int)], by omega, by push_cast; rfl, by rw [HST2.out, ← HXS.out], by have := hq1; simp only [List.length_append, List.length_singleton] at this; exact this, hBi.trans (((Below.refl _ wi).alloc hBi.size _).trans hB1)⟩, ?_⟩
            simp [intOf]; omega
          · have h0' : (IT == 0) = false := beq_f h0
            go_wp2_with fail
            refine ⟨⟨i + 1, xs, by omega, by push_cast; rfl, ?_, hq, hBi⟩, ?_⟩
            · rw [HST.out, if_neg h0, ← HXS.out]; simp
            simp [intOf]; omega
        · obtain rfl : i = n := by omega
          have hE2 : ∀ e ∈ E, (0 ≤ e.1 ∧ e.1 < i) ∧ 0 ≤ e.2 ∧ e.2 < i := fun e he => by
            obtain ⟨r, h1, _, rfl⟩ := mem_edgesF (HE.out ▸ he : e ∈ edgesF d.rules)
            exact HR.out r h1
          have hel : E.length ≤ 4096 := by have := edgesF_len d.rules; rw [← HE.out] at this; omega
          have HE2 := hid hE2
          have hxl : xs.length ≤ i := by
            rw [HXS.out]; unfold todoF
            have := List.length_filter_le (fun t => decide (innF E t = 0)) ((List.range i).map fun k : Nat => (k : Int))
            simp at this; omega
          obtain ⟨A8, c8, rfl, hc8, hm8⟩ := hq.len
          have hG0 : wo.grownBy wi (some (w.heap.size + 2)) := ⟨hBi.os, hBi.tape, hBi.output, hBi.size, fun g hg _ => hBi.block g hg⟩
          have hI0 := HI2.out.carry (hBi.block (w.heap.size + 2) (by omega))
          have hK0 : KahnI E i [] (innF E) xs := by rw [HXS.out]; exact kahn_start E i
          have HW0 : Hid (kahnGo E (i + 1) (innF E) xs 0 = kahnGo E (i + 1) (innF E) (todoF E i) 0) := hid (by rw [HXS.out])
          clear hE2 hlt HXS
          go_wp2_with fail
          go_loopw [7, 10] (fun vt vd wr => ∃ (P todo : List Int) (inn : Int → Int), vd = .int .i64 P.length ∧ P.length ≤ i ∧ KahnI E i P inn todo ∧ InRow wr (w.heap.size + 2) 3 i inn ∧ QAt wr wo.heap.size vt todo ∧ kahnGo E (i + 1 - P.length) inn todo P.length = kahnGo E (i + 1) (innF E) (todoF E i) 0 ∧ wo.grownBy wr (some (w.heap.size + 2))) (fun _ vd _ => i - (intOf vd).toNat)
          case atStart => exact ⟨[], xs, innF E, rfl, Nat.zero_le _, hK0, hI0, hq, HW0.out, hG0⟩
          case round =>
            clear hK0 hI0 hq hG0 HW0
            obtain ⟨P, todo, inn, rfl, hPl, hK, hI, hq, hgo, hG⟩ := hrel
            obtain ⟨w4, hw4⟩ : ∃ w4, w4 = wr := ⟨_, rfl⟩
            subst hw4
            have HK := hid hK
            have HI := hid hI
            have HGO := hid hgo
            have HG := hid hG
            have hs4 := hG.size
            clear hK hI hgo hG
            obtain ⟨plen, hpl⟩ : ∃ plen, plen = P.length := ⟨_, rfl⟩
            rw [← hpl]
            cases todo with
            | nil =>
              obtain ⟨A8, c8, rfl, hc8, hm8⟩ := hq.len
              have hbx := (HG.out.block w.heap.size (by omega) (by simp)).trans HX2.out
              have p2 := cell_of_row _ _ 2 _ _ _ hbx
              have hBe : Below w.heap.size w w4 := hB.grown HG.out (by omega) (fun j hj => by cases hj; omega)
              have HF : Hid (decide (plen < i) = kahnF (edgesF d.rules) i) := hid (by
                have := HGO.out
                rw [kahnGo_nil] at this
                unfold kahnF
                rw [← HE.out, ← this, ← hpl])
              simp at p2
              rw [← hpl] at hPl
              clear hpl hbx
              go_wp2_with fail
              go_ret
              exact ⟨by rw [← HF.out]; rfl, hBe⟩
            | cons s todo =>
              obtain ⟨hs0, hs1⟩ := HK.out.rng s (by simp)
              obtain ⟨s, rfl⟩ : ∃ s' : Nat, s = s' := ⟨s.toNat, by omega⟩
              have hsn : s < i := by omega
              have hroom := HK.out.room
              obtain ⟨hcnt, hinb⟩ := HK.out.counts
              have hinb' : ∀ t, inn t ≤ 4096 := fun t => Int.le_trans (hinb t) (by omega)
              have HBD := hid (fun j => fold_bounds (todo := todo) hcnt hinb' j)
              clear hcnt hinb hinb'
              obtain ⟨g, off, cap, rfl, hcl, hcm, hc0, hq2⟩ := hq.front
              unfold maxLen at hcm
              clear hq
              obtain ⟨vs, e1, e2, ho, _⟩ := HR2.out.at hsn
              have hlow := ho.lt
              have e1b : w4.cell? ⟨w.heap.size + 1, s, none⟩ = some vs := (World.cell?_of_block (a := ⟨w.heap.size + 1, s, none⟩) (HG.out.block (w.heap.size + 1) (by omega) (by simp))).trans e1
              obtain ⟨TS, hTS⟩ : ∃ TS, TS = toF E s := ⟨_, rfl⟩
              rw [← hTS] at ho HBD
              have htl : TS.length ≤ 4096 := by rw [hTS]; exact Nat.le_trans (toF_len _ _) hel
              have hts : ∀ t ∈ TS, 0 ≤ t ∧ t < i := fun t ht => (HE2.out _ (mem_toF (hTS ▸ ht))).2
              have hrow := ints_in (S := fun b => w.heap.size + 3 ≤ b ∧ b < wo.heap.size) ho (fun z hz => by have := hts z hz; exact ⟨by omega, by omega⟩) hlow
              obtain ⟨A7, c7, rfl, hc7, hm7⟩ := list_form hrow
              have HTS := hid hTS
              have HTM := hid hts
              clear ho hlow e1 e2 hts hTS
              have HST := hid (HK.out.step (fun e he => (HE2.out e he).2))
              rw [← HTS.out] at HST
              have HFO : Hid ((inn, todo) = (TS.take 0).foldl takeT (inn, todo)) := hid rfl
              have hplr : plen + todo.length + 1 ≤ i := by rw [hpl]; exact hroom
              clear hroom
              go_wp2_with fail
              all_goals
                go_loopw [7, 81] (fun vt vi wr => ∃ (j : Nat) (ij : Int → Int) (tj : List Int), j ≤ TS.length ∧ vi = .int .i64 j ∧ (ij, tj) = (TS.take j).foldl takeT (inn, todo) ∧ InRow wr (w.heap.size + 2) 3 i ij ∧ QAt wr wo.heap.size vt tj ∧ wo.grownBy wr (some (w.heap.size + 2))) (fun _ vi _ => TS.length - (intOf vi).toNat)
                case atStart => exact ⟨0, inn, todo, Nat.zero_le _, rfl, HFO.out, HI.out, by simpa only [*, if_true, if_false] using hq2, HG.out⟩
                case round =>
                  clear hq2 HFO
                  obtain ⟨j, ij, tj, hj, rfl, hfo, hIj, hqj, hGj⟩ := hrel
                  obtain ⟨w5, hw5⟩ : ∃ w5, w5 = wr := ⟨_, rfl⟩
                  subst hw5
                  have hs5 := hGj.size
                  obtain ⟨A6, c6, rfl, hc6, hm6⟩ := hqj.len
                  by_cases hlt : j < TS.length
                  · obtain ⟨t, htj⟩ := at_lt hlt
                    obtain ⟨ht0, ht1⟩ := HTM.out t (List.mem_of_getElem? htj)
                    obtain ⟨t, rfl⟩ : ∃ t' : Nat, t = t' := ⟨t.toNat, by omega⟩
                    have htn : t < i := by omega
                    obtain ⟨b, o, ds, rfl, ⟨hb1, hb2⟩, ⟨rfl, _⟩, hcell⟩ := list_at hrow htj
                    have c1 : wo.cell? ⟨b, o + j, none⟩ = some (.int .i64 t) := by simpa [intR] using hcell 0 _ rfl
                    have c2 : w5.cell? ⟨b, o + j, none⟩ = some (.int .i64 t) := (World.cell?_of_block (a := ⟨b, o + j, none⟩) (hGj.block b hb2 (by simp; omega))).trans c1
                    clear c1 hcell
                    have hlt' : (j : Int) < TS.length := by omega
                    have hbd := HBD.out j
                    rw [← hfo] at hbd
                    obtain ⟨hb0, hbl⟩ := hbd
                    obtain ⟨hb3, hb4⟩ := hb0 t
                    dsimp only at hb3 hb4 hbl
                    obtain ⟨i1, i2⟩ := hIj.at htn
                    obtain ⟨IT, hIT⟩ : ∃ IT, IT = ij t := ⟨_, rfl⟩
                    rw [← hIT] at i1 hb3 hb4
                    have HSN : Hid ((fun x => if x = (t : Int) then IT - 1 else ij x, if IT - 1 = 0 then tj ++ [(t : Int)] else tj) = (TS.take (j + 1)).foldl takeT (inn, todo)) := hid (by rw [fold_snoc htj, ← hfo, takeT_two, hIT])
                    have HPUT := hid (hIj.put htn (IT - 1))
                    have hqz := hqj.carry (w' := w5.setCell ⟨w.heap.size + 2, t, none⟩ (.int .i64 (IT - 1))) (by simp) (fun g hg _ => heap_setCell_other w5 _ _ _ (by show _ ≠ w.heap.size + 2; omega))
                    have hGz := hid (hGj.trans (grown_setCell w5 (w.heap.size + 2) t (.int .i64 (IT - 1))))
                    clear hfo hIj hqj hGj hIT hb0 hrow
                    by_cases hz : IT = 1
                    · subst hz
                      clear hb3 hb4
                      have HSN2 : Hid ((fun x => if x = (t : Int) then (1 : Int) - 1 else ij x, tj ++ [(t : Int)]) = (TS.take (j + 1)).foldl takeT (inn, todo)) := hid (by rw [← HSN.out]; simp)
                      clear HSN
                      go_wp2_with (at_builtin; refine Hid.out ?_)
                      refine hid ?_
                      refine wpList_append_q _ rfl _ _ 73 rfl 3 inf3 Tryz.underlying73 hi3 hy0 hy1 hy2 rfl (base := wo.heap.size) (hqz.carry (w' := (w5.setCell ⟨w.heap.size + 2, t, none⟩ (.int .i64 (1 - 1))).alloc (.cells #[.int .i64 t] 3)) (by simp) (fun g _ hg => Below.heap_alloc _ _ _ hg)) (by simp; omega) (by omega) ⟨w5.heap.size, 0, none⟩ 1 t rfl (by have := cell_of_row _ _ 0 _ _ _ (heap_alloc_new (w5.setCell ⟨w.heap.size + 2, t, none⟩ (.int .i64 (1 - 1))) (.cells #[.int .i64 t] 3)); simpa using this) rfl ?_
                      intro v' w6 hq6 hB6
                      obtain ⟨A5, c5, rfl, hc5, hm5⟩ := hq6.len
                      have hBz6 : Below wo.heap.size (w5.setCell ⟨w.heap.size + 2, t, none⟩ (.int .i64 (1 - 1))) w6 := (((Below.refl _ _).alloc (by simp; omega) _).trans hB6)
                      have HI6 := hid (HPUT.out.carry (hBz6.block (w.heap.size + 2) (by omega)))
                      have HG6 := hid (grown_low hGz.out hBz6)
                      have HQ6 : Hid (QAt w6 wo.heap.size (.slice A5 (tj.length + 1) c5) (tj ++ [(t : Int)])) := hid (by have := hq6; simp only [List.length_append, List.length_singleton] at this; exact this)
                      clear hBz6 hB6 hq6 HPUT hGz hqz
                      go_wp2_with fail
                      refine ⟨⟨j + 1, _, _, by omega, by push_cast; rfl, HSN2.out, HI6.out, HQ6.out, HG6.out⟩, ?_⟩
                      simp [intOf]; omega
                    · have hz' : (IT - 1 == 0) = false := beq_f (by omega)
                      go_wp2_with fail
                      refine ⟨⟨j + 1, _, _, by omega, by push_cast; rfl, HSN.out, HPUT.out, by rw [if_neg (by omega)]; exact hqz, hGz.out⟩, ?_⟩
                      simp [intOf]; omega
                  · obtain rfl : j = TS.length := by omega
                    have HGO2 : Hid (kahnGo E (i + 1 - (P ++ [(s : Int)]).length) ij tj (P ++ [(s : Int)]).length = kahnGo E (i + 1) (innF E) (todoF E i) 0) := hid (by
                      rw [← HGO.out]
                      have h1 : i + 1 - P.length = (i - P.length) + 1 := by omega
                      have h2 : i + 1 - (P ++ [(s : Int)]).length = i - P.length := by simp only [List.length_append, List.length_singleton]; omega
                      rw [List.take_length, HTS.out] at hfo
                      rw [h1, h2, kahnGo, ← hfo]
                      simp)
                    have HST2 : Hid (KahnI E i (P ++ [(s : Int)]) ij tj) := hid (by
                      have := HST.out
                      rw [List.take_length] at hfo
                      rw [← hfo] at this
                      exact this)
                    have HP : Hid (plen = P.length) := hid hpl
                    clear hpl hfo hlt hrow
                    go_wp2_with fail
                    refine ⟨⟨P ++ [(s : Int)], tj, ij, by rw [List.length_append, ← HP.out]; push_cast; rfl, by rw [List.length_append, ← HP.out]; simp; omega, HST2.out, hIj, hqj, HGO2.out, hGj⟩, ?_⟩
                    have hpp := HP.out
                    simp [intOf]; omega
end Go.Proofs.YtmkmikacfilbpaaGreat
