/-
  What escapes scalars: escape.Html.
-/
import Derived.Test.YthfcbbdghggefaaGreatQEsV
import Derived.Test.YthfcbbdghggefaaGreatQEsG
import Derived.Lib.OthersKept
namespace Go.Proofs.YthfcbbdghggefaaGreat
open Go.RowKit Go.Um Go.Proofs
def fiveS : ByteArray := ⟨#[38, 60, 62, 34, 39]⟩
theorem fiveS_at {k : Nat} {z : Int} (h : fiveP[k]? = some z) : ∃ hk : k < fiveS.size, ((fiveS[k]'hk).toNat : Int) = z ∧ (fiveS[k]'hk).toNat < 128 := by
  have hk := (List.getElem?_eq_some_iff.1 h).1
  have hl : fiveP.length = 5 := rfl
  obtain rfl | rfl | rfl | rfl | rfl : k = 0 ∨ k = 1 ∨ k = 2 ∨ k = 3 ∨ k = 4 := by omega
  all_goals
    cases h
    exact ⟨by decide, by decide, by decide⟩
theorem ent_at {z y : Int} {j : Nat} {i : Nat} (hz : fiveP[i]? = some z) (h : (entF z)[j]? = some y) : ∃ hj : j < (entS z).size, (((entS z)[j]'hj).toNat : Int) = y ∧ ((entS z)[j]'hj).toNat < 128 := by
  have h1 := ent_str hz
  have hj : j < (entS z).size := by rw [h1.1]; exact (List.getElem?_eq_some_iff.1 h).1
  have h2 := (lett_at (entS z) j hj).trans (h1.2 j y h).1
  refine ⟨hj, h2, ?_⟩
  have key : fiveP.all (fun z => (entF z).all fun y => decide (y < 128)) = true := by decide +kernel
  have h3 := of_decide_eq_true (List.all_eq_true.1 (List.all_eq_true.1 key z (List.mem_of_getElem? hz)) y (List.mem_of_getElem? h))
  omega
/-- moving an iterator turns no cell. -/
theorem iterAt_cell {w : World} {k : Nat} {s : ByteArray} {pos pos' : Nat} (hk : w.heap[k]? = some (.stringIter s pos)) (p : Addr) : (w.iterAt k s pos').cell? p = w.cell? p := by
  by_cases h : p.block = k
  · unfold World.cell?
    rw [h, Lib.iterAt_heap w k s pos pos' hk, hk]
  · exact World.cell?_of_block (Lib.iterAt_other w k _ s pos' h)
theorem infoTm2 : (Tryz.prog.info? 69).map (fun i => (i.zero, i.size, i.bytes)) = some (some (.agg #[.int .i64 0, .int .i64 0, .int .i64 0, .int .i64 0, .int .i64 0, .slice none 0 0]), 6, 64) := by kernel_rfl
theorem iter_pos {w : World} {k p : Nat} {s : ByteArray} (h : w.heap[k]? = some (.stringIter s p)) : w.iterPos k = p := by
  unfold World.iterPos
  rw [h]
theorem five9' {W : World} {b : Nat} {x0 x1 x2 x3 x4 : Value} {t : TypeId} (h : W.heap[b]? = some (.cells #[x0, x1, x2, x3, x4] t)) : W.cell? ⟨b, 0, none⟩ = some x0 ∧ W.cell? ⟨b, 1, none⟩ = some x1 ∧ W.cell? ⟨b, 2, none⟩ = some x2 ∧ W.cell? ⟨b, 3, none⟩ = some x3 ∧ W.cell? ⟨b, 4, none⟩ = some x4 :=
  ⟨cell_of_row _ _ 0 _ _ _ h, cell_of_row _ _ 1 _ _ _ h, cell_of_row _ _ 2 _ _ _ h, cell_of_row _ _ 3 _ _ _ h, cell_of_row _ _ 4 _ _ _ h⟩
def restK (k : Nat) : List Span := (fiveP.take k).foldl (fun s z => minusF s [⟨z, z⟩]) (domF 2)
def HtI (w wl wr : World) (D IT : Nat) (k : Nat) : Prop := ∃ vr, wr.heap[D]? = some (.cells #[.int .i64 2, .int .i64 2, .int .i64 1, .int .i64 0, vr, .slice (some ⟨w.heap.size + 1, 0, none⟩) 1 1] 27) ∧ FL 46 ruleR wr wl.heap.size wl.heap.size vr (htmlD.rules.take k) ∧ (∀ g, g < wl.heap.size → g ≠ D → g ≠ IT → wr.heap[g]? = wl.heap[g]?) ∧ wl.heap.size ≤ wr.heap.size ∧ Below w.heap.size w wr
theorem HtI.later {w wl wr wr' : World} {D IT k : Nat} (h : HtI w wl wr D IT k) (hB : Below wr.heap.size wr wr') : HtI w wl wr' D IT k := by
  obtain ⟨vr, h1, h2, h3, h4, h5⟩ := h
  exact ⟨vr, (hB.block _ (heapLtM h1)).trans h1, h2.later hB, fun g h6 h7 h8 => (hB.block g (by omega)).trans (h3 g h6 h7 h8), Nat.le_trans h4 hB.size, h5.trans (hB.mono h5.size)⟩
def RestI (B C : Nat) (w : World) (v : Value) (k : Nat) : Prop := ∃ A n c, v = .slice A n c ∧ OwnS 75 w (if k = 0 then B else C) (.slice A n c) (restK k)
theorem restK_len {k : Nat} (h : k ≤ 5) : (restK k).length ≤ 100 := by
  have key : (List.range 6).all (fun k => decide ((restK k).length ≤ 100)) = true := by decide +kernel
  exact of_decide_eq_true (List.all_eq_true.1 key k (List.mem_range.2 (by omega)))
theorem restK_succ {k : Nat} {z : Int} (h : fiveP[k]? = some z) : restK (k + 1) = minusF (restK k) [⟨z, z⟩] := by
  unfold restK
  rw [List.take_add_one, h]
  simp [List.foldl_append]
theorem ownS_keep {e : TypeId} {w w' : World} {base : Nat} {v : Value} {xs : List Span} (h : OwnS e w base v xs) (hk : ∀ g cur, v.ownBlock = some g → w.heap[g]? = some (.cells cur e) → w'.heap[g]? = w.heap[g]?) : OwnS e w' base v xs := ⟨by
  refine ⟨h.1.1, ?_⟩
  rcases h.1.2 with h2 | ⟨g, cap, cur, h2, h3, h4, h5⟩
  · exact .inl h2
  · exact .inr ⟨g, cap, cur, h2, h3, (hk g cur (by rw [h2]; rfl) h4).trans h4, h5⟩, h.2⟩
theorem elx_later {β : Type} {q : RepOf β} {w w' : World} {b0 : Nat} {X : Nat → Prop} {cs : List Value} {x : β} (h : q.rel w (ElX w b0 X) cs x) (hb : Below w.heap.size w w') : q.rel w' (ElX w' b0 X) cs x :=
  q.mono (fun _ hp => hb.cell hp.2.1) (fun _ hp => ⟨hp.1, Nat.lt_of_lt_of_le hp.2.1 hb.size, hp.2.2⟩) h
set_option maxHeartbeats 2000000 in
set_option maxRecDepth 100000 in
theorem Html_calls (w : World) : Calls Tryz.prog 26 #[] w fun e w' => DescPost htmlD w e w' := by
  have HDM := hid fun W => Domain_calls 2 W
  have HON := hid fun A B n c m d W => one_calls A B n c m d W
  have HEN := hid fun z W => entity_calls z W
  have HCN := hid fun y W hy => Const_calls y W hy
  have HCP := hid fun W => Copy_calls 0 0 W (okI (by omega))
  obtain ⟨inf, hi0, hz0, hz1, hz2⟩ := info_parts infoRu
  obtain ⟨int, ti0, tz0, tz1, tz2⟩ := info_parts infoTm2
  go_enter Tryz.func26, Tryz.ntmps26
  go_wp2_with fail
  refine (HDM.out _).mono ?_
  rintro e w1 ⟨u1, rfl, ho1, hB1⟩
  obtain ⟨w0, hw0⟩ : ∃ x, x = ((w.alloc (.cells #[.int .i64 0, .int .i64 0, .int .i64 0, .int .i64 0, .slice none 0 0, .slice none 0 0] 27)).alloc (.cells #[.int .i64 0, .slice none 0 0, .slice none 0 0] 49)).alloc (.cells #[.int .i64 2, .int .i64 2, .int .i64 1, .int .i64 0, .slice none 0 0, .slice (some ⟨w.heap.size + 1, 0, none⟩) 1 1] 27) := ⟨_, rfl⟩
  rw [← hw0] at ho1 hB1
  have HW0 := hid hw0
  clear hw0
  obtain ⟨A1, c1, rfl, _, _⟩ := list_form ho1.rel
  have HO1 := hid ho1
  have HB1 := hid hB1
  clear ho1 hB1
  go_wp2_with fail
  obtain ⟨D, hD⟩ : ∃ x, x = w.heap.size + 1 + 1 := ⟨_, rfl⟩
  rw [← hD]
  obtain ⟨IT, hIT⟩ : ∃ x, x = w1.heap.size := ⟨_, rfl⟩
  rw [← hIT]
  have hfs : (⟨#[38, 60, 62, 34, 39]⟩ : ByteArray) = fiveS := rfl
  rw [hfs]
  clear hfs
  obtain ⟨wl, hwl⟩ : ∃ x, x = w1.iter fiveS 0 := ⟨_, rfl⟩
  rw [← hwl]
  have hall : (w.heap.size + 3 ≤ IT ∧ D = w.heap.size + 2 ∧ wl.heap.size = IT + 1) ∧ wl.heap[IT]? = some (.stringIter fiveS 0) ∧ HtI w wl wl D IT 0 ∧ RestI (w.heap.size + 3) wl.heap.size wl (.slice A1 (domF 2).length c1) 0 ∧ wl.heap[w.heap.size]? = some (.cells #[.int .i64 0, .int .i64 0, .int .i64 0, .int .i64 0, .slice none 0 0, .slice none 0 0] 27) ∧ wl.heap[w.heap.size + 1]? = some (.cells #[.int .i64 0, .slice none 0 0, .slice none 0 0] 49) := by
    have hs0 : w0.heap.size = w.heap.size + 3 := by rw [HW0.out]; simp
    have hB0 : Below w.heap.size w w0 := by rw [HW0.out]; exact (((Below.refl _ w).alloc (Nat.le_refl _) _).alloc (by simp) _).alloc (by simp; omega) _
    have hZ : w0.heap[w.heap.size]? = some (.cells #[.int .i64 0, .int .i64 0, .int .i64 0, .int .i64 0, .slice none 0 0, .slice none 0 0] 27) := by
      rw [HW0.out, Below.heap_alloc _ _ _ (by simp; omega), Below.heap_alloc _ _ _ (by simp)]
      exact heap_alloc_new _ _
    have hF : w0.heap[w.heap.size + 1]? = some (.cells #[.int .i64 0, .slice none 0 0, .slice none 0 0] 49) := by
      rw [HW0.out, Below.heap_alloc _ _ _ (by simp)]
      have := heap_alloc_new (w.alloc (.cells #[.int .i64 0, .int .i64 0, .int .i64 0, .int .i64 0, .slice none 0 0, .slice none 0 0] 27)) (.cells #[.int .i64 0, .slice none 0 0, .slice none 0 0] 49)
      simpa using this
    have hDh : w0.heap[D]? = some (.cells #[.int .i64 2, .int .i64 2, .int .i64 1, .int .i64 0, .slice none 0 0, .slice (some ⟨w.heap.size + 1, 0, none⟩) 1 1] 27) := by
      rw [HW0.out, hD]
      have := heap_alloc_new ((w.alloc (.cells #[.int .i64 0, .int .i64 0, .int .i64 0, .int .i64 0, .slice none 0 0, .slice none 0 0] 27)).alloc (.cells #[.int .i64 0, .slice none 0 0, .slice none 0 0] 49)) (.cells #[.int .i64 2, .int .i64 2, .int .i64 1, .int .i64 0, .slice none 0 0, .slice (some ⟨w.heap.size + 1, 0, none⟩) 1 1] 27)
      simpa using this
    have hs1 := HB1.out.size
    have hBl : Below w1.heap.size w1 wl := by rw [hwl]; exact (Below.refl _ w1).alloc (Nat.le_refl _) _
    have hsl : wl.heap.size = w1.heap.size + 1 := by rw [hwl]; show (w1.alloc _).heap.size = _; simp
    have hIt : wl.heap[IT]? = some (.stringIter fiveS 0) := by rw [hwl, hIT]; exact heap_alloc_new _ _
    have hB0l : Below w0.heap.size w0 wl := HB1.out.trans (hBl.mono hs1)
    have hO := ownS_keep (w' := wl) HO1.out fun g cur _ hc => hBl.block g (heapLtM hc)
    rw [hs0] at hO
    exact ⟨⟨by omega, by omega, by omega⟩, hIt, ⟨_, (hB0l.block _ (heapLtM hDh)).trans hDh, OwnR.nil, fun _ _ _ _ => rfl, Nat.le_refl _, hB0.trans (hB0l.mono hB0.size)⟩, ⟨_, _, _, rfl, hO⟩, (hB0l.block _ (heapLtM hZ)).trans hZ, (hB0l.block _ (heapLtM hF)).trans hF⟩
  obtain ⟨hn, hI0, hH0, hR0, hZ0, hF0⟩ := hall
  have HN := hid hn
  have HI0 := hid hI0
  have HH0 := hid hH0
  have HR0 := hid hR0
  have HZ0 := hid hZ0
  have HF0 := hid hF0
  clear hD hIT hwl hn hI0 hH0 hR0 hZ0 hF0 HO1 HB1
  go_loopw [2] (fun v2 wr => ∃ k : Nat, k ≤ 5 ∧ wr.heap[IT]? = some (.stringIter fiveS k) ∧ HtI w wl wr D IT k ∧ RestI (w.heap.size + 3) wl.heap.size wr v2 k) (fun _ wr => 5 - wr.iterPos IT)
  case atStart => exact ⟨0, Nat.zero_le _, HI0.out, HH0.out, HR0.out⟩
  case round =>
    obtain ⟨wo, hwo⟩ : ∃ wo, wo = wr := ⟨_, rfl⟩
    subst hwo
    obtain ⟨k, hk, hIk, hH, A2, n2, c2, rfl, hR⟩ := hrel
    have HH := hid hH
    have HR := hid hR
    have HIk := hid hIk
    clear hH hR HI0 HH0 HR0
    by_cases hlt : k < 5
    · obtain ⟨z, hz⟩ := at_lt (xs := fiveP) (i := k) hlt
      obtain ⟨hks, hsz, hs1⟩ := fiveS_at hz
      have hnx := fun ty => Lib.run_next_ascii_at (P := Tryz.prog) wo IT fiveS k ty hIk hks hs1
      rw [hsz] at hnx
      have hITl := heapLtM hIk
      have HZK := hid hz
      clear hsz hs1 hz hIk
      have hzb : 0 ≤ z ∧ z ≤ 127 := by
        obtain ⟨_, h1, h2⟩ := fiveS_at HZK.out
        omega
      go_wp2_with fail
      obtain ⟨wn, hwn⟩ : ∃ x, x = wo.iterAt IT fiveS (k + 1) := ⟨_, rfl⟩
      rw [← hwn]
      have hIn : wn.heap[IT]? = some (.stringIter fiveS (k + 1)) := by rw [hwn]; exact Lib.iterAt_heap wo IT fiveS k (k + 1) HIk.out
      have hoth : ∀ g, g ≠ IT → wn.heap[g]? = wo.heap[g]? := fun g hg => by rw [hwn]; exact Lib.iterAt_other wo IT g fiveS (k + 1) hg
      have hcell : ∀ p : Addr, wn.cell? p = wo.cell? p := fun p => by rw [hwn]; exact iterAt_cell HIk.out p
      have hsn : wn.heap.size = wo.heap.size := by rw [hwn]; exact Lib.iterAt_size wo IT fiveS (k + 1)
      have hn := HN.out
      have HHn : Hid (HtI w wl wn D IT k) := hid (by
        obtain ⟨vr, h1, h2, h3, h4, h5⟩ := HH.out
        refine ⟨vr, (hoth D (by omega)).trans h1, h2.keep (Nat.le_refl _) (by omega) (fun g h6 _ => hoth g (by omega)), fun g h6 h7 h8 => (hoth g h8).trans (h3 g h6 h7 h8), by omega, ?_⟩
        rw [hwn]
        exact Lib.below_iterAt h5 (by omega) fiveS (k + 1))
      have HRn := hid (ownS_keep (w' := wn) HR.out fun g cur _ hc => hoth g fun he => by
        rw [he, HIk.out] at hc
        cases hc)
      have HIn := hid hIn
      have hsw : wl.heap.size ≤ wn.heap.size := by obtain ⟨_, _, _, _, h4, _⟩ := HHn.out; exact h4
      have HPk := hid (iter_pos HIk.out)
      clear hwn hIn hoth hcell hsn hnx HH HR HIk hn
      refine (HON.out _ _ _ _ _ _ _).mono ?_
      rintro e w2 ⟨rfl, hG2, hs2, hB2⟩
      have HG2 := hid hG2
      have HS2 := hid hs2
      have HB2 := hid hB2
      clear hG2 hs2 hB2
      go_wp2_with fail
      refine (HEN.out z _).mono ?_
      rintro e w4 ⟨rfl, hw4⟩
      rw [hw4]
      clear hw4 w4
      go_wp2_with fail
      obtain ⟨IT2, hIT2⟩ : ∃ x, x = w2.heap.size + 1 := ⟨_, rfl⟩
      rw [← hIT2]
      obtain ⟨RB, hRB⟩ : ∃ x, x = w2.heap.size := ⟨_, rfl⟩
      rw [← hRB]
      obtain ⟨G, hG⟩ : ∃ x, x = wn.heap.size + 1 + 1 := ⟨_, rfl⟩
      rw [← hG]
      obtain ⟨SB, hSB⟩ : ∃ x, x = wn.heap.size := ⟨_, rfl⟩
      rw [← hSB]
      obtain ⟨wi, hwi⟩ : ∃ x, x = (w2.alloc (.cells #[.int .i64 0, .int .i64 0, .slice (some ⟨G, 0, none⟩) 1 1, .int .i64 1, .slice none 0 0] 46)).iter (entS z) 0 := ⟨_, rfl⟩
      rw [← hwi]
      have hB2n : Below wn.heap.size wn w2 := ((Below.refl _ wn).alloc (Nat.le_refl _) _).trans (HB2.out.mono (by simp))
      have hs2n : w2.heap.size = wn.heap.size + 3 := by rw [HS2.out]; simp
      have hBi2 : Below w2.heap.size w2 wi := by rw [hwi]; exact ((Below.refl _ w2).alloc (Nat.le_refl _) _).alloc (by simp) _
      have hRBh : wi.heap[RB]? = some (.cells #[.int .i64 0, .int .i64 0, .slice (some ⟨G, 0, none⟩) 1 1, .int .i64 1, .slice none 0 0] 46) := by
        rw [hwi, hRB]
        exact (Below.heap_alloc _ (.stringIter (entS z) 0) _ (by simp)).trans (heap_alloc_new _ _)
      have hITh : wi.heap[IT2]? = some (.stringIter (entS z) 0) := by
        have e : IT2 = (w2.alloc (.cells #[.int .i64 0, .int .i64 0, .slice (some ⟨G, 0, none⟩) 1 1, .int .i64 1, .slice none 0 0] 46)).heap.size := by rw [hIT2]; simp
        rw [hwi, e]
        exact heap_alloc_new _ _
      have hsi : wi.heap.size = w2.heap.size + 2 := by rw [hwi]; show ((w2.alloc _).alloc _).heap.size = _; simp
      have hBin : Below wn.heap.size wn wi := hB2n.trans (hBi2.mono (by omega))
      have hGh : wi.heap[G]? = some (.cells #[.slice (some ⟨SB, 0, none⟩) 1 1] 76) := by
        rw [hBi2.block _ (by omega), hG, hSB]
        have := HG2.out
        simpa using this
      have hSh : wi.heap[SB]? = some (.cells #[.int .i64 z, .int .i64 z] 75) := by
        rw [hBi2.block _ (by omega), HB2.out.block _ (by simp; omega), hSB]
        exact heap_alloc_new _ _
      have HRBh := hid hRBh
      have HITh := hid hITh
      have HGh := hid hGh
      have HSh := hid hSh
      have HBin := hid hBin
      have HNi : Hid (SB = wn.heap.size ∧ G = wn.heap.size + 2 ∧ RB = wn.heap.size + 3 ∧ IT2 = wn.heap.size + 4 ∧ wi.heap.size = wn.heap.size + 5 ∧ wl.heap.size ≤ wn.heap.size) := hid (by omega)
      clear hIT2 hRB hG hSB hwi hB2n hs2n hBi2 hRBh hITh hsi hBin hGh hSh hsw HG2 HS2 HB2
      obtain ⟨s, hs⟩ : ∃ s, s = entS z := ⟨_, rfl⟩
      rw [← hs] at HITh ⊢
      have HS := hid hs
      clear hs
      obtain ⟨L, hL⟩ : ∃ L, L = entF z := ⟨_, rfl⟩
      have HL := hid hL
      have hL6 : L.length ≤ 6 := by rw [hL]; have := esc_len z; rw [esc_five HZK.out] at this; exact this
      have hsL : s.size = L.length := by rw [HS.out, hL]; exact (ent_str HZK.out).1
      have HSL := hid hsL
      clear hL hsL
      go_loopw [8] (fun _ wr => ∃ j : Nat, j ≤ L.length ∧ wr.heap[IT2]? = some (.stringIter s j) ∧ (∃ vo, wr.heap[RB]? = some (.cells #[.int .i64 0, .int .i64 0, .slice (some ⟨G, 0, none⟩) 1 1, .int .i64 1, vo] 46) ∧ FL 69 termR wr wi.heap.size wi.heap.size vo ((L.take j).map constT)) ∧ (∀ g, g < wi.heap.size → g ≠ RB → g ≠ IT2 → wr.heap[g]? = wi.heap[g]?) ∧ wi.heap.size ≤ wr.heap.size ∧ Below wn.heap.size wn wr) (fun _ wr => L.length - wr.iterPos IT2)
      case atStart => exact ⟨0, Nat.zero_le _, HITh.out, ⟨_, HRBh.out, OwnR.nil⟩, fun _ _ _ _ => rfl, Nat.le_refl _, HBin.out⟩
      case round =>
        obtain ⟨wp, hwp⟩ : ∃ x, x = wr := ⟨_, rfl⟩
        subst hwp
        obtain ⟨j, hj, hIj, ⟨vo, hRj, hFj⟩, hkj, hsj, hBj⟩ := hrel
        by_cases hltj : j < L.length
        · obtain ⟨y, hy⟩ := at_lt hltj
          obtain ⟨hjs, hsy, hs1⟩ := ent_at (z := z) HZK.out (by rw [← HL.out]; exact hy)
          have hnx : ∀ ty, (Instr.next (.pointer (some ⟨IT2, 0, none⟩)) true ty).run Tryz.prog wp = .ok (.tuple #[.bool true, .int .i64 j, .int .i32 y]) (wp.iterAt IT2 s (j + 1)) := fun ty => by
            have h := Lib.run_next_ascii_at (P := Tryz.prog) wp IT2 (entS z) j ty (by rw [← HS.out]; exact hIj) hjs hs1
            rw [hsy, ← HS.out] at h
            exact h
          have hITl := heapLtM hIj
          have hyb : 0 ≤ y ∧ y ≤ 127 := by omega
          have HPj := hid (iter_pos hIj)
          have HIj := hid hIj
          have HRj := hid hRj
          have HFj := hid hFj
          have Hkj := hid hkj
          have HBj := hid hBj
          have HY := hid hy
          obtain ⟨Ao, co, rfl⟩ := hFj.len
          clear hy hsy hs1 hIj hRj hFj hkj hBj
          go_wp2_with fail
          obtain ⟨wq, hwq⟩ : ∃ x, x = wp.iterAt IT2 s (j + 1) := ⟨_, rfl⟩
          rw [← hwq]
          have HIq := hid (show wq.heap[IT2]? = some (.stringIter s (j + 1)) by rw [hwq]; exact Lib.iterAt_heap wp IT2 s j (j + 1) HIj.out)
          have hoth : ∀ g, g ≠ IT2 → wq.heap[g]? = wp.heap[g]? := fun g hg => by rw [hwq]; exact Lib.iterAt_other wp IT2 g s (j + 1) hg
          have hsq : wq.heap.size = wp.heap.size := by rw [hwq]; exact Lib.iterAt_size wp IT2 s (j + 1)
          have hni := HNi.out
          have hRq := (hoth RB (by omega)).trans HRj.out
          obtain ⟨T, hT⟩ : ∃ T, T = (L.take j).map constT := ⟨_, rfl⟩
          have HFq := hid ((HFj.out.keep (w' := wq) (Nat.le_refl _) (by omega) (fun g h6 _ => hoth g (by omega))))
          have HTq := hid hT
          rw [← hT] at HFq hRq
          have hTl : T.length ≤ 6 := by rw [hT]; simp; omega
          have HBq := hid (show Below wn.heap.size wn wq by rw [hwq]; exact Lib.below_iterAt HBj.out (by omega) s (j + 1))
          have Hkq : Hid (∀ g, g < wi.heap.size → g ≠ RB → g ≠ IT2 → wq.heap[g]? = wi.heap[g]?) := hid fun g h6 h7 h8 => (hoth g h8).trans (Hkj.out g h6 h7 h8)
          have hsq2 : wi.heap.size ≤ wq.heap.size := by omega
          have hRl := heapLtM hRq
          clear hwq hoth hsq hnx HIj HRj HFj Hkj HBj hT hni
          obtain ⟨ι, Wc, ⟨i0, hi0'⟩, hWc, Wsur⟩ := held_class wq.drew (fun g => g = RB)
          have hne : Nonempty ι := ⟨i0⟩
          have WS := hid Wsur; clear Wsur
          have HWc := hid hWc; clear hWc
          have Hi0 := hid hi0'; clear hi0'
          have g4 : ∀ i, (Wc i).cell? ⟨RB, 4, none⟩ = some (.slice Ao T.length co) := fun i => cell_of_row _ _ 4 _ _ _ ((HWc.out i _ rfl).trans hRq)
          have hS0 : ∃ i, wq.drew = Wc i := ⟨i0, Hi0.out.symm⟩
          refine region_anyL (S := fun w' => ∃ i, w' = Wc i) (last := 7) (by kernel_rfl) ?_
          refine anyL_seg 0 3 (by kernel_rfl) (fun _ _ _ _ _ h => h) hS0 (f := 5) rfl (by kernel_rfl) (by kernel_rfl) ?_
          simp only [List.drop_zero, List.take_succ_cons, List.take_zero]
          repeat go_big_quiet_step (fail)
          refine wpQuiet_nil ?_
          refine anyL_act (i := 3) (by kernel_rfl) rfl rfl ?_
          intro K hK
          go_wp2_with fail
          refine (HCN.out y _ ⟨by omega, by omega⟩).mono ?_
          rintro e w5 ⟨rfl, hB5⟩
          have hB5x : Below wq.heap.size wq w5 := ⟨hB5.os, hB5.tape, hB5.output, hB5.size, hB5.block⟩
          have HB5 := hid hB5x
          have hs5 := hB5x.size
          unfold tval constT
          dsimp only
          go_wp2_with fail
          refine hK.out _ _ (fun _ => WS.out _ fun q hq => by subst hq; exact HB5.out.block _ hRl) ?_
          clear hK K hB5 hB5x
          refine anyL_act (i := 4) (by kernel_rfl) rfl rfl ?_
          intro K hK
          go_wp2_with fail
          have hBx : Below wq.heap.size wq (w5.alloc (.cells #[.int .i64 0, .int .i64 0, .int .i64 21, .int .i64 0, .int .i64 y, .slice none 0 0] 69)) := HB5.out.alloc hs5 _
          refine hK.out _ _ (fun _ => WS.out _ fun q hq => by subst hq; exact hBx.block _ hRl) ?_
          clear hK K
          refine anyL_act (i := 5) (by kernel_rfl) rfl rfl ?_
          intro K hK
          refine act_append_fl (r := termR) (v := .slice Ao T.length co) (xs := T) (w0 := wq) (w := w5.alloc (.cells #[.int .i64 0, .int .i64 0, .int .i64 21, .int .i64 0, .int .i64 y, .slice none 0 0] 69)) _ _ 44 (by rfl) int _ 64 Tryz.underlying44 ti0 tz0 tz1 tz2 rfl (by decide) (by rfl) HFq.out hBx (by have := hBx.size; omega) ⟨w5.heap.size, 0, none⟩ 1 (constT y) [.int .i64 0, .int .i64 0, .int .i64 21, .int .i64 0, .int .i64 y, .slice none 0 0] (by rfl) ⟨_, rfl, ⟨(okI (by omega) : I64 0), (okI (by omega) : I64 0), (okI (by omega) : I64 21), (okI (by omega) : I64 0), (okI (by omega) : I64 y)⟩, list_nil _ _ _⟩
            (news_at (w := w5) (cs := #[_, _, _, _, _, _]) rfl) (by simp [Value.oneCell']) (by unfold maxLen; omega) (by omega) ?_
          intro v' w6 hF6 hB6
          obtain ⟨Aw, cw, rfl⟩ := hF6.len
          have hs6 := hB6.size
          have hsx := hBx.size
          have hR6 := ((hB6.block _ (by have := HNi.out; omega)).trans (hBx.block _ hRl)).trans hRq
          have hS6 : ∃ i, w6 = Wc i := WS.out _ fun q hq => by subst hq; exact (hB6.block _ (by have := HNi.out; omega)).trans (hBx.block _ hRl)
          refine hK.out _ _ (fun _ => hS6) ?_
          clear hK K
          go_simp
          refine anyL_seg 6 1 (by kernel_rfl) (fun _ _ _ _ _ h => h) hS6 (f := 1) rfl (by kernel_rfl) (by kernel_rfl) ?_
          simp only [List.drop_succ_cons, List.drop_zero, List.take_succ_cons, List.take_zero]
          repeat go_big_quiet_step (fail)
          refine wpQuiet_nil ?_
          have f4 := frozen_of_row _ _ 4 _ _ hR6
          have m4 := cell_of_row _ _ 4 _ _ _ hR6
          refine anyL_act (i := 7) (by kernel_rfl) rfl rfl ?_
          intro K hK
          go_wp2_with fail
          refine hK.out _ _ (fun h => absurd rfl h) ?_
          clear hK K
          refine anyL_done (by kernel_rfl) ?_ 0
          have hni := HNi.out
          have hTn : (L.take (j + 1)).map constT = T ++ [constT y] := by rw [List.take_add_one, HY.out, List.map_append, HTq.out]; rfl
          have HE : Hid ((∃ vo, (w6.setCell ⟨RB, 4, none⟩ (.slice Aw (T ++ [constT y]).length cw)).heap[RB]? = some (.cells #[.int .i64 0, .int .i64 0, .slice (some ⟨G, 0, none⟩) 1 1, .int .i64 1, vo] 46) ∧ FL 69 termR (w6.setCell ⟨RB, 4, none⟩ (.slice Aw (T ++ [constT y]).length cw)) wi.heap.size wi.heap.size vo ((L.take (j + 1)).map constT)) ∧ (∀ g, g < wi.heap.size → g ≠ RB → g ≠ IT2 → (w6.setCell ⟨RB, 4, none⟩ (.slice Aw (T ++ [constT y]).length cw)).heap[g]? = wi.heap[g]?) ∧ wi.heap.size ≤ (w6.setCell ⟨RB, 4, none⟩ (.slice Aw (T ++ [constT y]).length cw)).heap.size ∧ Below wn.heap.size wn (w6.setCell ⟨RB, 4, none⟩ (.slice Aw (T ++ [constT y]).length cw)) ∧ (w6.setCell ⟨RB, 4, none⟩ (.slice Aw (T ++ [constT y]).length cw)).heap[IT2]? = some (.stringIter s (j + 1))) := hid ⟨⟨_, heap_setCell_same w6 RB 4 _ _ _ hR6, by rw [hTn]; exact hF6.keep (Nat.le_refl _) (by simp) (fun g h1 _ => heap_setCell_other _ _ _ _ (by simp only; omega))⟩, fun g h1 h2 h3 => by
              rw [heap_setCell_other _ _ _ _ (by simpa using h2), hB6.block g (by omega), hBx.block g (by omega)]
              exact Hkq.out g h1 h2 h3, by simp; omega, ((HBq.out.trans (hBx.mono HBq.out.size)).trans (hB6.mono (by omega))).setCell (p := ⟨RB, 4, none⟩) (by simp only; omega) _, by
              rw [heap_setCell_other _ _ _ _ (by simp only; omega), hB6.block _ (by omega), hBx.block _ (by omega)]
              exact HIq.out⟩
          rw [show (T ++ [constT y]).length = T.length + 1 by simp] at HE
          clear hS6 hF6 hB6 hR6 hni hTn f4 m4 g4 hBx WS HWc Hi0 hne hS0 i0 Wc ι
          go_wp2_with fail
          refine ⟨⟨j + 1, by omega, HE.out.2.2.2.2, HE.out.1, HE.out.2.1, HE.out.2.2.1, HE.out.2.2.2.1⟩, ?_⟩
          rw [iter_pos HE.out.2.2.2.2, HPj.out]
          omega
        · obtain rfl : j = L.length := by omega
          rw [List.take_length] at hFj
          have hni := HNi.out
          have hnx := fun ty => Lib.run_next_end_at (P := Tryz.prog) wp IT2 s L.length ty hIj (by rw [HSL.out]; omega)
          obtain ⟨Ao, co, rfl⟩ := hFj.len
          have HRp := hid (ownS_keep HRn.out fun g cur _ hc => hBj.block g (heapLtM hc))
          have HIp := hid ((hBj.block _ (heapLtM HIn.out)).trans HIn.out)
          have HGp := hid ((hkj G (by omega) (by omega) (by omega)).trans HGh.out)
          have HSp := hid ((hkj SB (by omega) (by omega) (by omega)).trans HSh.out)
          have hit2 := heapLtM hIj
          have hRl := heapLtM hRj
          obtain ⟨r0, r1, r2, r3, r4⟩ := five9' hRj
          obtain ⟨vr, h1, h2, h3, h4, h5⟩ := HHn.out
          obtain ⟨Ar, cr, rfl⟩ := h2.len
          obtain ⟨M, hM⟩ : ∃ M, M = htmlD.rules.take k := ⟨_, rfl⟩
          rw [← hM] at h1 h2
          have hMl : M.length ≤ 6 := by rw [hM]; have : htmlD.rules.length = 6 := rfl; rw [List.length_take]; omega
          have HM : Hid (htmlD.rules.take (k + 1) = M ++ [entR z]) := hid (by
            have h9 : htmlD.rules[k]? = some (entR z) := by
              show (fiveP.map entR ++ _)[k]? = _
              rw [List.getElem?_append_left (by rw [List.length_map]; exact hlt), List.getElem?_map, HZK.out]
              rfl
            rw [List.take_add_one, h9, hM]
            rfl)
          have HOwn := hid h2.own_lt
          have hDh := (hBj.block _ (heapLtM h1)).trans h1
          have hBjs := hBj.size
          have HFL := hid (h2.later hBj)
          have HkD := hid fun g (h6 : g < wl.heap.size) (h7 : g ≠ D) (h8 : g ≠ IT) => (hBj.block g (by omega)).trans (h3 g h6 h7 h8)
          have HBD := hid (h5.trans (hBj.mono h5.size))
          have HDh := hid hDh
          have hDl := heapLtM hDh
          obtain ⟨d0, d1, d2, d3, d4, d5⟩ := six9 hDh
          have HFj := hid ((hFj.low (c0 := wn.heap.size) (c1 := wn.heap.size) (by omega) (by omega)).rel (Nat.le_refl _))
          have hwlp : wl.heap.size ≤ wp.heap.size := by omega
          have hwln : wl.heap.size ≤ wn.heap.size := by omega
          have HSBl := hid (show wn.heap.size ≤ SB ∧ wn.heap.size ≤ G ∧ SB < wp.heap.size ∧ G < wp.heap.size by omega)
          clear hM h1 h2 h3 h4 h5 hDh hni hFj hRj hBj hkj hIj
          go_wp2_with (at_builtin; refine Hid.out ?_)
          refine hid ?_
          have hBa : Below wp.heap.size wp (wp.alloc (.cells #[.int .i64 0, .int .i64 0, .slice (some ⟨G, 0, none⟩) 1 1, .int .i64 1, .slice Ao L.length co] 46)) := (Below.refl _ wp).alloc (Nat.le_refl _) _
          obtain ⟨wa, hwa⟩ : ∃ x, x = wp.alloc (.cells #[.int .i64 0, .int .i64 0, .slice (some ⟨G, 0, none⟩) 1 1, .int .i64 1, .slice Ao L.length co] 46) := ⟨_, rfl⟩
          rw [← hwa] at hBa ⊢
          have hRh : wa.heap[wp.heap.size]? = some (.cells #[.int .i64 0, .int .i64 0, .slice (some ⟨G, 0, none⟩) 1 1, .int .i64 1, .slice Ao L.length co] 46) := by rw [hwa]; exact heap_alloc_new _ _
          clear hwa
          have hsa := hBa.size
          have hFW := FX.of (X := fun g => (Value.slice Ar M.length cr).ownBlock = some g) (HFL.out.later hBa) (Nat.le_refl _) (fun _ => Iff.rfl)
          have hGa := (hBa.block _ HSBl.out.2.2.2).trans HGp.out
          have hSa := (hBa.block _ HSBl.out.2.2.1).trans HSp.out
          have hsp := one_at (r := spanR) (cells := #[.int .i64 z, .int .i64 z]) (x := ⟨z, z⟩) hSa (show Fresh wn.heap.size wa _ from ⟨HSBl.out.1, by have := HSBl.out; omega⟩) ⟨rfl, okI (by simp; omega), okI (by simp; omega)⟩
          have hgd := one_at (r := spansR) (cells := #[_]) hGa (show Fresh wn.heap.size wa _ from ⟨HSBl.out.2.1, by have := HSBl.out; omega⟩) hsp
          have htm := rel_fresh (q := listR termR) HFj.out hBa
          refine wpList_append_fx (r := ruleR) (v := .slice Ar M.length cr) (xs := M) rfl _ _ 24 (by rfl) inf _ 72 Tryz.underlying24 hi0 hz0 hz1 hz2 rfl (by decide) (by rfl) hFW (fun g hg => by have := HOwn.out g hg; omega) (by omega) ⟨wp.heap.size, 0, none⟩ 1 (entR z) [.int .i64 0, .int .i64 0, .slice (some ⟨G, 0, none⟩) 1 1, .int .i64 1, .slice Ao L.length co] (by rfl)
            ⟨_, _, rfl, ⟨(okI (by omega) : I64 0), (okI (by omega) : I64 0), (okI (by omega) : I64 1)⟩, rel_elx (q := listR spansR) hgd HOwn.out hwln, rel_elx (q := listR termR) (by rw [show (entR z).out = L.map constT by rw [HL.out]; rfl]; rw [List.length_map] at htm; exact htm) HOwn.out hwln⟩ (row_news hRh) (by simp [Value.oneCell']) (by unfold maxLen; omega) (by omega) ?_
          intro v' w6 hF6 hX6 hXl6 hB6 hk6
          obtain ⟨Aw, cw, rfl⟩ := hF6.len
          have hs6 := hB6.size
          have HLm : Hid (htmlD.rules.take (k + 1) = M ++ [entR z]) := HM
          have hDl : D < wl.heap.size := by have := HN.out; omega
          have hITl : IT < wl.heap.size := by have := HN.out; omega
          have hneD : (Value.slice Ar M.length cr).ownBlock ≠ some D := fx_ne hFW ((hBa.block _ (by omega)).trans HDh.out) (by decide)
          have hD6 := (hk6 D (by omega) hneD).trans ((hBa.block _ (by omega)).trans HDh.out)
          have hI6 := (hB6.block IT hITl).trans ((hBa.block _ (by omega)).trans HIp.out)
          have hS6 := (hk6 SB (by have := HSBl.out; omega) (fx_ne hFW hSa (by decide))).trans hSa
          have hR6 := ownS_keep (w' := w6) HRp.out fun g cur _ hc => (hk6 g (by have := heapLtM hc; omega) (fx_ne hFW ((hBa.block _ (heapLtM hc)).trans hc) (by decide))).trans (hBa.block _ (heapLtM hc))
          have hnS : SB ≠ D := by have := HSBl.out; omega
          have HE : Hid (HtI w wl (w6.setCell ⟨D, 4, none⟩ (.slice Aw (M ++ [entR z]).length cw)) D IT (k + 1) ∧ (w6.setCell ⟨D, 4, none⟩ (.slice Aw (M ++ [entR z]).length cw)).heap[IT]? = some (.stringIter fiveS (k + 1)) ∧ spansR.rel (w6.setCell ⟨D, 4, none⟩ (.slice Aw (M ++ [entR z]).length cw)) (upto (w6.setCell ⟨D, 4, none⟩ (.slice Aw (M ++ [entR z]).length cw)).heap.size) [.slice A2 n2 c2] (restK k) ∧ (w6.setCell ⟨D, 4, none⟩ (.slice Aw (M ++ [entR z]).length cw)).heap[SB]? = some (.cells #[.int .i64 z, .int .i64 z] 75) ∧ wl.heap.size ≤ (w6.setCell ⟨D, 4, none⟩ (.slice Aw (M ++ [entR z]).length cw)).heap.size) := hid (by
            refine ⟨⟨_, heap_setCell_same w6 D 4 _ _ _ hD6, ?_, ?_, by simp; omega, ?_⟩, ?_, ?_, ?_, by simp; omega⟩
            · rw [HLm.out]
              exact (fx_fl hF6).keep (Nat.le_refl _) (by simp) (fun g h1 _ => heap_setCell_other _ _ _ _ (by simp only; omega))
            · intro g h1 h2 h3
              rw [heap_setCell_other _ _ _ _ (by simpa using h2), hB6.block g h1, hBa.block g (by omega)]
              exact HkD.out g h1 h2 h3
            · exact ((HBD.out.trans (hBa.mono HBD.out.size)).trans (hB6.mono (by have := HN.out; omega))).setCell (p := ⟨D, 4, none⟩) (by have := HN.out; simp only; omega) _
            · rw [heap_setCell_other _ _ _ _ (by have := HN.out; simp only; omega)]
              exact hI6
            · refine (ownS_keep (w' := w6.setCell ⟨D, 4, none⟩ (.slice Aw (M ++ [entR z]).length cw)) hR6 fun g cur _ hc => heap_setCell_other _ _ _ _ ?_).rel
              intro he
              simp only at he
              rw [he, hD6] at hc
              cases hc
            · rw [heap_setCell_other _ _ _ _ (by simpa using hnS)]
              exact hS6)
          rw [show (M ++ [entR z]).length = M.length + 1 by simp] at HE
          obtain ⟨f0, f1, f2, f3, f4, f5⟩ := fro6 hD6
          obtain ⟨m0, m1, m2, m3, m4, m5⟩ := six9 hD6
          have hD6l : D < w6.heap.size := by omega
          clear hF6 hX6 hXl6 hB6 hk6 hD6 hI6 hS6 hR6 hneD hnS hFW hRh hBa hGa hSa hsp hgd htm r0 r1 r2 r3 r4 d0 d1 d2 d3 d4 d5 hsa hRl
          go_wp2_with fail
          refine (Minus_calls (restK k) [⟨z, z⟩] _ _ _ HE.out.2.2.1 (one_at (r := spanR) (cells := #[.int .i64 z, .int .i64 z]) (x := ⟨z, z⟩) HE.out.2.2.2.1 (heapLtM HE.out.2.2.2.1) ⟨rfl, okI (by simp; omega), okI (by simp; omega)⟩) (by have := restK_len hk; omega) (by simp)).mono ?_
          rintro e w7 ⟨u7, rfl, ho7, hB7⟩
          obtain ⟨A7, c7, rfl, _, _⟩ := list_form ho7.rel
          rw [← restK_succ HZK.out] at ho7 ⊢
          have HI7 := hid ((hB7.block _ (heapLtM HE.out.2.1)).trans HE.out.2.1)
          have HT7 := hid (HE.out.1.later hB7)
          have HO7 : Hid (OwnS 75 w7 (if k + 1 = 0 then w.heap.size + 3 else wl.heap.size) (.slice A7 (restK (k + 1)).length c7) (restK (k + 1))) := hid ⟨ownsRow_base ho7.1 (by simp only [Nat.add_one_ne_zero, if_false]; have := HE.out.2.2.2.2; omega), ho7.2⟩
          clear ho7 hB7 f0 f1 f2 f3 f4 f5 m0 m1 m2 m3 m4 m5
          go_wp2_with fail
          refine ⟨⟨k + 1, by omega, HI7.out, HT7.out, _, _, _, rfl, HO7.out⟩, ?_⟩
          rw [iter_pos HI7.out, HPk.out]
          omega
    · obtain rfl : k = 5 := by omega
      have hnx := fun ty => Lib.run_next_end_at (P := Tryz.prog) wo IT fiveS 5 ty HIk.out (by decide)
      obtain ⟨vr, hDp, hFL, hkp, hsp, hBp⟩ := HH.out
      obtain ⟨Ar, cr, rfl⟩ := hFL.len
      have hDlt : D < wl.heap.size := by have := HN.out; omega
      obtain ⟨L, hL⟩ : ∃ L, L = htmlD.rules.take 5 := ⟨_, rfl⟩
      rw [← hL] at hFL hDp
      have hLl : L.length ≤ 20 := by rw [hL, List.length_take]; omega
      have HLn : Hid (htmlD.rules = L ++ [⟨0, 0, [restH], 1, [copyT 0 0]⟩]) := hid (by rw [hL]; rfl)
      have HOwn := hid hFL.own_lt
      have HFL := hid hFL
      have Hkp := hid hkp
      have HBp := hid hBp
      have HDp := hid hDp
      have hO5 : OwnS 75 wo wl.heap.size (.slice A2 n2 c2) restH := HR.out
      have HRr : Hid (spansR.rel wo (ElX wo wl.heap.size (fun g => (Value.slice Ar L.length cr).ownBlock = some g)) [.slice A2 n2 c2] restH) := hid (hO5.rel_in fun g hg => by
        have h2 := own_tag hO5.1 g hg
        exact ⟨h2.2, h2.1.lt, fun he => Tag.ne (OwnR.tag HFL.out g he).1 h2.1 (by decide) rfl⟩)
      have hDl := heapLtM hDp
      clear hL hFL hDp hkp hBp hO5 HH HR
      go_wp2_with fail
      obtain ⟨ι, Wc, ⟨i0, hi0'⟩, hWc, Wsur⟩ := held_class wo.drew (fun g => g = D)
      have hne : Nonempty ι := ⟨i0⟩
      have WS := hid Wsur; clear Wsur
      have HWc := hid hWc; clear hWc
      have Hi0 := hid hi0'; clear hi0'
      have g4 : ∀ i, (Wc i).cell? ⟨D, 4, none⟩ = some (.slice Ar L.length cr) := fun i => cell_of_row _ _ 4 _ _ _ ((HWc.out i _ rfl).trans HDp.out)
      have hS0 : ∃ i, wo.drew = Wc i := ⟨i0, Hi0.out.symm⟩
      have HSB : Hid (∀ W, Below wo.heap.size wo W → ∃ x, W = Wc x) := hid fun W hW => WS.out W fun k hk => by subst hk; exact hW.block _ hDl
      refine region_anyL (S := fun w' => ∃ i, w' = Wc i) (last := 9) (by kernel_rfl) ?_
      refine anyL_pick [0, 1, 2] (by decide) (by kernel_rfl) (fun _ _ _ _ _ h => h) hS0 (f := 7) rfl (by kernel_rfl) ?_
      show wpQuiet _ _ _ _ [_, _, _] _
      repeat go_big_quiet_step (fail)
      refine wpQuiet_nil ?_
      refine anyL_act (i := 3) (by kernel_rfl) rfl rfl ?_
      intro K hK
      go_wp2_with fail
      refine (HCP.out _).mono ?_
      rintro e w1 ⟨v1, rfl, hp1, hB1⟩
      obtain ⟨A1, c1, rfl, _, _⟩ := list_form hp1
      have HB1x : Hid (Below wo.heap.size wo w1) := hid ⟨hB1.os, hB1.tape, hB1.output, hB1.size, hB1.block⟩
      have HP1 : Hid ((listR partR).rel w1 (Fresh wo.heap.size w1) [.slice A1 (copyT 0 0).parts.length c1] (copyT 0 0).parts) := hid hp1
      have hs1 := HB1x.out.size
      clear hp1 hB1
      unfold tval copyT
      dsimp only
      go_wp2_with fail
      refine hK.out _ _ (fun _ => HSB.out _ HB1x.out) ?_
      clear hK K
      refine anyL_act (i := 4) (by kernel_rfl) rfl rfl ?_
      intro K hK
      go_wp2_with fail
      obtain ⟨wt, hwt⟩ : ∃ wt, wt = w1.alloc (.cells #[.int .i64 0, .int .i64 0, .int .i64 21, .int .i64 0, .int .i64 0, .slice A1 1 c1] 69) := ⟨_, rfl⟩
      rw [← hwt]
      have hFt := FL.one (e := 69) (r := termR) (x := copyT 0 0) (w := w1) (b0 := wo.heap.size) (base := wo.heap.size) (cells := #[.int .i64 0, .int .i64 0, .int .i64 21, .int .i64 0, .int .i64 0, .slice A1 1 c1]) ⟨_, rfl, ⟨(okI (by omega) : I64 0), (okI (by omega) : I64 0), (okI (by omega) : I64 21), (okI (by omega) : I64 0), (okI (by omega) : I64 0)⟩, HP1.out⟩ rfl hs1
      have HBt : Hid (Below wo.heap.size wo wt) := hid (by rw [hwt]; exact HB1x.out.alloc hs1 _)
      rw [← hwt] at hFt
      have HT0 := hid (hFt.rel (Nat.le_refl _))
      have HRt := hid (elx_later HRr.out HBt.out)
      have hst := HBt.out.size
      refine hK.out _ _ (fun _ => HSB.out _ HBt.out) ?_
      clear hK K hwt hFt
      refine anyL_act (i := 5) (by kernel_rfl) rfl rfl ?_
      intro K hK
      go_wp2_with fail
      refine (HON.out _ _ _ _ _ _ _).mono ?_
      rintro e w2 ⟨rfl, hG2, hs2, hB2⟩
      have HB2 := hid (HBt.out.trans (hB2.mono hst))
      have HG2 := hid (one_at (r := spansR) (cells := #[_]) hG2 (show ElX w2 wl.heap.size (fun g => (Value.slice Ar L.length cr).ownBlock = some g) _ from ⟨by omega, by omega, fun he => by have := HOwn.out _ he; omega⟩) (elx_later HRt.out hB2))
      have HT2 := hid (rel_fresh (q := listR termR) HT0.out hB2)
      have hs2' := HB2.out.size
      clear hG2 hs2 hB2
      go_wp2_with fail
      refine hK.out _ _ (fun _ => HSB.out _ HB2.out) ?_
      clear hK K
      refine anyL_act (i := 6) (by kernel_rfl) rfl rfl ?_
      intro K hK
      go_wp2_with fail
      obtain ⟨w3, hw3⟩ : ∃ x, x = w2.alloc (.cells #[.int .i64 0, .int .i64 0, .slice (some ⟨wt.heap.size + 1, 0, none⟩) 1 1, .int .i64 1, .slice (some ⟨w1.heap.size, 0, none⟩) 1 1] 46) := ⟨_, rfl⟩
      rw [← hw3]
      have hB23 : Below w2.heap.size w2 w3 := by rw [hw3]; exact (Below.refl _ w2).alloc (Nat.le_refl _) _
      have hRh : w3.heap[w2.heap.size]? = some (.cells #[.int .i64 0, .int .i64 0, .slice (some ⟨wt.heap.size + 1, 0, none⟩) 1 1, .int .i64 1, .slice (some ⟨w1.heap.size, 0, none⟩) 1 1] 46) := by rw [hw3]; exact heap_alloc_new _ _
      have HB3 := hid (HB2.out.trans (hB23.mono hs2'))
      have HG3 := hid (elx_later (q := listR spansR) HG2.out hB23)
      have HT3 := hid (rel_fresh (q := listR termR) HT2.out hB23)
      have hs3 := HB3.out.size
      refine hK.out _ _ (fun _ => HSB.out _ HB3.out) ?_
      clear hK K hw3 hB23
      have hFW := FX.of (X := fun g => (Value.slice Ar L.length cr).ownBlock = some g) (HFL.out.later HB3.out) (Nat.le_refl _) (fun _ => Iff.rfl)
      refine anyL_act (i := 7) (by kernel_rfl) rfl rfl ?_
      intro K hK
      refine act_append_fx (r := ruleR) (v := .slice Ar L.length cr) (xs := L) _ _ 24 (by rfl) inf _ 72 Tryz.underlying24 hi0 hz0 hz1 hz2 rfl (by decide) (by rfl) hFW (fun g hg => by have := HOwn.out g hg; omega) (by omega) ⟨w2.heap.size, 0, none⟩ 1 ⟨0, 0, [restH], 1, [copyT 0 0]⟩ [.int .i64 0, .int .i64 0, .slice (some ⟨wt.heap.size + 1, 0, none⟩) 1 1, .int .i64 1, .slice (some ⟨w1.heap.size, 0, none⟩) 1 1] (by rfl)
        ⟨_, _, rfl, ⟨(okI (by omega) : I64 0), (okI (by omega) : I64 0), (okI (by omega) : I64 1)⟩, HG3.out, rel_elx (q := listR termR) HT3.out HOwn.out hsp⟩ (row_news hRh) (by simp [Value.oneCell']) (by unfold maxLen; omega) (by omega) ?_
      intro v' w6 hF6 hX6 hXl6 hB6 hk6
      obtain ⟨Aw, cw, rfl⟩ := hF6.len
      have hs6 := hB6.size
      have hD6 := ((hk6 D (by omega) (fx_ne hFW ((HB3.out.block _ hDl).trans HDp.out) (by decide))).trans (HB3.out.block _ hDl)).trans HDp.out
      have hS6 : ∃ i, w6 = Wc i := WS.out _ fun q hq => by subst hq; exact hD6.trans HDp.out.symm
      refine hK.out _ _ (fun _ => hS6) ?_
      clear hK K
      go_simp
      refine anyL_seg 8 1 (by kernel_rfl) (fun _ _ _ _ _ h => h) hS6 (f := 1) rfl (by kernel_rfl) (by kernel_rfl) ?_
      simp only [List.drop_succ_cons, List.drop_zero, List.take_succ_cons, List.take_zero]
      repeat go_big_quiet_step (fail)
      refine wpQuiet_nil ?_
      obtain ⟨f0, f1, f2, f3, f4, f5⟩ := fro6 hD6
      obtain ⟨m0, m1, m2, m3, m4, m5⟩ := six9 hD6
      refine anyL_act (i := 9) (by kernel_rfl) rfl rfl ?_
      intro K hK
      go_wp2_with fail
      refine hK.out _ _ (fun h => absurd rfl h) ?_
      clear hK K
      refine anyL_done (by kernel_rfl) ?_ 0
      obtain ⟨wx, hwx⟩ : ∃ x, x = w6.setCell ⟨D, 4, none⟩ (.slice Aw (L ++ [(⟨0, 0, [restH], 1, [copyT 0 0]⟩ : Rule)]).length cw) := ⟨_, rfl⟩
      have hDx : wx.heap[D]? = some (.cells #[.int .i64 2, .int .i64 2, .int .i64 1, .int .i64 0, .slice Aw (L ++ [(⟨0, 0, [restH], 1, [copyT 0 0]⟩ : Rule)]).length cw, .slice (some ⟨w.heap.size + 1, 0, none⟩) 1 1] 27) := by rw [hwx]; exact heap_setCell_same w6 D 4 _ _ _ hD6
      have hox : ∀ k, k ≠ D → wx.heap[k]? = w6.heap[k]? := fun k hk => by rw [hwx, heap_setCell_other _ _ _ _ (by simpa using hk)]
      have hsx : wx.heap.size = w6.heap.size := by rw [hwx]; simp
      have hn := HN.out
      have hBx : Below w.heap.size w wx := by rw [hwx]; exact ((HBp.out.trans (HB3.out.mono HBp.out.size)).trans (hB6.mono (by omega))).setCell (p := ⟨D, 4, none⟩) (by simp only; omega) _
      have hlow : ∀ g, g < wl.heap.size → g ≠ D → g ≠ IT → wx.heap[g]? = wl.heap[g]? := fun g h1 h2 h3 => by
        rw [hox g h2, hB6.block g h1, HB3.out.block g (by omega)]
        exact Hkp.out g h1 h2 h3
      have hZx := (hlow w.heap.size (by omega) (by omega) (by omega)).trans HZ0.out
      have hFx := (hlow (w.heap.size + 1) (by omega) (by omega) (by omega)).trans HF0.out
      have HFx := hid ((fx_fl hF6).keep (w' := wx) (Nat.le_refl _) (by omega) (fun g h1 _ => hox g (by omega)))
      rw [show (L ++ [⟨0, 0, [restH], 1, [copyT 0 0]⟩] : List Rule).length = L.length + 1 by simp] at hwx hDx HFx
      rw [← hwx]
      have hl : w.heap.size + 3 ≤ wx.heap.size ∧ wl.heap.size ≤ wx.heap.size ∧ w.heap.size + 2 = D := by omega
      clear hwx hox hsx hlow hn hS6 hF6 hX6 hXl6 hB6 hk6 hD6 hFW hRh f0 f1 f2 f3 f4 f5 m0 m1 m2 m3 m4 m5 g4 WS HWc Hi0 hne hS0 HSB i0 Wc ι hnx
      obtain ⟨z0, z1, z2, z3, z4, z5⟩ := six9 hZx
      obtain ⟨f0, f1, f2, f3, f4, f5⟩ := fro6 hZx
      obtain ⟨d0, d1, d2, d3, d4, d5⟩ := six9 hDx
      have hDxl := heapLtM hDx
      have hZxl := heapLtM hZx
      have HLl := hid hl
      clear hl
      go_wp2_with fail
      obtain ⟨ws, hws⟩ : ∃ ws, ws = setS wx w.heap.size (.int .i64 2) (.int .i64 2) (.int .i64 1) (.int .i64 0) (.slice Aw (L.length + 1) cw) (.slice (some ⟨w.heap.size + 1, 0, none⟩) 1 1) := ⟨_, rfl⟩
      have hXs : ws.heap[w.heap.size]? = some (.cells #[.int .i64 2, .int .i64 2, .int .i64 1, .int .i64 0, .slice Aw (L.length + 1) cw, .slice (some ⟨w.heap.size + 1, 0, none⟩) 1 1] 27) := by rw [hws]; exact setS_heap hZx _ _ _ _ _ _
      have hBs : Below w.heap.size w ws := by rw [hws]; exact hBx.set6 (Nat.le_refl _) _ _ _ _ _ _
      have hss : ws.heap.size = wx.heap.size := by rw [hws]; exact setS_size ..
      have hoth : ∀ q, q ≠ w.heap.size → ws.heap[q]? = wx.heap[q]? := fun q hq => by rw [hws]; exact setS_other _ _ _ _ _ _ _ _ _ hq
      unfold setS at hws
      rw [← hws]
      clear hws z0 z1 z2 z3 z4 z5 f0 f1 f2 f3 f4 f5 d0 d1 d2 d3 d4 d5
      obtain ⟨y0, y1, y2, y3, y4, y5⟩ := six9 hXs
      have hn := HN.out
      have hl := HLl.out
      have hFs := HFx.out.keep (w' := ws) (Nat.le_refl _) (by omega) (fun g h1 _ => hoth g (by omega))
      have hff := one_final ((hoth (w.heap.size + 1) (by omega)).trans hFx) (S := Fresh w.heap.size ws) ⟨by omega, by omega⟩
      have hrs := rel_low (q := listR ruleR) (b0 := w.heap.size) (hFs.rel (Nat.le_refl _)) (by omega)
      rw [← HLn.out] at hrs
      exact bodyPost_ret (v := .agg #[.int .i64 2, .int .i64 2, .int .i64 1, .int .i64 0, .slice Aw (L.length + 1) cw, .slice (some ⟨w.heap.size + 1, 0, none⟩) 1 1]) (by simp [results, Tryz.results26, go_sem, y0, y1, y2, y3, y4, y5]) rfl ⟨_, _, rfl, hrs, hff, hBs⟩
end Go.Proofs.YthfcbbdghggefaaGreat
