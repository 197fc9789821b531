/-
  The program's part.Image: the values of a set's numbers.
-/
import Derived.Test.YtmkmikacfilbpaaGreatKEach
namespace Go.Um
open Go.RowKit
/-- a list of one span, as it was just built. -/
theorem own_new {w : World} {e : TypeId} {x : Span} (hx : x.ok) : OwnS e (w.alloc (.cells #[.int .i64 x.lo, .int .i64 x.hi] e)) w.heap.size (.slice (some ⟨w.heap.size, 0, none⟩) 1 1) [x] := by
  refine ⟨⟨by simp [Span.cells], .inr ⟨w.heap.size, 1, #[.int .i64 x.lo, .int .i64 x.hi], rfl, Nat.le_refl _, heap_alloc_new w _, by simp, by decide, by simp, by simp [Span.cells]⟩⟩, fun y hy => by simp at hy; subst hy; exact hx⟩
theorem eachL_len {last n : Int} {l : List Span} (h : plainFrom last l = true) (hn : ∀ s ∈ l, s.hi ≤ n) (hl : last ≤ n) : ((eachL l).length : Int) ≤ n - last := by
  induction l generalizing last with
  | nil => simp [eachL]; omega
  | cons s r ih =>
    obtain ⟨h1, h2⟩ := plainFrom_cons.1 h
    have h3 := hn s (List.mem_cons_self ..)
    have := ih h2 (fun x hx => hn x (List.mem_cons_of_mem _ hx)) h3
    have e : (eachS s).length = (s.hi - s.lo + 1).toNat := by unfold eachS; simp
    rw [eachL_cons, List.length_append, e]
    omega
theorem plain_low {l : List Span} (h : plain l = true) (h0 : ∀ s ∈ l, 0 ≤ s.lo) : plainFrom (-2) l = true := by
  cases l with
  | nil => rfl
  | cons s r =>
    obtain ⟨h1, h2⟩ := plainFrom_cons.1 h
    have := h0 s (List.mem_cons_self ..)
    exact plainFrom_cons.2 ⟨by omega, h2⟩
theorem OwnS.push2 {e : TypeId} {w : World} {base : Nat} {v : Value} {xs : List Span} {x y : Span} (h : w.ownsRow base e 2 v (xs.length + 2) (xs.flatMap Span.cells ++ [.int .i64 x.lo, .int .i64 x.hi, .int .i64 y.lo, .int .i64 y.hi])) (hx : ∀ y ∈ xs, y.ok) (ho : x.ok) (ho2 : y.ok) : OwnS e w base v (xs ++ [x, y]) := by
  refine ⟨by simpa [Span.cells] using h, fun z hz => ?_⟩
  rcases List.mem_append.1 hz with hz | hz
  · exact hx z hz
  · simp at hz
    rcases hz with rfl | rfl <;> assumption
end Go.Um
namespace Go.Proofs.YtmkmikacfilbpaaGreat
open Go.Proofs Go.Um Go.RowKit Go.Shelf
attribute [local go_sem] Oper.semAt_some
set_option maxHeartbeats 4000000 in
set_option maxRecDepth 100000 in
theorem Image_calls (p : Part) (s : List Span) (v : Value) (w : World) (h : spansR.rel w (upto w.heap.size) [v] s) (hl : s.length ≤ 268435456) (hb : bitsF p = true) :
    Calls Tryz.prog 167 #[pval p, v] w fun e w' => ∃ u, e = .returned u ∧ OwnS 64 w' w.heap.size u (imgF p s) ∧ Below w.heap.size w w' := by
  obtain ⟨inf, hi0, hz0, hz1, hz2⟩ := info_parts info46
  have hc := fun W => bits_calls p W
  rw [hb] at hc
  have hbb := bitsF_iff.1 hb
  obtain ⟨A, c, rfl, hcc, hm⟩ := list_form h
  unfold pval at hc ⊢
  have hI : imgN p s = normF (imgRaw (pw p.drop) (pw p.take) (meetF s topS)) := rfl
  have hF : imgF p s = if p.up = 0 then imgN p s else normF (upL (pw p.up) (eachL (imgN p s))) := rfl
  rw [hI] at hF
  have HF := hid hF
  clear hI hF
  obtain ⟨a, d, t, u⟩ := p
  dsimp only at hc hbb HF ⊢
  refine callsIn_wide.1 (callsIn_of_wp_marks (n := 3) Tryz.func167 rfl trivial (wpIn_wide.2 ?_) rfl)
  simp only [Tryz.ntmps167, List.size_toArray, List.length_cons, List.length_nil, Nat.reduceAdd, Nat.reduceSub, Array.replicate_succ, Array.replicate_zero, List.push_toArray, List.append_toArray, List.nil_append, List.cons_append]
  obtain ⟨q1, q2, q3, q4, q5, q6, q7⟩ := hbb
  go_wp2_with fail
  refine (hc _).mono ?_
  rintro e w1 ⟨rfl, hB1⟩
  clear hc
  have hBw1 := ((Below.refl w.heap.size w).alloc (Nat.le_refl _) _).trans (hB1.mono (by simp))
  rw [World.size_alloc] at hB1
  obtain ⟨c0, c1, c2, c3⟩ := box4 hB1
  have hlt1 : w.heap.size < w1.heap.size := by have := hB1.size; simp at this; omega
  have hp1 : w1.heap[w.heap.size]? = some (.cells #[.int .i64 a, .int .i64 d, .int .i64 t, .int .i64 u] 102) := (hB1.block w.heap.size (by omega)).trans (heap_alloc_new w _)
  go_wp2_with fail
  rw [mask_eq q4]
  obtain ⟨mk, hmk⟩ : ∃ mk, mk = pw t - 1 := ⟨_, rfl⟩
  rw [← hmk]
  have HMK := hid hmk
  clear hmk
  have hn1 := own_new (w := w1) (e := 64) (x := ⟨0, 2097151⟩) ⟨⟨by simp, by simp⟩, ⟨by simp, by simp⟩⟩
  dsimp only at hn1
  have hBa := (Below.refl w1.heap.size w1).alloc (Nat.le_refl _) (.cells #[.int .i64 0, .int .i64 2097151] 64)
  have hsa : (w1.alloc (.cells #[.int .i64 0, .int .i64 2097151] 64)).heap.size = w1.heap.size + 1 := by simp
  generalize w1.alloc (.cells #[.int .i64 0, .int .i64 2097151] 64) = wa at *
  have hBwa : Below w.heap.size w wa := hBw1.trans (hBa.mono hBw1.size)
  have hM := Meet_calls s topS _ _ wa (spansR.below h hBwa hBwa.size) hn1.rel (by omega) (by simp [topS])
  have hmp := meetF_plain s topS
  have hml := meetF_length s topS
  have hmb : ∀ x ∈ meetF s topS, 0 ≤ x.lo ∧ x.lo ≤ x.hi ∧ x.hi ≤ 2097151 := fun x hx => by
    have h1 := plain_ne hmp x hx
    have h2 := (inSet_topS.1 (mem_meetF.1 ⟨x, hx, Int.le_refl _, h1⟩).2).1
    have h3 := (inSet_topS.1 (mem_meetF.1 ⟨x, hx, h1, Int.le_refl _⟩).2).2
    exact ⟨h2, h1, h3⟩
  obtain ⟨m, hm'⟩ : ∃ m, m = meetF s topS := ⟨_, rfl⟩
  rw [← hm'] at hM hml hmb HF
  clear hm' hmp hn1 h
  have hml : m.length ≤ 268435457 := by simp [topS] at hml; omega
  refine hM.mono ?_
  rintro e w2 ⟨x2, rfl, ho2, hB2⟩
  have hBw2 : Below w.heap.size w w2 := hBwa.trans (hB2.mono hBwa.size)
  have hp2 : w2.heap[w.heap.size]? = some (.cells #[.int .i64 a, .int .i64 d, .int .i64 t, .int .i64 u] 102) := (hB2.block w.heap.size (by omega)).trans ((hBa.block w.heap.size (by omega)).trans hp1)
  obtain ⟨A2, cc2, rfl, hcc2, hmm2⟩ := list_form ho2.rel
  unfold maxLen at hmm2
  have hlt2 : w.heap.size < w2.heap.size := heap_lt hp2
  clear hM hBa hBwa hB2 hp1 c0 c1 c2 c3 hB1 hBw1
  go_wp2_with fail
  go_loopw [25, 6] (fun vi vo wr => ∃ k : Nat, k ≤ m.length ∧ vi = .int .i64 k ∧ (∀ x ∈ m.take k, wide (pw d) (pw t) x = false) ∧ OwnS 64 wr w2.heap.size vo ((m.take k).flatMap (imgOne (pw d) (pw t))) ∧ Below w2.heap.size w2 wr ∧ ((m.take k).flatMap (imgOne (pw d) (pw t))).length ≤ 2 * k) (fun vi _ _ => m.length - (intOf vi).toNat)
  case atStart => exact ⟨0, Nat.zero_le _, rfl, by simp, ⟨World.ownsRow_nil _ _ _ _, fun y hy => by cases hy⟩, Below.refl _ _, by simp⟩
  case round =>
    obtain ⟨k, hk, rfl, hwd, ho, hB, hlen⟩ := hrel
    have hp := (hB.block w.heap.size hlt2).trans hp2
    obtain ⟨wo, hwo⟩ : ∃ wo, wo = wr := ⟨_, rfl⟩
    subst hwo
    have hr := spansR.mono (below_cells hB) (fun _ h => h) ho2.rel
    by_cases hlt : k < m.length
    · obtain ⟨x, hx⟩ := at_lt hlt
      obtain ⟨b, o, rfl, hbS, s1, s2, y1, y2⟩ := span_at hr hx
      have hlt' : (k : Int) < m.length := by omega
      have hxb := hmb x (List.mem_of_getElem? hx)
      clear hr
      have hbs : b < wo.heap.size := Nat.lt_of_lt_of_le hbS hB.size
      have hpB : w.heap.size < wo.heap.size := heap_lt hp
      have pd : ∀ o1, (wo.alloc o1).cell? ⟨w.heap.size, 1, none⟩ = some (.int .i64 d) := fun o1 => (((Below.refl wo.heap.size wo).alloc (Nat.le_refl _) o1).cell (p := ⟨w.heap.size, 1, none⟩) hpB).trans (cell_of_row _ _ 1 _ _ _ hp)
      have d1 := div_bound (x := x.lo) (d := d) hxb.1 (by omega)
      have d2 := div_bound (x := x.hi) (d := d) (by omega) (by omega)
      have d3 := Int.ediv_le_ediv (pw_pos d) hxb.2.1
      have HP := hid hp
      have HO := hid ho
      have HWD := hid hwd
      have HX := hid hx
      clear hp ho hwd hx
      go_wp2_with fail
      go_quiet (fail)
      simp only [show ∀ z : Int, z / 2 ^ d.toNat = z / pw d from fun _ => rfl]
      have hwdf : wide (pw d) (pw t) x = decide (mk ≤ x.hi / pw d - x.lo / pw d) := by unfold wide; rw [HMK.out]
      have himo : imgOne (pw d) (pw t) x = if x.lo / pw d % pw t ≤ x.hi / pw d % pw t then [⟨x.lo / pw d % pw t, x.hi / pw d % pw t⟩] else [⟨0, x.hi / pw d % pw t⟩, ⟨x.lo / pw d % pw t, mk⟩] := by unfold imgOne; rw [HMK.out]
      have HAL : Hid (bits BinOp.and IntKind.i64 (x.lo / pw d) mk = x.lo / pw d % pw t) := hid (by rw [HMK.out]; exact and_mask d1.1 d1.2 q4)
      have HAH : Hid (bits BinOp.and IntKind.i64 (x.hi / pw d) mk = x.hi / pw d % pw t) := hid (by rw [HMK.out]; exact and_mask d2.1 d2.2 q4)
      obtain ⟨ql, hql⟩ : ∃ ql, ql = x.lo / pw d := ⟨_, rfl⟩
      obtain ⟨qh, hqh⟩ : ∃ qh, qh = x.hi / pw d := ⟨_, rfl⟩
      rw [← hql] at hwdf himo HAL d1 d3 ⊢
      rw [← hqh] at hwdf himo HAH d2 d3 ⊢
      have HQL := hid hql
      have HQH := hid hqh
      clear hql hqh
      by_cases hw : mk ≤ qh - ql
      · rw [decide_eq_true hw] at hwdf
        have HR : Hid (imgRaw (pw d) (pw t) m = [⟨0, mk⟩]) := hid (by unfold imgRaw; rw [if_pos (List.any_eq_true.2 ⟨x, List.mem_of_getElem? HX.out, hwdf⟩), HMK.out])
        rw [HR.out] at HF
        have hmkb : 0 ≤ mk ∧ mk ≤ 2097151 := by have := pw_21 q4; have := pw_pos t; have := HMK.out; omega
        clear hwdf himo
        go_wp2_with fail
        have hn3 := own_new (w := (wo.alloc (.cells #[.int .i64 x.lo, .int .i64 x.hi] 64)).drewN nq) (e := 64) (x := ⟨0, mk⟩) ⟨⟨by simp, by simp⟩, ⟨by dsimp only; omega, by dsimp only; omega⟩⟩
        dsimp only at hn3
        have hB3 : Below w2.heap.size w2 (((wo.alloc (.cells #[.int .i64 x.lo, .int .i64 x.hi] 64)).drewN nq).alloc (.cells #[.int .i64 0, .int .i64 mk] 64)) := (below_drewN (hB.alloc hB.size _) nq).alloc (by simp; have := hB.size; omega) _
        have hz3 : ((wo.alloc (.cells #[.int .i64 x.lo, .int .i64 x.hi] 64)).drewN nq).heap.size = wo.heap.size + 1 := by simp
        rw [hz3] at hn3
        generalize ((wo.alloc (.cells #[.int .i64 x.lo, .int .i64 x.hi] 64)).drewN nq).alloc (.cells #[.int .i64 0, .int .i64 mk] 64) = wt at *
        have HOT := hid (hn3.base (show w2.heap.size ≤ wo.heap.size + 1 by have := hB.size; omega))
        have hpt := (hB3.block w.heap.size hlt2).trans hp2
        have hlt3 : ([⟨0, mk⟩] : List Span).length ≤ 1073741824 := by simp
        obtain ⟨M, hM'⟩ : ∃ M : List Span, M = [⟨0, mk⟩] := ⟨_, rfl⟩
        have HOT2 : Hid (OwnS 64 wt w2.heap.size (.slice (some ⟨wo.heap.size + 1, 0, none⟩) 1 1) M) := hid (by rw [hM']; exact HOT.out)
        rw [← hM'] at HF hlt3
        have hMb : ∀ r, mem M r → 0 ≤ r ∧ r < pw t := fun r hr => by
          rw [hM'] at hr
          have := HMK.out
          simp only [mem_cons, mem_nil, or_false] at hr
          omega
        clear hM' hn3
        have hN := Norm_calls M _ wt HOT2.out.rel hlt3
        refine hN.mono ?_
        rintro e w4 ⟨x4, rfl, ho4, hB4⟩
        clear hN
        have hp4 := (hB4.block w.heap.size (heap_lt hpt)).trans hpt
        have hBw4 : Below w.heap.size w w4 := hBw2.trans ((hB3.trans (hB4.mono hB3.size)).mono hBw2.size)
        have pu : w4.cell? ⟨w.heap.size, 3, none⟩ = some (.int .i64 u) := cell_of_row _ _ 3 _ _ _ hp4
        have hRb : ∀ r, mem (normF M) r → 0 ≤ r ∧ r < pw t := fun r hr => hMb r (mem_normF.1 hr).2
        obtain ⟨R, hR⟩ : ∃ R, R = normF M := ⟨_, rfl⟩
        rw [← hR] at HF ho4 hRb
        have hRp : plain R = true := by rw [hR]; exact normF_plain M
        have hRl : R.length ≤ 1073741824 := by rw [hR]; exact Nat.le_trans (normF_length M) hlt3
        clear hR hMb
        obtain ⟨A4, c4, rfl, hc4, hm4⟩ := list_form ho4.rel
        by_cases hu : u = 0
        · have hu' := beq_t hu
          have HF2 : Hid (imgF ⟨a, d, t, u⟩ s = R) := hid (by rw [HF.out, if_pos hu])
          clear hu HF
          go_wp2_with fail
          refine ⟨_, results_tmp rfl _ _ _, _, rfl, ?_, hBw4⟩
          rw [HF2.out]
          exact ho4.base (Nat.le_trans hBw2.size hB3.size)
        · have hu' := beq_f hu
          have HF2 : Hid (imgF ⟨a, d, t, u⟩ s = normF (upL (pw u) (eachL R))) := hid (by rw [HF.out, if_neg hu])
          clear HF
          have hut : t ≤ 6 := q7.resolve_left hu
          have ht6 := pw_6 hut
          have hRs : ∀ y ∈ R, 0 ≤ y.lo ∧ y.lo ≤ y.hi ∧ y.hi ≤ 63 := fun y hy => by
            have h1 := plain_ne hRp y hy
            have h2 := hRb y.lo ⟨y, hy, Int.le_refl _, h1⟩
            have h3 := hRb y.hi ⟨y, hy, h1, Int.le_refl _⟩
            omega
          have hel := eachL_len (n := 63) (plain_low hRp fun y hy => (hRs y hy).1) (fun y hy => (hRs y hy).2.2) (by decide)
          have hRn : normF R = R := normF_id hRp
          have hpw : 1 ≤ pw u ∧ pw u ≤ 1048576 := ⟨by have := pw_pos u; omega, pw_20 q6⟩
          have hRB : Below w4.heap.size w4 (w4.alloc (.cells #[.slice none 0 0] 65)) := (Below.refl _ w4).alloc (Nat.le_refl _) _
          have hbx := heap_alloc_new w4 (.cells #[.slice none 0 0] 65)
          have hE := Each_calls R (.slice A4 R.length c4) (w4.alloc (.cells #[.slice none 0 0] 65)) (spansR.below ho4.rel hRB hRB.size) hRl
          rw [hRn, World.size_alloc] at hE
          have hlt4 : w.heap.size < w4.heap.size := heap_lt hp4
          have HP4 := hid hp4
          clear hRn hRb hRl ho4 hp4
          go_wp2_with fail
          refine hE.mono ?_
          rintro e w5 ⟨x5, Bs, rfl, hBs, hBsl, ho5, hB5⟩
          have hx5 : w5.heap[w4.heap.size]? = some (.cells #[.slice none 0 0] 65) := (hB5.block w4.heap.size (by omega)).trans hbx
          have hB45 : Below w4.heap.size w4 w5 := hRB.trans (hB5.mono (Nat.le_succ _))
          clear hE hbx hRB hB5
          go_wp2_with fail
          refine range_each (Bs := Bs) (B := w4.heap.size) (base := w4.heap.size + 1) (s := R) (x := x5) rfl (by simp) rfl (heap_lt hx5) (by unfold rowB; rw [show w5.cell? ⟨w4.heap.size, 0, none⟩ = some (.slice none 0 0) from cell_of_row _ _ 0 _ _ _ hx5]; rfl) hBs ho5 (Nat.lt_succ_self _) (fun y hy => by have := hRs y hy; omega)
            (fun pre W => (∃ v, Boxed W w4.heap.size 65 v ∧ W.ownsRow w4.heap.size 64 2 v (upL (pw u) (pre.map Subtype.val)).length ((upL (pw u) (pre.map Subtype.val)).flatMap Span.cells) ∧ ∀ y ∈ upL (pw u) (pre.map Subtype.val), y.ok) ∧ Below w4.heap.size w4 W)
            (OwnFrom.and (Own.from (holdsRow_own w4.heap.size w4.heap.size 65 64 2 (fun pre : List { z : Int // z ∈ eachL R } => (upL (pw u) (pre.map Subtype.val)).length) (fun pre => (upL (pw u) (pre.map Subtype.val)).flatMap Span.cells) (fun pre _ => ∀ y ∈ upL (pw u) (pre.map Subtype.val), y.ok)) _) (ownFrom_below (Nat.le_refl _) hB45.size))
            ⟨⟨_, hx5, World.ownsRow_nil _ _ _ _, fun y hy => by cases hy⟩, hB45⟩ ?body ?done
          case body =>
            rintro l pre ⟨z, hz⟩ W ⟨⟨v, hv, hrow, hyok⟩, hBW⟩ hlt
            have hzb : 0 ≤ z ∧ z ≤ 63 := by
              obtain ⟨y, hy, h1, h2⟩ := mem_eachL.1 hz
              have := hRs y hy
              omega
            have hzu : 0 ≤ z * pw u ∧ z * pw u ≤ 66060288 := by
              have h1 : z * pw u ≤ 63 * 1048576 := Int.mul_le_mul hzb.2 hpw.2 (by omega) (by decide)
              exact ⟨Int.mul_nonneg hzb.1 (by omega), by omega⟩
            have HZ : Hid (wrap64 (z * 2 ^ u.toNat) = z * pw u) := hid (by
              rw [show (2 : Int) ^ u.toNat = pw u from rfl]
              exact IntWalk.wrap64_in _ ⟨by omega, by omega⟩)
            have hpl : (upL (pw u) (pre.map Subtype.val)).length = pre.length := by simp [upL]
            have hsnoc : upL (pw u) ((pre ++ [(⟨z, hz⟩ : { z : Int // z ∈ eachL R })]).map Subtype.val) = upL (pw u) (pre.map Subtype.val) ++ [⟨z * pw u, z * pw u⟩] := by simp [upL]
            have hpW : W.heap[w.heap.size]? = some (.cells #[.int .i64 a, .int .i64 d, .int .i64 t, .int .i64 u] 102) := (hBW.block w.heap.size hlt4).trans HP4.out
            have hpc : W.cell? ⟨w.heap.size, 3, none⟩ = some (.int .i64 u) := cell_of_row _ _ 3 _ _ _ hpW
            have hvc := hv.cell
            have hvf := hv.frozen
            have hBsz : w4.heap.size < W.heap.size := hv.lt
            obtain ⟨U, hU⟩ : ∃ U, U = upL (pw u) (pre.map Subtype.val) := ⟨_, rfl⟩
            rw [← hU] at hrow hyok hpl hsnoc
            obtain ⟨A6, c6, rfl, hc6, hm6⟩ := list_form (show OwnS 64 W w4.heap.size v U from ⟨hrow, hyok⟩).rel
            have HU := hid hU
            have hUl : U.length ≤ 100 := by omega
            clear hU hpl
            simp only [List.setIfInBounds_toArray, List.set_cons_succ, List.set_cons_zero]
            refine wpIn_block ?_
            obtain ⟨ι, Wc, ⟨i0, hi0⟩, hWc, Wsur⟩ := held_class W.drew (fun g => g = w4.heap.size ∨ g = w.heap.size)
            have hne : Nonempty ι := ⟨i0⟩
            have M0 : ∀ i, (Wc i).cell? ⟨w4.heap.size, 0, none⟩ = some (.slice A6 U.length c6) := fun i => (cell_of_heap_eq (p := ⟨w4.heap.size, 0, none⟩) (hWc i _ (.inl rfl))).trans hvc
            have M1 : ∀ i, (Wc i).cell? ⟨w.heap.size, 3, none⟩ = some (.int .i64 u) := fun i => (cell_of_heap_eq (p := ⟨w.heap.size, 3, none⟩) (hWc i _ (.inr rfl))).trans hpc
            have WS := hid Wsur; clear Wsur
            clear hWc
            have Hi0 := hid hi0; clear hi0
            refine region_round (S := fun w' => ∃ i, w' = Wc i) (last := 12) (fun ⟨_, _, h⟩ => h) (by kernel_rfl) (by kernel_rfl) ?_
            refine anyL_seg 0 10 (by kernel_rfl) (fun _ _ _ _ _ h => h) ⟨i0, Hi0.out.symm⟩ (f := 3) rfl (by kernel_rfl) (by kernel_rfl) ?_
            simp only [List.drop_zero, List.take_succ_cons, List.take_zero]
            repeat go_big_quiet_step (fail)
            refine wpQuiet_nil ?_
            rw [HZ.out]
            refine anyL_act (i := 10) (by kernel_rfl) rfl rfl ?_
            intro K hK
            go_wp2_with fail
            have hS1 : ∃ i, (W.alloc (.cells #[.int .i64 (z * pw u), .int .i64 (z * pw u)] 64)).drew = Wc i := WS.out _ (fun g hg => Below.heap_alloc _ _ _ (by rcases hg with rfl | rfl <;> omega))
            refine hK.out _ _ (fun _ => hS1) ?_
            clear hK K
            refine anyL_act (i := 11) (by kernel_rfl) rfl rfl ?_
            intro K hK
            have hv1 : ((W.alloc (.cells #[.int .i64 (z * pw u), .int .i64 (z * pw u)] 64)).drew).ownsRow w4.heap.size 64 2 (.slice A6 U.length c6) U.length (U.flatMap Span.cells) := hrow.alloc _
            refine act_append_at _ _ 65 rfl w4.heap.size 64 inf _ 2 16 Tryz.underlying65 hi0 hz0 hz1 hz2 rfl (by decide) (.slice A6 U.length c6) U.length _ rfl hv1 ⟨W.heap.size, 0, none⟩ 1 1 [.int .i64 (z * pw u), .int .i64 (z * pw u)] rfl rfl (news_at (w := W) (cs := #[_, _]) rfl) (by simp [Value.oneCell']) (by unfold maxLen; omega) (by omega) (by simp; omega) ?_
            intro v' w6 hown' hgrow _ hloc
            have hw6 : W.heap.size + 1 ≤ w6.heap.size := by have := hgrow.size; simpa using this
            have hnB : ∀ g, (g = w4.heap.size ∨ g = w.heap.size) → w6.heap[g]? = W.heap[g]? := fun g hg => by
              have hgl : g < W.heap.size := by rcases hg with rfl | rfl <;> omega
              rw [hgrow.block g (by simp; omega) (fun h => ?_)]
              · exact Below.heap_alloc _ _ _ hgl
              · rcases hg with rfl | rfl
                · exact own_ne (g := w4.heap.size) hrow (e' := 65) hv (by decide) h.symm
                · exact own_ne (g := w.heap.size) hrow (e' := 102) hpW (by decide) h.symm
            have hS2 : ∃ i, w6 = Wc i := WS.out _ (fun g hg => hnB g hg)
            refine hK.out _ _ (fun _ => hS2) ?_
            clear hK K
            obtain ⟨A7, c7, rfl, hc7, hm7⟩ := list_form (show OwnS 64 w6 w4.heap.size v' (U ++ [⟨z * pw u, z * pw u⟩]) from OwnS.push (x := ⟨z * pw u, z * pw u⟩) hown' hyok ⟨⟨by dsimp only; omega, by dsimp only; omega⟩, ⟨by dsimp only; omega, by dsimp only; omega⟩⟩).rel
            have hv6 : Boxed w6 w4.heap.size 65 (.slice A6 U.length c6) := (hnB _ (.inl rfl)).trans hv
            have h6c := hv6.cell
            have h6f := hv6.frozen
            refine anyL_act (i := 12) (by kernel_rfl) rfl rfl ?_
            intro K hK
            go_wp2_with fail
            refine hK.out _ _ (fun h => absurd rfl h) ?_
            clear hK K
            refine anyL_done (by kernel_rfl) ?_ _
            have hRA := round_append (Bw := w5.heap.size) hv (by decide) (⟨hrow, hyok⟩ : OwnS 64 W w4.heap.size (.slice A6 U.length c6) U) (OwnS.push (x := ⟨z * pw u, z * pw u⟩) hown' hyok ⟨⟨by dsimp only; omega, by dsimp only; omega⟩, ⟨by dsimp only; omega, by dsimp only; omega⟩⟩) hgrow hloc
            obtain ⟨r1, r2, r3, r4, r5⟩ := hRA
            have hlen7 : (U ++ [(⟨z * pw u, z * pw u⟩ : Span)]).length = U.length + 1 := by simp
            rw [hlen7] at r1 r2 r3 r4 r5
            exact ⟨r1, r2, ⟨_, r3, by rw [hsnoc]; exact r4.1, by rw [hsnoc]; exact r4.2⟩, hBW.trans r5⟩
          case done =>
            rintro D ys W hD hys ⟨⟨v, hv, hrow, hyok⟩, hBW⟩ hK
            rw [hys] at hrow hyok
            have hvc := hv.cell
            have hUl : (upL (pw u) (eachL R)).length ≤ 1073741824 := by simp [upL]; omega
            obtain ⟨U, hU⟩ : ∃ U, U = upL (pw u) (eachL R) := ⟨_, rfl⟩
            rw [← hU] at hrow hyok hUl HF2
            clear hU
            have hN := Norm_calls U v W (show OwnS 64 W w4.heap.size v U from ⟨hrow, hyok⟩).rel hUl
            rw [← HF2.out] at hN
            obtain ⟨A6, c6, rfl, hc6, hm6⟩ := list_form (show OwnS 64 W w4.heap.size v U from ⟨hrow, hyok⟩).rel
            have HK := hid hK
            clear hrow hyok hys hK
            go_wp2_with fail
            refine hN.mono ?_
            rintro e w8 ⟨x8, rfl, ho8, hB8⟩
            go_wp2_with fail
            have hK8 : w8.heap[D]? = some (.deferred (some [])) := (hB8.block D (heap_lt HK.out)).trans HK.out
            have hBw8 : Below w.heap.size w w8 := hBw4.trans ((hBW.trans (hB8.mono (Nat.le_of_lt hv.lt))).mono hBw4.size)
            refine ⟨by simp, .inl ⟨_, _, rfl, run_takeDeferred hK8, ?_⟩⟩
            refine ⟨_, results_tmp rfl _ _ _, _, rfl, ⟨ownsRow_putObj (ownsRow_base ho8.1 (Nat.le_trans hBw4.size (Nat.le_of_lt hv.lt))) _ hK8 rfl, ho8.2⟩, hBw8.trans (belowK_b (w := w) (Nat.le_refl _) w8 D _ _ (Nat.le_trans hBw4.size (Nat.le_trans hB45.size hD)) hK8 rfl rfl)⟩
      · rw [decide_eq_false hw] at hwdf
        have HW := hid hwdf
        have HLE := hid hlen
        clear hwdf
        obtain ⟨al, hal⟩ : ∃ al, al = ql % pw t := ⟨_, rfl⟩
        obtain ⟨ah, hah⟩ : ∃ ah, ah = qh % pw t := ⟨_, rfl⟩
        rw [← hal] at HAL himo
        rw [← hah] at HAH himo
        have hpt2 := pw_21 q4
        have hpt1 := pw_pos t
        have hab : 0 ≤ al ∧ al < pw t := by rw [hal]; exact ⟨Int.emod_nonneg _ (by omega), Int.emod_lt_of_pos _ hpt1⟩
        have hbb' : 0 ≤ ah ∧ ah < pw t := by rw [hah]; exact ⟨Int.emod_nonneg _ (by omega), Int.emod_lt_of_pos _ hpt1⟩
        have hmk0 : 0 ≤ mk ∧ mk ≤ 2097151 := by have := HMK.out; omega
        clear hal hah
        have HSN : Hid ((m.take (k + 1)).flatMap (imgOne (pw d) (pw t)) = (m.take k).flatMap (imgOne (pw d) (pw t)) ++ imgOne (pw d) (pw t) x) := hid (by rw [take_snoc HX.out, List.flatMap_append]; simp)
        have HWN : Hid (∀ y ∈ m.take (k + 1), wide (pw d) (pw t) y = false) := hid (fun y hy => by
          rw [take_snoc HX.out] at hy
          rcases List.mem_append.1 hy with hy | hy
          · exact HWD.out y hy
          · simp at hy; subst hy; exact HW.out)
        obtain ⟨F, hFF⟩ : ∃ F, F = (m.take k).flatMap (imgOne (pw d) (pw t)) := ⟨_, rfl⟩
        rw [← hFF] at HO HSN HLE
        clear hFF hlen
        have hown0 : ((wo.alloc (.cells #[.int .i64 x.lo, .int .i64 x.hi] 64)).drewN nq).ownsRow w2.heap.size 64 2 u6 F.length (F.flatMap Span.cells) := HO.out.1.alloc _
        have HOW0 := hid hown0
        clear hown0
        by_cases hle : al ≤ ah
        · rw [if_pos hle] at himo
          rw [himo] at HSN
          have hle' : bits BinOp.and IntKind.i64 ql mk ≤ bits BinOp.and IntKind.i64 qh mk := by rw [HAL.out, HAH.out]; exact hle
          clear himo
          go_wp2_with (at_builtin; refine Hid.out ?_)
          refine hid ?_
          rw [HAL.out, HAH.out]
          refine wpList_append_own _ rfl _ _ 65 rfl w2.heap.size 64 inf _ 2 16 Tryz.underlying65 hi0 hz0 hz1 hz2 rfl (by decide) _ _ _ rfl (HOW0.out.alloc _) ⟨wo.heap.size + 1, 0, none⟩ 1 1 [.int .i64 al, .int .i64 ah] rfl rfl
            (news_at (w := (wo.alloc _).drewN nq) (cs := #[_, _]) (by simp)) (by simp [Value.oneCell']) (by unfold maxLen; have := HLE.out; omega) (by have := HLE.out; omega) (by simp; have := hB.size; omega) ?_
          intro v' w6 hown3 hg3 _
          have hB6 : Below w2.heap.size wo w6 := ((below_drewN ((Below.refl _ wo).alloc hB.size _) nq).alloc (by simp; have := hB.size; omega) _).trans (below_grown (HOW0.out.alloc _) hg3 (Nat.le_refl _) (by simp; have := hB.size; omega))
          have ho6 := OwnS.push (x := ⟨al, ah⟩) hown3 HO.out.2 ⟨⟨by dsimp only; omega, by dsimp only; omega⟩, ⟨by dsimp only; omega, by dsimp only; omega⟩⟩
          rw [← HSN.out] at ho6
          clear hown3 hg3
          go_wp2_with fail
          refine ⟨⟨k + 1, by omega, by push_cast; rfl, HWN.out, ho6, hB.trans hB6, by rw [HSN.out]; have := HLE.out; simp; omega⟩, ?_⟩
          simp [intOf]; omega
        · rw [if_neg hle] at himo
          rw [himo] at HSN
          have hle' : ¬ bits BinOp.and IntKind.i64 ql mk ≤ bits BinOp.and IntKind.i64 qh mk := by rw [HAL.out, HAH.out]; exact hle
          clear himo
          go_wp2_with (at_builtin; refine Hid.out ?_)
          refine hid ?_
          rw [HAL.out, HAH.out]
          refine wpList_append_own _ rfl _ _ 65 rfl w2.heap.size 64 inf _ 2 16 Tryz.underlying65 hi0 hz0 hz1 hz2 rfl (by decide) _ _ _ rfl (HOW0.out.alloc _) ⟨wo.heap.size + 1, 0, none⟩ 2 2 [.int .i64 0, .int .i64 ah, .int .i64 al, .int .i64 mk] rfl rfl
            (news_at (w := (wo.alloc _).drewN nq) (cs := #[_, _, _, _]) (by simp)) (by simp [Value.oneCell']) (by unfold maxLen; have := HLE.out; omega) (by have := HLE.out; omega) (by simp; have := hB.size; omega) ?_
          intro v' w6 hown3 hg3 _
          have hB6 : Below w2.heap.size wo w6 := ((below_drewN ((Below.refl _ wo).alloc hB.size _) nq).alloc (by simp; have := hB.size; omega) _).trans (below_grown (HOW0.out.alloc _) hg3 (Nat.le_refl _) (by simp; have := hB.size; omega))
          have ho6 := OwnS.push2 (x := ⟨0, ah⟩) (y := ⟨al, mk⟩) hown3 HO.out.2 ⟨⟨by simp, by simp⟩, ⟨by dsimp only; omega, by dsimp only; omega⟩⟩ ⟨⟨by dsimp only; omega, by dsimp only; omega⟩, ⟨by dsimp only; omega, by dsimp only; omega⟩⟩
          rw [← HSN.out] at ho6
          clear hown3 hg3
          go_wp2_with fail
          refine ⟨⟨k + 1, by omega, by push_cast; rfl, HWN.out, ho6, hB.trans hB6, by rw [HSN.out]; have := HLE.out; simp; omega⟩, ?_⟩
          simp [intOf]; omega
    · obtain rfl : k = m.length := by omega
      rw [List.take_length] at hwd ho hlen
      have HR : Hid (imgRaw (pw d) (pw t) m = m.flatMap (imgOne (pw d) (pw t))) := hid (by
        unfold imgRaw
        rw [if_neg (fun h => by
          obtain ⟨y, hy, h2⟩ := List.any_eq_true.1 h
          rw [hwd y hy] at h2
          cases h2)])
      have hMb' : ∀ r, mem (m.flatMap (imgOne (pw d) (pw t))) r → 0 ≤ r ∧ r < pw t := fun r hr => by
        rw [← HR.out] at hr
        obtain ⟨y, _, rfl⟩ := (mem_imgRaw (pw_pos d) (pw_pos t) (fun s hs => (hmb s hs).2.1)).1 hr
        exact ⟨Int.emod_nonneg _ (by have := pw_pos t; omega), Int.emod_lt_of_pos _ (pw_pos t)⟩
      rw [HR.out] at HF
      obtain ⟨M, hM'⟩ : ∃ M, M = m.flatMap (imgOne (pw d) (pw t)) := ⟨_, rfl⟩
      rw [← hM'] at HF ho hlen hMb'
      have hMb := hMb'
      have hlt3 : M.length ≤ 1073741824 := by omega
      have hB3 := hB
      have hpt := hp
      clear hM' hr hMb' HR
      obtain ⟨wt, hwt⟩ : ∃ wt, wt = wo := ⟨_, rfl⟩
      subst hwt
      have HOT2 := hid ho
      obtain ⟨A7, c7, hv7, hc7, hm7⟩ := list_form ho.rel
      subst hv7
      clear ho
      go_wp2_with fail
      have hN := Norm_calls M _ wt HOT2.out.rel hlt3
      refine hN.mono ?_
      rintro e w4 ⟨x4, rfl, ho4, hB4⟩
      clear hN
      have hp4 := (hB4.block w.heap.size (heap_lt hpt)).trans hpt
      have hBw4 : Below w.heap.size w w4 := hBw2.trans ((hB3.trans (hB4.mono hB3.size)).mono hBw2.size)
      have pu : w4.cell? ⟨w.heap.size, 3, none⟩ = some (.int .i64 u) := cell_of_row _ _ 3 _ _ _ hp4
      have hRb : ∀ r, mem (normF M) r → 0 ≤ r ∧ r < pw t := fun r hr => hMb r (mem_normF.1 hr).2
      obtain ⟨R, hR⟩ : ∃ R, R = normF M := ⟨_, rfl⟩
      rw [← hR] at HF ho4 hRb
      have hRp : plain R = true := by rw [hR]; exact normF_plain M
      have hRl : R.length ≤ 1073741824 := by rw [hR]; exact Nat.le_trans (normF_length M) hlt3
      clear hR hMb
      obtain ⟨A4, c4, rfl, hc4, hm4⟩ := list_form ho4.rel
      by_cases hu : u = 0
      · have hu' := beq_t hu
        have HF2 : Hid (imgF ⟨a, d, t, u⟩ s = R) := hid (by rw [HF.out, if_pos hu])
        clear hu HF
        go_wp2_with fail
        refine ⟨_, results_tmp rfl _ _ _, _, rfl, ?_, hBw4⟩
        rw [HF2.out]
        exact ho4.base (Nat.le_trans hBw2.size hB3.size)
      · have hu' := beq_f hu
        have HF2 : Hid (imgF ⟨a, d, t, u⟩ s = normF (upL (pw u) (eachL R))) := hid (by rw [HF.out, if_neg hu])
        clear HF
        have hut : t ≤ 6 := q7.resolve_left hu
        have ht6 := pw_6 hut
        have hRs : ∀ y ∈ R, 0 ≤ y.lo ∧ y.lo ≤ y.hi ∧ y.hi ≤ 63 := fun y hy => by
          have h1 := plain_ne hRp y hy
          have h2 := hRb y.lo ⟨y, hy, Int.le_refl _, h1⟩
          have h3 := hRb y.hi ⟨y, hy, h1, Int.le_refl _⟩
          omega
        have hel := eachL_len (n := 63) (plain_low hRp fun y hy => (hRs y hy).1) (fun y hy => (hRs y hy).2.2) (by decide)
        have hRn : normF R = R := normF_id hRp
        have hpw : 1 ≤ pw u ∧ pw u ≤ 1048576 := ⟨by have := pw_pos u; omega, pw_20 q6⟩
        have hRB : Below w4.heap.size w4 (w4.alloc (.cells #[.slice none 0 0] 65)) := (Below.refl _ w4).alloc (Nat.le_refl _) _
        have hbx := heap_alloc_new w4 (.cells #[.slice none 0 0] 65)
        have hE := Each_calls R (.slice A4 R.length c4) (w4.alloc (.cells #[.slice none 0 0] 65)) (spansR.below ho4.rel hRB hRB.size) hRl
        rw [hRn, World.size_alloc] at hE
        have hlt4 : w.heap.size < w4.heap.size := heap_lt hp4
        have HP4 := hid hp4
        clear hRn hRb hRl ho4 hp4
        go_wp2_with fail
        refine hE.mono ?_
        rintro e w5 ⟨x5, Bs, rfl, hBs, hBsl, ho5, hB5⟩
        have hx5 : w5.heap[w4.heap.size]? = some (.cells #[.slice none 0 0] 65) := (hB5.block w4.heap.size (by omega)).trans hbx
        have hB45 : Below w4.heap.size w4 w5 := hRB.trans (hB5.mono (Nat.le_succ _))
        clear hE hbx hRB hB5
        go_wp2_with fail
        refine range_each (Bs := Bs) (B := w4.heap.size) (base := w4.heap.size + 1) (s := R) (x := x5) rfl (by simp) rfl (heap_lt hx5) (by unfold rowB; rw [show w5.cell? ⟨w4.heap.size, 0, none⟩ = some (.slice none 0 0) from cell_of_row _ _ 0 _ _ _ hx5]; rfl) hBs ho5 (Nat.lt_succ_self _) (fun y hy => by have := hRs y hy; omega)
          (fun pre W => (∃ v, Boxed W w4.heap.size 65 v ∧ W.ownsRow w4.heap.size 64 2 v (upL (pw u) (pre.map Subtype.val)).length ((upL (pw u) (pre.map Subtype.val)).flatMap Span.cells) ∧ ∀ y ∈ upL (pw u) (pre.map Subtype.val), y.ok) ∧ Below w4.heap.size w4 W)
          (OwnFrom.and (Own.from (holdsRow_own w4.heap.size w4.heap.size 65 64 2 (fun pre : List { z : Int // z ∈ eachL R } => (upL (pw u) (pre.map Subtype.val)).length) (fun pre => (upL (pw u) (pre.map Subtype.val)).flatMap Span.cells) (fun pre _ => ∀ y ∈ upL (pw u) (pre.map Subtype.val), y.ok)) _) (ownFrom_below (Nat.le_refl _) hB45.size))
          ⟨⟨_, hx5, World.ownsRow_nil _ _ _ _, fun y hy => by cases hy⟩, hB45⟩ ?body ?done
        case body =>
          rintro l pre ⟨z, hz⟩ W ⟨⟨v, hv, hrow, hyok⟩, hBW⟩ hlt
          have hzb : 0 ≤ z ∧ z ≤ 63 := by
            obtain ⟨y, hy, h1, h2⟩ := mem_eachL.1 hz
            have := hRs y hy
            omega
          have hzu : 0 ≤ z * pw u ∧ z * pw u ≤ 66060288 := by
            have h1 : z * pw u ≤ 63 * 1048576 := Int.mul_le_mul hzb.2 hpw.2 (by omega) (by decide)
            exact ⟨Int.mul_nonneg hzb.1 (by omega), by omega⟩
          have HZ : Hid (wrap64 (z * 2 ^ u.toNat) = z * pw u) := hid (by
            rw [show (2 : Int) ^ u.toNat = pw u from rfl]
            exact IntWalk.wrap64_in _ ⟨by omega, by omega⟩)
          have hpl : (upL (pw u) (pre.map Subtype.val)).length = pre.length := by simp [upL]
          have hsnoc : upL (pw u) ((pre ++ [(⟨z, hz⟩ : { z : Int // z ∈ eachL R })]).map Subtype.val) = upL (pw u) (pre.map Subtype.val) ++ [⟨z * pw u, z * pw u⟩] := by simp [upL]
          have hpW : W.heap[w.heap.size]? = some (.cells #[.int .i64 a, .int .i64 d, .int .i64 t, .int .i64 u] 102) := (hBW.block w.heap.size hlt4).trans HP4.out
          have hpc : W.cell? ⟨w.heap.size, 3, none⟩ = some (.int .i64 u) := cell_of_row _ _ 3 _ _ _ hpW
          have hvc := hv.cell
          have hvf := hv.frozen
          have hBsz : w4.heap.size < W.heap.size := hv.lt
          obtain ⟨U, hU⟩ : ∃ U, U = upL (pw u) (pre.map Subtype.val) := ⟨_, rfl⟩
          rw [← hU] at hrow hyok hpl hsnoc
          obtain ⟨A6, c6, rfl, hc6, hm6⟩ := list_form (show OwnS 64 W w4.heap.size v U from ⟨hrow, hyok⟩).rel
          have HU := hid hU
          have hUl : U.length ≤ 100 := by omega
          clear hU hpl
          simp only [List.setIfInBounds_toArray, List.set_cons_succ, List.set_cons_zero]
          refine wpIn_block ?_
          obtain ⟨ι, Wc, ⟨i0, hi0⟩, hWc, Wsur⟩ := held_class W.drew (fun g => g = w4.heap.size ∨ g = w.heap.size)
          have hne : Nonempty ι := ⟨i0⟩
          have M0 : ∀ i, (Wc i).cell? ⟨w4.heap.size, 0, none⟩ = some (.slice A6 U.length c6) := fun i => (cell_of_heap_eq (p := ⟨w4.heap.size, 0, none⟩) (hWc i _ (.inl rfl))).trans hvc
          have M1 : ∀ i, (Wc i).cell? ⟨w.heap.size, 3, none⟩ = some (.int .i64 u) := fun i => (cell_of_heap_eq (p := ⟨w.heap.size, 3, none⟩) (hWc i _ (.inr rfl))).trans hpc
          have WS := hid Wsur; clear Wsur
          clear hWc
          have Hi0 := hid hi0; clear hi0
          refine region_round (S := fun w' => ∃ i, w' = Wc i) (last := 12) (fun ⟨_, _, h⟩ => h) (by kernel_rfl) (by kernel_rfl) ?_
          refine anyL_seg 0 10 (by kernel_rfl) (fun _ _ _ _ _ h => h) ⟨i0, Hi0.out.symm⟩ (f := 3) rfl (by kernel_rfl) (by kernel_rfl) ?_
          simp only [List.drop_zero, List.take_succ_cons, List.take_zero]
          repeat go_big_quiet_step (fail)
          refine wpQuiet_nil ?_
          rw [HZ.out]
          refine anyL_act (i := 10) (by kernel_rfl) rfl rfl ?_
          intro K hK
          go_wp2_with fail
          have hS1 : ∃ i, (W.alloc (.cells #[.int .i64 (z * pw u), .int .i64 (z * pw u)] 64)).drew = Wc i := WS.out _ (fun g hg => Below.heap_alloc _ _ _ (by rcases hg with rfl | rfl <;> omega))
          refine hK.out _ _ (fun _ => hS1) ?_
          clear hK K
          refine anyL_act (i := 11) (by kernel_rfl) rfl rfl ?_
          intro K hK
          have hv1 : ((W.alloc (.cells #[.int .i64 (z * pw u), .int .i64 (z * pw u)] 64)).drew).ownsRow w4.heap.size 64 2 (.slice A6 U.length c6) U.length (U.flatMap Span.cells) := hrow.alloc _
          refine act_append_at _ _ 65 rfl w4.heap.size 64 inf _ 2 16 Tryz.underlying65 hi0 hz0 hz1 hz2 rfl (by decide) (.slice A6 U.length c6) U.length _ rfl hv1 ⟨W.heap.size, 0, none⟩ 1 1 [.int .i64 (z * pw u), .int .i64 (z * pw u)] rfl rfl (news_at (w := W) (cs := #[_, _]) rfl) (by simp [Value.oneCell']) (by unfold maxLen; omega) (by omega) (by simp; omega) ?_
          intro v' w6 hown' hgrow _ hloc
          have hw6 : W.heap.size + 1 ≤ w6.heap.size := by have := hgrow.size; simpa using this
          have hnB : ∀ g, (g = w4.heap.size ∨ g = w.heap.size) → w6.heap[g]? = W.heap[g]? := fun g hg => by
            have hgl : g < W.heap.size := by rcases hg with rfl | rfl <;> omega
            rw [hgrow.block g (by simp; omega) (fun h => ?_)]
            · exact Below.heap_alloc _ _ _ hgl
            · rcases hg with rfl | rfl
              · exact own_ne (g := w4.heap.size) hrow (e' := 65) hv (by decide) h.symm
              · exact own_ne (g := w.heap.size) hrow (e' := 102) hpW (by decide) h.symm
          have hS2 : ∃ i, w6 = Wc i := WS.out _ (fun g hg => hnB g hg)
          refine hK.out _ _ (fun _ => hS2) ?_
          clear hK K
          obtain ⟨A7, c7, rfl, hc7, hm7⟩ := list_form (show OwnS 64 w6 w4.heap.size v' (U ++ [⟨z * pw u, z * pw u⟩]) from OwnS.push (x := ⟨z * pw u, z * pw u⟩) hown' hyok ⟨⟨by dsimp only; omega, by dsimp only; omega⟩, ⟨by dsimp only; omega, by dsimp only; omega⟩⟩).rel
          have hv6 : Boxed w6 w4.heap.size 65 (.slice A6 U.length c6) := (hnB _ (.inl rfl)).trans hv
          have h6c := hv6.cell
          have h6f := hv6.frozen
          refine anyL_act (i := 12) (by kernel_rfl) rfl rfl ?_
          intro K hK
          go_wp2_with fail
          refine hK.out _ _ (fun h => absurd rfl h) ?_
          clear hK K
          refine anyL_done (by kernel_rfl) ?_ _
          have hRA := round_append (Bw := w5.heap.size) hv (by decide) (⟨hrow, hyok⟩ : OwnS 64 W w4.heap.size (.slice A6 U.length c6) U) (OwnS.push (x := ⟨z * pw u, z * pw u⟩) hown' hyok ⟨⟨by dsimp only; omega, by dsimp only; omega⟩, ⟨by dsimp only; omega, by dsimp only; omega⟩⟩) hgrow hloc
          obtain ⟨r1, r2, r3, r4, r5⟩ := hRA
          have hlen7 : (U ++ [(⟨z * pw u, z * pw u⟩ : Span)]).length = U.length + 1 := by simp
          rw [hlen7] at r1 r2 r3 r4 r5
          exact ⟨r1, r2, ⟨_, r3, by rw [hsnoc]; exact r4.1, by rw [hsnoc]; exact r4.2⟩, hBW.trans r5⟩
        case done =>
          rintro D ys W hD hys ⟨⟨v, hv, hrow, hyok⟩, hBW⟩ hK
          rw [hys] at hrow hyok
          have hvc := hv.cell
          have hUl : (upL (pw u) (eachL R)).length ≤ 1073741824 := by simp [upL]; omega
          obtain ⟨U, hU⟩ : ∃ U, U = upL (pw u) (eachL R) := ⟨_, rfl⟩
          rw [← hU] at hrow hyok hUl HF2
          clear hU
          have hN := Norm_calls U v W (show OwnS 64 W w4.heap.size v U from ⟨hrow, hyok⟩).rel hUl
          rw [← HF2.out] at hN
          obtain ⟨A6, c6, rfl, hc6, hm6⟩ := list_form (show OwnS 64 W w4.heap.size v U from ⟨hrow, hyok⟩).rel
          have HK := hid hK
          clear hrow hyok hys hK
          go_wp2_with fail
          refine hN.mono ?_
          rintro e w8 ⟨x8, rfl, ho8, hB8⟩
          go_wp2_with fail
          have hK8 : w8.heap[D]? = some (.deferred (some [])) := (hB8.block D (heap_lt HK.out)).trans HK.out
          have hBw8 : Below w.heap.size w w8 := hBw4.trans ((hBW.trans (hB8.mono (Nat.le_of_lt hv.lt))).mono hBw4.size)
          refine ⟨by simp, .inl ⟨_, _, rfl, run_takeDeferred hK8, ?_⟩⟩
          refine ⟨_, results_tmp rfl _ _ _, _, rfl, ⟨ownsRow_putObj (ownsRow_base ho8.1 (Nat.le_trans hBw4.size (Nat.le_of_lt hv.lt))) _ hK8 rfl, ho8.2⟩, hBw8.trans (belowK_b (w := w) (Nat.le_refl _) w8 D _ _ (Nat.le_trans hBw4.size (Nat.le_trans hB45.size hD)) hK8 rfl rfl)⟩
end Go.Proofs.YtmkmikacfilbpaaGreat
