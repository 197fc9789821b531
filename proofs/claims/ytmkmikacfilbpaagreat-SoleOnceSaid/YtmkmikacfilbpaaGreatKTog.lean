/-
  The program's term.together: the values of some parts of one symbol, added. term.values' map: at each place the parts that read there, in rows of the call's own.
-/
import Derived.Test.YtmkmikacfilbpaaGreatKImg
import Derived.Test.YtmkmikacfilbpaaGreatKPlain
import Derived.Maps.OwnIn
namespace Go.Proofs.YtmkmikacfilbpaaGreat
open Go.Proofs Go.Um Go.RowKit Go.Shelf
/-- what keeps all blocks that are there. -/
theorem round_calls {W W1 : World} {B Bw : Nat} (h : Below W.heap.size W W1) (hB : B < W.heap.size) : KeepsFrom Bw W W1 ∧ Kep B W W1 := by
  have hr : rowB B W1 = rowB B W := rowB_heap (h.block B hB)
  refine ⟨KeepsOthers.from ⟨h.size, fun r o hr _ => (h.block r (heap_lt hr)).trans hr⟩ _, fun h1 _ => ⟨h.size, fun g hg => ?_, fun g hg => ?_, fun g cs T fr hc _ _ => (h.block g (heap_lt hc)).trans hc⟩⟩
  · rw [hr] at hg; exact Nat.lt_of_lt_of_le (h1 g hg) h.size
  · rw [hr] at hg; exact .inl hg
/-- a store into the row that box B holds. -/
theorem round_store {W : World} {B Bw g n cap j : Nat} {t e : TypeId} {u : Value} {xs : List Span} (hv : Boxed W B t (.slice (some ⟨g, 0, none⟩) n cap)) (hte : t ≠ e) (hrow : OwnS e W B (.slice (some ⟨g, 0, none⟩) n cap) xs) :
    KeepsFrom Bw W (W.setCell ⟨g, j, none⟩ u) ∧ Kep B W (W.setCell ⟨g, j, none⟩ u) ∧ Boxed (W.setCell ⟨g, j, none⟩ u) B t (.slice (some ⟨g, 0, none⟩) n cap) ∧ Below B W (W.setCell ⟨g, j, none⟩ u) := by
  have hne : B ≠ g := fun h => by
    subst h
    exact own_ne (g := B) hrow.1 (e' := t) hv hte rfl
  have hgB : B ≤ g := (hrow.1.lt g rfl).1
  have hb : (W.setCell ⟨g, j, none⟩ u).heap[B]? = W.heap[B]? := heap_setCell_other W ⟨g, j, none⟩ B u hne
  have hr : rowB B (W.setCell ⟨g, j, none⟩ u) = rowB B W := rowB_heap hb
  have hr1 : rowB B W = some g := by unfold rowB; rw [hv.cell]; rfl
  refine ⟨(KeepsOthers.setCell _ _ _).from _, fun h1 _ => ⟨by simp, fun k hk => ?_, fun k hk => ?_, fun k cs T fr hc hb' hr' => ?_⟩, hb.trans hv, (Below.refl B W).setCell (p := ⟨g, j, none⟩) hgB _⟩
  · rw [hr] at hk; have := h1 k hk; simpa using this
  · rw [hr] at hk; exact .inl hk
  · rw [hr1] at hr'
    rw [heap_setCell_other W ⟨g, j, none⟩ k u (fun h => hr' (by rw [h]))]
    exact hc
theorem own_below' {w w' : World} {base : Nat} {e : TypeId} {size n : Nat} {v : Value} {xs : List Value} (h : w.ownsRow base e size v n xs) (hB : Below w.heap.size w w') : w'.ownsRow base e size v n xs := by
  refine ⟨h.1, ?_⟩
  rcases h.2 with h2 | ⟨g, cap, cur, h1, h2, h3, h4⟩
  · exact .inl h2
  · exact .inr ⟨g, cap, cur, h1, h2, (hB.block g (heap_lt h3)).trans h3, h4⟩
theorem runsF_snoc (l : List Int) (n : Int) : runsF (l ++ [n]) = runStep (runsF l) n := by unfold runsF; rw [List.foldl_append]; rfl
theorem runs_ok {l : List Int} (h : ∀ x ∈ l, I64 x) : ∀ y ∈ runsF l, y.ok := by
  intro y hy
  have hne := (foldRun_spec (l := l) (out := []) (fun s hs => by cases hs)).1 y hy
  exact ⟨h y.lo (mem_runsF.1 ⟨y, hy, Int.le_refl _, hne⟩), h y.hi (mem_runsF.1 ⟨y, hy, hne, Int.le_refl _⟩)⟩
theorem runs_len (l : List Int) : (runsF l).length ≤ l.length := by
  have := (foldRun_spec (l := l) (out := []) (fun s hs => by cases hs)).2.2
  simpa [runsF] using this
attribute [local go_sem] Oper.semAt_some
set_option maxHeartbeats 4000000 in
set_option maxRecDepth 100000 in
theorem together_calls (l : List Part) (s : List Span) (v u : Value) (w : World) (h : (listR partR).rel w (upto w.heap.size) [v] l) (hs : spansR.rel w (upto w.heap.size) [u] s) (hl : l.length ≤ 4) (hb : ∀ p ∈ l, bitsF p = true)
    (hsl : s.length ≤ 268435456) (hsy : symS s) :
    Calls Tryz.prog 178 #[v, u] w fun e w' => ∃ z, e = .returned z ∧ OwnS 64 w' w.heap.size z (togF l s) ∧ Below w.heap.size w w' := by
  obtain ⟨inf, hi0, hz0, hz1, hz2⟩ := info_parts info46
  obtain ⟨A, c, rfl, hc, hm⟩ := list_form h
  obtain ⟨A2, c2, rfl, hc2, hm2⟩ := list_form hs
  unfold maxLen at hm hm2
  refine callsIn_wide.1 (callsIn_of_wp_marks (n := 3) Tryz.func178 rfl trivial (wpIn_wide.2 ?_) rfl)
  simp only [Tryz.ntmps178, List.size_toArray, List.length_cons, List.length_nil, Nat.reduceAdd, Nat.reduceSub, Array.replicate_succ, Array.replicate_zero, List.push_toArray, List.append_toArray, List.nil_append, List.cons_append]
  by_cases h1 : l.length = 1
  · obtain ⟨p, rfl⟩ := List.length_eq_one_iff.1 h1
    obtain ⟨b, o, rfl, hbb, p1, p2, p3, p4, hok⟩ := part_at (i := 0) h rfl
    have hF : Hid (togF [p] s = imgF p s) := hid rfl
    have hbs : b < w.heap.size := hbb
    have hI := fun W (hW : Below w.heap.size w W) => Image_calls p s (.slice A2 s.length c2) W (spansR.below hs hW hW.size) hsl (hb p (by simp))
    have HI := hid hI
    have past : ∀ (o1 : Obj) (i : Nat), (w.alloc o1).cell? ⟨b, i, none⟩ = w.cell? ⟨b, i, none⟩ := fun o1 i => ((Below.refl w.heap.size w).alloc (Nat.le_refl _) o1).cell (p := ⟨b, i, none⟩) hbs
    simp only [Nat.zero_mul, Nat.add_zero] at p1 p2 p3 p4
    have k1 : ∀ o1, (w.alloc o1).cell? ⟨b, o, none⟩ = some (.int .i64 p.at_) := fun o1 => (past o1 _).trans p1
    have k2 : ∀ o1, (w.alloc o1).cell? ⟨b, o + 1, none⟩ = some (.int .i64 p.drop) := fun o1 => (past o1 _).trans p2
    have k3 : ∀ o1, (w.alloc o1).cell? ⟨b, o + 2, none⟩ = some (.int .i64 p.take) := fun o1 => (past o1 _).trans p3
    have k4 : ∀ o1, (w.alloc o1).cell? ⟨b, o + 3, none⟩ = some (.int .i64 p.up) := fun o1 => (past o1 _).trans p4
    clear h hs hb h1 hI
    simp only [List.length_cons, List.length_nil, Nat.zero_add]
    go_wp2_with fail
    refine (HI.out _ ((Below.refl w.heap.size w).alloc (Nat.le_refl _) _)).mono ?_
    rintro e w1 ⟨x, rfl, ho, hB⟩
    go_wp2_with fail
    have hB1 : Below w.heap.size w w1 := ((Below.refl w.heap.size w).alloc (Nat.le_refl _) _).trans (hB.mono (by simp))
    exact ⟨_, results_tmp rfl _ _ _, _, rfl, by rw [hF.out]; exact ho.base (by simp), hB1⟩
  · have hF : Hid (togF l s = normF (runsF ((eachL (normF s)).map (sumP l)))) := hid (by
      unfold togF
      split
      · exact absurd rfl h1
      · rfl)
    have h1' : ((l.length : Int) == 1) = false := beq_f (by omega)
    have hbx := heap_alloc_new w (.cells #[.slice A l.length c] 88)
    have hB0 : Below w.heap.size w (w.alloc (.cells #[.slice A l.length c] 88)) := (Below.refl _ w).alloc (Nat.le_refl _) _
    have hsz0 : (w.alloc (.cells #[.slice A l.length c] 88)).heap.size = w.heap.size + 1 := by simp
    go_wp2_with fail
    generalize w.alloc (.cells #[.slice A l.length c] 88) = w0 at *
    have HSZ := hid hsz0
    rw [← hsz0]
    clear hsz0
    have hby := heap_alloc_new w0 (.cells #[.slice none 0 0] 65)
    have hB1 : Below w0.heap.size w0 (w0.alloc (.cells #[.slice none 0 0] 65)) := (Below.refl _ w0).alloc (Nat.le_refl _) _
    have hBw1 : Below w.heap.size w (w0.alloc (.cells #[.slice none 0 0] 65)) := hB0.trans (hB1.mono (by have := HSZ.out; omega))
    have hE := Each_calls s (.slice A2 s.length c2) (w0.alloc (.cells #[.slice none 0 0] 65)) (spansR.below hs hBw1 hBw1.size) (by omega)
    rw [World.size_alloc] at hE
    have hRp := normF_plain s
    have hRs : ∀ y ∈ normF s, 0 ≤ y.lo ∧ y.lo ≤ y.hi ∧ y.hi ≤ 1114111 := fun y hy => by
      have h1 := plain_ne hRp y hy
      have h2 := hsy y.lo (mem_normF.1 ⟨y, hy, Int.le_refl _, h1⟩).2
      have h3 := hsy y.hi (mem_normF.1 ⟨y, hy, h1, Int.le_refl _⟩).2
      omega
    obtain ⟨R, hR⟩ : ∃ R, R = normF s := ⟨_, rfl⟩
    rw [← hR] at hE hRs hF hRp
    clear hR hs
    have hel := eachL_len (n := 1114111) (plain_low hRp fun y hy => (hRs y hy).1) (fun y hy => (hRs y hy).2.2) (by decide)
    refine hE.mono ?_
    rintro e w5 ⟨x5, Bs, rfl, hBs, hBsl, ho5, hB5⟩
    have hx5 : w5.heap[w0.heap.size]? = some (.cells #[.slice none 0 0] 65) := (hB5.block w0.heap.size (by omega)).trans hby
    have hl5 : w5.heap[w.heap.size]? = some (.cells #[.slice A l.length c] 88) := (hB5.block w.heap.size (by have := HSZ.out; omega)).trans ((hB1.block w.heap.size (by have := HSZ.out; omega)).trans hbx)
    have hBw5 : Below w.heap.size w w5 := hBw1.trans (hB5.mono (by have := HSZ.out; omega))
    clear hE hbx hby hB0 hB1 hBw1 hB5
    go_wp2_with fail
    refine range_each (Bs := Bs) (B := w0.heap.size) (base := w0.heap.size + 1) (s := R) (x := x5) rfl (by simp) rfl (heap_lt hx5) (by unfold rowB; rw [show w5.cell? ⟨w0.heap.size, 0, none⟩ = some (.slice none 0 0) from cell_of_row _ _ 0 _ _ _ hx5]; rfl) hBs ho5 (Nat.lt_succ_self _) (fun y hy => by have := hRs y hy; omega)
      (fun pre W => (∃ v, Boxed W w0.heap.size 65 v ∧ W.ownsRow w0.heap.size 64 2 v (runsF (pre.map fun z => sumP l z.1)).length ((runsF (pre.map fun z => sumP l z.1)).flatMap Span.cells) ∧ ∀ y ∈ runsF (pre.map fun z => sumP l z.1), y.ok) ∧ Below w0.heap.size w5 W)
      (OwnFrom.and (Own.from (holdsRow_own w0.heap.size w0.heap.size 65 64 2 (fun pre : List { z : Int // z ∈ eachL R } => (runsF (pre.map fun z => sumP l z.1)).length) (fun pre => (runsF (pre.map fun z => sumP l z.1)).flatMap Span.cells) (fun pre _ => ∀ y ∈ runsF (pre.map fun z => sumP l z.1), y.ok)) _) (ownFrom_below (Nat.le_of_lt (heap_lt hx5)) (Nat.le_of_lt (heap_lt hx5))))
      ⟨⟨_, hx5, World.ownsRow_nil _ _ _ _, fun y hy => by cases hy⟩, Below.refl _ _⟩ ?body ?done
    case body =>
      rintro lp pre ⟨z, hz⟩ W ⟨⟨v, hv, hrow, hyok⟩, hBW⟩ hlt
      have hzb : 0 ≤ z ∧ z ≤ 1114111 := by
        obtain ⟨y, hy, h1, h2⟩ := mem_eachL.1 hz
        have := hRs y hy
        omega
      have hwz : w.heap.size < w0.heap.size := by have := HSZ.out; omega
      have hlW : W.heap[w.heap.size]? = some (.cells #[.slice A l.length c] 88) := (hBW.block w.heap.size hwz).trans hl5
      have hlc : W.cell? ⟨w.heap.size, 0, none⟩ = some (.slice A l.length c) := cell_of_row _ _ 0 _ _ _ hlW
      have hBwW : Below w.heap.size w W := hBw5.trans (hBW.mono (by omega))
      have hsnoc : Hid (runsF ((pre ++ [(⟨z, hz⟩ : { z : Int // z ∈ eachL R })]).map fun z => sumP l z.1) = runStep (runsF (pre.map fun z => sumP l z.1)) (sumP l z)) := hid (by rw [List.map_append]; exact runsF_snoc _ _)
      have hUl : (runsF (pre.map fun z => sumP l z.1)).length ≤ 2000000 := by
        have := runs_len (pre.map fun z => sumP l z.1)
        rw [List.length_map] at this
        have hlt2 : pre.length < (eachL R).length := hlt
        omega
      obtain ⟨U, hU⟩ : ∃ U, U = runsF (pre.map fun z => sumP l z.1) := ⟨_, rfl⟩
      rw [← hU] at hrow hyok hsnoc hUl
      have HUU := hid hU
      clear hU
      simp only [List.setIfInBounds_toArray, List.set_cons_succ, List.set_cons_zero]
      gi_wp2
      gi_loopw [26, 7] (fun vi vn wr => ∃ j : Nat, j ≤ l.length ∧ vi = .int .i64 j ∧ vn = .int .i64 (sumP (l.take j) z) ∧ Below W.heap.size W wr) (fun vi _ _ => l.length - (intOf vi).toNat)
      case atStart => exact ⟨0, Nat.zero_le _, rfl, rfl, Below.refl _ _⟩
      case round =>
        obtain ⟨j, hj, rfl, rfl, hBj⟩ := hrel
        obtain ⟨wj, hwj⟩ : ∃ wj, wj = wr := ⟨_, rfl⟩
        subst hwj
        have hBwj : Below w.heap.size w wj := hBwW.trans (hBj.mono hBwW.size)
        have hrj := (listR partR).mono (below_cells hBwj) (fun _ h => h) h
        by_cases hjl : j < l.length
        · obtain ⟨p, hp⟩ := at_lt hjl
          have hjl' : (j : Int) < l.length := by omega
          obtain ⟨b, o, rfl, hbb, p1, p2, p3, p4, hok⟩ := part_at hrj hp
          have hbs : b < wj.heap.size := Nat.lt_of_lt_of_le hbb hBwj.size
          have hpb := hb p (List.mem_of_getElem? hp)
          have HV := hid fun W' => Value_calls p z W'
          rw [if_pos ⟨hpb, hzb.1, by omega⟩] at HV
          unfold pval at HV
          have hs1 : Hid (sumP (l.take (j + 1)) z = sumP (l.take j) z + valF p z) := hid (by rw [take_snoc hp, sumP_snoc])
          have hb1 := sumP_bd (l := l.take j) (fun q hq => hb q (List.mem_of_mem_take hq)) z
          have hb2 := valF_nonneg p z
          have hb3 := valF_le hpb z
          rw [List.length_take_of_le hj] at hb1
          have HW : Hid (wrap64 (sumP (l.take j) z + valF p z) = sumP (l.take j) z + valF p z) := hid (IntWalk.wrap64_in _ ⟨by omega, by omega⟩)
          obtain ⟨n0, hn0⟩ : ∃ n0, n0 = sumP (l.take j) z := ⟨_, rfl⟩
          obtain ⟨n1, hn1⟩ : ∃ n1, n1 = valF p z := ⟨_, rfl⟩
          rw [← hn0, ← hn1] at hs1 HW
          rw [← hn1] at HV
          have HN0 := hid hn0
          rw [← hn0] at hb1
          rw [← hn1] at hb2 hb3
          rw [← hn0]
          clear hp hrj hn0 hn1 hpb
          gi_wp2
          refine ⟨trivial, ?_⟩
          refine (CallsIn.inRound lp (callsIn_wide.2 (HV.out _))).mono ?_
          rintro e w7 ⟨rfl, hB7⟩
          gi_wp2
          refine ⟨⟨j + 1, by omega, by push_cast; rfl, ?_, (hBj.alloc hBj.size _).trans (hB7.mono (by simp; have := hBj.size; omega))⟩, ?_⟩
          · first | rw [HW.out, hs1.out] | rw [hs1.out]
          · simp [intOf]; omega
        · obtain rfl : j = l.length := by omega
          rw [List.take_length]
          have hb1 := sumP_bd hb z
          have hrowj := own_below' hrow hBj
          have hvj : Boxed wj w0.heap.size 65 v := (hBj.block _ hv.lt).trans hv
          obtain ⟨RC1, RC2⟩ := round_calls (Bw := w5.heap.size) hBj hv.lt
          have HRC1 := hid RC1
          have HRC2 := hid RC2
          have hBWj : Below w0.heap.size w5 wj := hBW.trans (hBj.mono (Nat.le_of_lt hv.lt))
          obtain ⟨N, hN⟩ : ∃ N, N = sumP l z := ⟨_, rfl⟩
          rw [← hN] at hb1 hsnoc
          rw [← hN]
          clear hN RC1 RC2 hrow hv hrj
          have hOW : OwnS 64 wj w0.heap.size v U := ⟨hrowj, hyok⟩
          have hrel := hOW.rel
          obtain ⟨A6, c6, rfl, hc6, hm6⟩ := list_form hrel
          have hcB := hvj.cell
          have hfB := hvj.frozen
          by_cases hU0 : U = []
          · subst hU0
            have HSN : Hid (runStep [] N = [] ++ [⟨N, N⟩]) := hid rfl
            clear hrel
            gi_wp2_with (gi_at_builtin; refine Hid.out ?_)
            refine hid ?_
            refine wpListIn_append_own_at _ rfl _ _ 65 rfl w0.heap.size 64 inf _ 2 16 Tryz.underlying65 hi0 hz0 hz1 hz2 rfl (by decide) (.slice A6 0 c6) 0 _ rfl (hOW.1.alloc _) ⟨wj.heap.size, 0, none⟩ 1 1 [.int .i64 N, .int .i64 N] rfl rfl (news_at (w := wj) (cs := #[_, _]) rfl) (by simp [Value.oneCell']) (by unfold maxLen; omega) (by omega) (by simp; have := hvj.lt; omega) ?_
            intro v' w6 hown' hgrow _ hloc
            have hnB6 : w6.heap[w0.heap.size]? = wj.heap[w0.heap.size]? := by
              rw [hgrow.block w0.heap.size (by simp; have := hvj.lt; omega) (fun h => own_ne (g := w0.heap.size) hOW.1 (e' := 65) hvj (by decide) h.symm)]
              exact Below.heap_alloc _ _ _ hvj.lt
            have hv6 : Boxed w6 w0.heap.size 65 (.slice A6 0 c6) := hnB6.trans hvj
            have h6c := hv6.cell
            have h6f := hv6.frozen
            have ho6 := OwnS.push (x := ⟨N, N⟩) hown' hOW.2 ⟨⟨by dsimp only; omega, by dsimp only; omega⟩, ⟨by dsimp only; omega, by dsimp only; omega⟩⟩
            have hRA := round_append (Bw := w5.heap.size) hvj (by decide) hOW ho6 ⟨hgrow.os, hgrow.tape, hgrow.output, hgrow.size, hgrow.block⟩ hloc
            obtain ⟨A7, c7, rfl, hc7, hm7⟩ := list_form ho6.rel
            obtain ⟨r1, r2, r3, r4, r5⟩ := hRA
            have HRA := hid r1
            have HRB := hid r2
            have HRR := hid r3
            have HRD := hid r4
            have HRE := hid r5
            clear hown' hgrow hloc r1 r2 r3 r4 r5 ho6 hnB6
            gi_wp2
            refine ⟨HRC1.out.trans (by simpa using HRA.out), HRC2.out.t (by simpa using HRB.out), ?_, hBWj.trans (by simpa using HRE.out)⟩
            rw [hsnoc.out, HSN.out]
            exact ⟨_, by simpa using HRR.out, by simpa using HRD.out.1, HRD.out.2⟩
          · obtain ⟨tt, htt⟩ : ∃ tt, U.getLast? = some tt := by
              cases hq : U.getLast? with
              | none => simp at hq; exact absurd hq hU0
              | some x => exact ⟨x, rfl⟩
            obtain ⟨ini, hini⟩ := List.getLast?_eq_some_iff.1 htt
            have hlen : U.length = ini.length + 1 := by rw [hini]; simp
            have hget : U[ini.length]? = some tt := by rw [hini]; simp
            have htok := hyok tt (List.mem_of_getElem? hget)
            obtain ⟨b6, o6, hA6, hb6, s1, s2, _, _⟩ := span_at hrel hget
            obtain ⟨g6, cc6, hg6⟩ := own_form hOW.1 (by omega)
            simp only [Value.slice.injEq, true_and] at hg6
            obtain ⟨rfl, rfl⟩ := hg6
            simp only [Option.some.injEq, Addr.mk.injEq, and_true] at hA6
            obtain ⟨rfl, rfl⟩ := hA6
            simp only [Nat.zero_add] at s1 s2
            obtain ⟨k6, hk6⟩ : ∃ k6, k6 = ini.length := ⟨_, rfl⟩
            rw [← hk6] at s1 s2 hget
            have hk1 : (U.length : Int) - 1 = k6 := by omega
            have hk2 : (k6 : Int) < U.length := by omega
            have hk3 : (0 : Int) < U.length := by omega
            have hsub : wrap64 (N - 1) = N - 1 := IntWalk.wrap64_in _ ⟨by omega, by omega⟩
            by_cases hadj : tt.hi = N - 1
            · have hadj' := beq_t hadj
              have HSN : Hid (runStep U N = U.set k6 ⟨tt.lo, N⟩) := hid (by
                unfold runStep
                rw [htt]
                simp only
                rw [if_pos hadj, hini, hk6, List.dropLast_concat, List.set_append_right _ _ (Nat.le_refl _)]
                simp)
              have hfz := World.ownsRow.frozenAt hOW.1 (k6 * 2 + 1)
              have hst := hOW.setHi hget (z := N) ⟨by omega, by omega⟩
              obtain ⟨r1, r2, r3, r4⟩ := round_store (Bw := w5.heap.size) (j := k6 * 2 + 1) (u := .int .i64 N) hvj (by decide) hOW
              have HST := hid hst
              have HRA := hid r1
              have HRB := hid r2
              have HRR := hid r3
              have HRE := hid r4
              clear htt hini hget hlen hk6 hU0 hrel r1 r2 r3 r4 hst
              gi_wp2
              refine ⟨HRC1.out.trans HRA.out, HRC2.out.t HRB.out, ?_, hBWj.trans HRE.out⟩
              rw [hsnoc.out, HSN.out]
              exact ⟨_, HRR.out, by simpa using HST.out.1, HST.out.2⟩
            · have hadj' := beq_f hadj
              have HSN : Hid (runStep U N = U ++ [⟨N, N⟩]) := hid (by
                unfold runStep
                rw [htt]
                simp only
                rw [if_neg hadj])
              clear htt hini hget hlen hk6 hU0 hrel
              gi_wp2_with (gi_at_builtin; refine Hid.out ?_)
              refine hid ?_
              refine wpListIn_append_own_at _ rfl _ _ 65 rfl w0.heap.size 64 inf _ 2 16 Tryz.underlying65 hi0 hz0 hz1 hz2 rfl (by decide) (.slice (some ⟨g6, 0, none⟩) U.length c6) U.length _ rfl (hOW.1.alloc _) ⟨wj.heap.size, 0, none⟩ 1 1 [.int .i64 N, .int .i64 N] rfl rfl (news_at (w := wj) (cs := #[_, _]) rfl) (by simp [Value.oneCell']) (by unfold maxLen; omega) (by omega) (by simp; have := hvj.lt; omega) ?_
              intro v' w6 hown' hgrow _ hloc
              have hnB6 : w6.heap[w0.heap.size]? = wj.heap[w0.heap.size]? := by
                rw [hgrow.block w0.heap.size (by simp; have := hvj.lt; omega) (fun h => own_ne (g := w0.heap.size) hOW.1 (e' := 65) hvj (by decide) h.symm)]
                exact Below.heap_alloc _ _ _ hvj.lt
              have hv6 : Boxed w6 w0.heap.size 65 (.slice (some ⟨g6, 0, none⟩) U.length c6) := hnB6.trans hvj
              have h6c := hv6.cell
              have h6f := hv6.frozen
              have ho6 := OwnS.push (x := ⟨N, N⟩) hown' hOW.2 ⟨⟨by dsimp only; omega, by dsimp only; omega⟩, ⟨by dsimp only; omega, by dsimp only; omega⟩⟩
              have hRA := round_append (Bw := w5.heap.size) hvj (by decide) hOW ho6 ⟨hgrow.os, hgrow.tape, hgrow.output, hgrow.size, hgrow.block⟩ hloc
              obtain ⟨A7, c7, rfl, hc7, hm7⟩ := list_form ho6.rel
              obtain ⟨r1, r2, r3, r4, r5⟩ := hRA
              have HRA := hid r1
              have HRB := hid r2
              have HRR := hid r3
              have HRD := hid r4
              have HRE := hid r5
              clear hown' hgrow hloc r1 r2 r3 r4 r5 ho6 hnB6
              gi_wp2
              refine ⟨HRC1.out.trans (by simpa using HRA.out), HRC2.out.t (by simpa using HRB.out), ?_, hBWj.trans (by simpa using HRE.out)⟩
              rw [hsnoc.out, HSN.out]
              exact ⟨_, by simpa using HRR.out, by simpa using HRD.out.1, HRD.out.2⟩
    case done =>
      rintro D ys W hD hys ⟨⟨v, hv, hrow, hyok⟩, hBW⟩ hK
      have hye : (ys.map fun z => sumP l z.1) = (eachL R).map (sumP l) := by
        have := congrArg (List.map (sumP l)) hys
        rw [List.map_map] at this
        exact this
      rw [hye] at hrow hyok
      have hvc := hv.cell
      have hUl : (runsF ((eachL R).map (sumP l))).length ≤ 1073741824 := by
        have := runs_len ((eachL R).map (sumP l))
        rw [List.length_map] at this
        omega
      obtain ⟨U, hU⟩ : ∃ U, U = runsF ((eachL R).map (sumP l)) := ⟨_, rfl⟩
      rw [← hU] at hrow hyok hUl hF
      clear hU hye
      have hN := Norm_calls U v W (show OwnS 64 W w0.heap.size v U from ⟨hrow, hyok⟩).rel hUl
      rw [← hF.out] at hN
      obtain ⟨A6, c6, rfl, hc6, hm6⟩ := list_form (show OwnS 64 W w0.heap.size v U from ⟨hrow, hyok⟩).rel
      have HK := hid hK
      clear hrow hyok hys hK
      go_wp2_with fail
      refine hN.mono ?_
      rintro e w8 ⟨x8, rfl, ho8, hB8⟩
      go_wp2_with fail
      have hK8 : w8.heap[D]? = some (.deferred (some [])) := (hB8.block D (heap_lt HK.out)).trans HK.out
      have hBwW : Below w.heap.size w W := hBw5.trans (hBW.mono (by have := HSZ.out; omega))
      have hBw8 : Below w.heap.size w w8 := hBwW.trans (hB8.mono hBwW.size)
      refine ⟨by simp, .inl ⟨_, _, rfl, run_takeDeferred hK8, ?_⟩⟩
      refine ⟨_, results_tmp rfl _ _ _, _, rfl, ⟨ownsRow_putObj (ownsRow_base ho8.1 hBwW.size) _ hK8 rfl, ho8.2⟩, hBw8.trans (belowK_b (w := w) (Nat.le_refl _) w8 D _ _ (Nat.le_trans hBw5.size hD) hK8 rfl rfl)⟩
end Go.Proofs.YtmkmikacfilbpaaGreat
namespace Go.Proofs.YtmkmikacfilbpaaGreat
open Go.Proofs Go.Um Go.RowKit
theorem zeroParts (w : World) : (zeroValue 88).run Tryz.prog w = .ok (.slice none 0 0) w := by kernel_rfl
theorem infoP : (Tryz.prog.info? 102).map (fun i => (i.zero, i.size, i.bytes)) = some (some (.agg #[.int .i64 0, .int .i64 0, .int .i64 0, .int .i64 0]), 4, 32) := by kernel_rfl
def OwnP (w : World) (base : Nat) (v : Value) (xs : List Part) : Prop := w.ownsRow base 102 4 v xs.length (xs.flatMap Part.cells) ∧ ∀ x ∈ xs, x.ok
theorem OwnP.rel {w : World} {base : Nat} {v : Value} {xs : List Part} (h : OwnP w base v xs) : (listR partR).rel w (upto w.heap.size) [v] xs :=
  own_list (r := partR) (enc := Part.cells) h.1 (fun g hg => (h.1.lt g hg).2) fun x hx => ⟨rfl, rfl, h.2 x hx⟩
theorem OwnP.push {w : World} {base : Nat} {v : Value} {xs : List Part} {x : Part} (h : w.ownsRow base 102 4 v (xs.length + 1) (xs.flatMap Part.cells ++ [.int .i64 x.at_, .int .i64 x.drop, .int .i64 x.take, .int .i64 x.up])) (hx : ∀ y ∈ xs, y.ok) (ho : x.ok) : OwnP w base v (xs ++ [x]) := by
  refine ⟨by simpa [Part.cells] using h, fun y hy => ?_⟩
  rcases List.mem_append.1 hy with hy | hy
  · exact hx y hy
  · simp at hy; subst hy; exact ho
theorem OwnP.below {w w' : World} {base : Nat} {v : Value} {xs : List Part} (h : OwnP w base v xs) (hB : Below w.heap.size w w') : OwnP w' base v xs := ⟨own_below' h.1 hB, h.2⟩
/-- block b is the map; at each place the row of the parts that read there. -/
structure FreeI (w : World) (b n base : Nat) (F : Int → Value) (ps : List Part) : Prop where
  map : VMap Tryz.prog w 3 b n F
  own : ∀ a, OwnP w base (F a) (ofAt ps a)
  sep : ∀ a a', a ≠ a' → (F a).ownBlock = none ∨ (F a).ownBlock ≠ (F a').ownBlock
  lt : b < base
theorem FreeI.below {w w' : World} {b n base : Nat} {F : Int → Value} {ps : List Part} (h : FreeI w b n base F ps) (hB : Below w.heap.size w w') : FreeI w' b n base F ps :=
  ⟨h.map.held (hB.block b h.map.lt), fun a => (h.own a).below hB, h.sep, h.lt⟩
theorem keyI {a : Int} (h : I64 a) : keyOf Tryz.prog 3 (.int .i64 a) = some (.int .i64 a) := Go.Maps.keyOf_int_mk Tryz.underlying3 (WalkArith.wf_i64 h)
theorem FreeI.lookup {w : World} {b n base : Nat} {F : Int → Value} {ps : List Part} (h : FreeI w b n base F ps) {a : Int} (ha : I64 a) :
    (Instr.lookup 204 (.map (some b)) (.int .i64 a) false).run Tryz.prog w = .ok (F a) w := h.map.lookup mlaw Tryz.underlying204 (zeroParts w) (keyI ha)
theorem ofAt_snoc (ps : List Part) (p : Part) (a : Int) : ofAt (ps ++ [p]) a = if a = p.at_ then ofAt ps a ++ [p] else ofAt ps a := by
  unfold ofAt
  rw [List.filter_append]
  by_cases h : a = p.at_
  · subst h; simp
  · have : ¬ p.at_ = a := fun e => h e.symm
    simp [h, this]
theorem FreeI.put {w w1 : World} {b n base : Nat} {F : Int → Value} {ps : List Part} {p : Part} {v' : Value} (h : FreeI w b n base F ps) (hn : n < maxLen) (hp : p.ok) (hown : OwnP w1 base v' (ofAt ps p.at_ ++ [p])) (hgr : w.grownBy w1 (F p.at_).ownBlock)
    (hloc : v'.ownBlock = (F p.at_).ownBlock ∨ ∃ g, v'.ownBlock = some g ∧ w.heap.size ≤ g) :
    ∃ w2, (Instr.mapUpdate 204 (.map (some b)) (.int .i64 p.at_) v').run Tryz.prog w1 = .ok () w2 ∧ FreeI w2 b (n + 1) base (fun r => if r = p.at_ then v' else F r) (ps ++ [p]) ∧ w1.grownBy w2 (some b) := by
  have hnb : some b ≠ (F p.at_).ownBlock := fun e => by
    have := ((h.own p.at_).1.lt b e.symm).1
    have := h.lt
    omega
  obtain ⟨w2, h1, h2, h3⟩ := (h.map.kept hgr hnb).update mlaw Tryz.underlying204 hn (keyI hp.1) v'
  refine ⟨w2, h1, ⟨h2, fun a => ?_, fun a a' hne => ?_, h.lt⟩, h3⟩
  · rw [ofAt_snoc]
    by_cases ha : a = p.at_
    · subst ha
      simp only [if_true]
      exact ⟨hown.1.kept h3 (.inr fun e => by have := (hown.1.lt b e).1; have := h.lt; omega), hown.2⟩
    · simp only [ha, if_false]
      have ho := h.own a
      refine ⟨(ho.1.kept hgr ?_).kept h3 (.inr fun e => by have := (ho.1.lt b e).1; have := h.lt; omega), ho.2⟩
      exact h.sep a p.at_ ha
  · have hlt : ∀ r g, (F r).ownBlock = some g → g < w.heap.size := fun r g hg => ((h.own r).1.lt g hg).2
    by_cases ha : a = p.at_
    · subst ha
      have ha' : ¬ a' = p.at_ := fun e => hne e.symm
      simp only [if_true, ha', if_false]
      rcases hloc with e | ⟨g, e, hg⟩
      · rw [e]; exact h.sep _ _ hne
      · right
        rw [e]
        intro e2
        have := hlt a' g e2.symm
        omega
    · simp only [ha, if_false]
      by_cases ha' : a' = p.at_
      · subst ha'
        simp only [if_true]
        rcases hloc with e | ⟨g, e, hg⟩
        · rw [e]; exact h.sep _ _ hne
        · rw [e]
          cases hq : (F a).ownBlock with
          | none => exact .inl rfl
          | some k =>
            right
            intro e2
            simp at e2
            subst e2
            have := hlt a k hq
            omega
      · simp only [ha', if_false]
        exact h.sep a a' hne
theorem act_mapUp {P : Program} {o : Oper} {a : Act} {w w2 : World} {Q : Exit → Act → World → Prop} {K : Act → World → Prop} {t : TypeId} {M X V : Value} (m x v : Operand) (hop : o.op = Op.mapUpdate t m x v) (hm : a.eval m = M) (hx : a.eval x = X) (hv : a.eval v = V)
    (hrun : (Instr.mapUpdate t M X V).run P w = .ok () w2) (hK : K (a.put o.dst undef) w2) : o.wp P a w K Q := by
  unfold Oper.wp
  simp [execOp, hop, hm, hx, hv, hrun, Result.andThen]
  exact hK
theorem FreeI.made {w : World} {base : Nat} (hb : w.heap.size < base) : FreeI (w.alloc (.map #[] 0)) w.heap.size 0 base (fun _ => .slice none 0 0) [] :=
  ⟨VMap.made w, fun a => ⟨World.ownsRow_nil _ _ _ _, fun y hy => by cases hy⟩, fun _ _ _ => .inl rfl, hb⟩
end Go.Proofs.YtmkmikacfilbpaaGreat
