/-
  The program's term.together: the values of some parts of one symbol, added. term.values' map: at each place the parts that read there, in rows of the call's own. The program's term.values: the inner values of windows of sets.
-/
import Derived.Test.YthfcbbdghggefaaGreatPf
import Derived.Test.YthfcbbdghggefaaGreatPa
import Derived.Maps.OwnIn
namespace Go.Proofs.YthfcbbdghggefaaGreat
open Go.Proofs Go.Um Go.RowKit Go.Shelf
/-- what keeps all blocks that are there. -/
theorem round_calls {W W1 : World} {B Bw : Nat} (h : Below W.heap.size W W1) (hB : B < W.heap.size) : KeepsFrom Bw W W1 ∧ Kep B W W1 := by
  have hr : rowB B W1 = rowB B W := rowB_heap (h.block B hB)
  refine ⟨KeepsOthers.from ⟨h.size, fun r o hr _ => (h.block r (heap_lt hr)).trans hr⟩ _, fun h1 _ => ⟨h.size, fun g hg => ?_, fun g hg => ?_, fun g cs T fr hc _ _ => (h.block g (heap_lt hc)).trans hc⟩⟩
  · rw [hr] at hg; exact Nat.lt_of_lt_of_le (h1 g hg) h.size
  · rw [hr] at hg; exact .inl hg
/-- a store into the row that box B holds. -/
theorem round_store {W : World} {B Bw g n cap j : Nat} {t e : TypeId} {u : Value} {xs : List Span} (hv : Boxed W B t (.slice (some ⟨g, 0, none⟩) n cap)) (hte : t ≠ e) (hrow : OwnS e W B (.slice (some ⟨g, 0, none⟩) n cap) xs) :
    KeepsFrom Bw W (W.setCell ⟨g, j, none⟩ u) ∧ Kep B W (W.setCell ⟨g, j, none⟩ u) ∧ Boxed (W.setCell ⟨g, j, none⟩ u) B t (.slice (some ⟨g, 0, none⟩) n cap) ∧ Below B W (W.setCell ⟨g, j, none⟩ u) := by
  have hne : B ≠ g := fun h => by
    subst h
    exact own_ne (g := B) hrow.1 (e' := t) hv hte rfl
  have hgB : B ≤ g := (hrow.1.lt g rfl).1
  have hb : (W.setCell ⟨g, j, none⟩ u).heap[B]? = W.heap[B]? := heap_setCell_other W ⟨g, j, none⟩ B u hne
  have hr : rowB B (W.setCell ⟨g, j, none⟩ u) = rowB B W := rowB_heap hb
  have hr1 : rowB B W = some g := by unfold rowB; rw [hv.cell]; rfl
  refine ⟨(KeepsOthers.setCell _ _ _).from _, fun h1 _ => ⟨by simp, fun k hk => ?_, fun k hk => ?_, fun k cs T fr hc hb' hr' => ?_⟩, hb.trans hv, (Below.refl B W).setCell (p := ⟨g, j, none⟩) hgB _⟩
  · rw [hr] at hk; have := h1 k hk; simpa using this
  · rw [hr] at hk; exact .inl hk
  · rw [hr1] at hr'
    rw [heap_setCell_other W ⟨g, j, none⟩ k u (fun h => hr' (by rw [h]))]
    exact hc
theorem own_below' {w w' : World} {base : Nat} {e : TypeId} {size n : Nat} {v : Value} {xs : List Value} (h : w.ownsRow base e size v n xs) (hB : Below w.heap.size w w') : w'.ownsRow base e size v n xs := by
  refine ⟨h.1, ?_⟩
  rcases h.2 with h2 | ⟨g, cap, cur, h1, h2, h3, h4⟩
  · exact .inl h2
  · exact .inr ⟨g, cap, cur, h1, h2, (hB.block g (heap_lt h3)).trans h3, h4⟩
theorem runsF_snoc (l : List Int) (n : Int) : runsF (l ++ [n]) = runStep (runsF l) n := by unfold runsF; rw [List.foldl_append]; rfl
theorem runs_len (l : List Int) : (runsF l).length ≤ l.length := by
  have := (foldRun_spec (l := l) (out := []) (fun s hs => by cases hs)).2.2
  simpa [runsF] using this
attribute [local go_sem] Oper.semAt_some
set_option maxHeartbeats 4000000 in
set_option maxRecDepth 100000 in
theorem together_calls (l : List Part) (s : List Span) (v u : Value) (w : World) (h : (listR partR).rel w (upto w.heap.size) [v] l) (hs : spansR.rel w (upto w.heap.size) [u] s) (hl : l.length ≤ 4) (hb : ∀ p ∈ l, bitsF p = true)
    (hsl : s.length ≤ 268435456) (hsy : symS s) :
    Calls Tryz.prog 163 #[v, u] w fun e w' => ∃ z, e = .returned z ∧ OwnS 75 w' w.heap.size z (togF l s) ∧ Below w.heap.size w w' := by
  obtain ⟨inf, hi0, hz0, hz1, hz2⟩ := info_parts info46
  obtain ⟨A, c, rfl, hc, hm⟩ := list_form h
  obtain ⟨A2, c2, rfl, hc2, hm2⟩ := list_form hs
  unfold maxLen at hm hm2
  refine callsIn_wide.1 (callsIn_of_wp_marks (n := 3) Tryz.func163 rfl trivial (wpIn_wide.2 ?_) rfl)
  simp only [Tryz.ntmps163, List.size_toArray, List.length_cons, List.length_nil, Nat.reduceAdd, Nat.reduceSub, Array.replicate_succ, Array.replicate_zero, List.push_toArray, List.append_toArray, List.nil_append, List.cons_append]
  by_cases h1 : l.length = 1
  · obtain ⟨p, rfl⟩ := List.length_eq_one_iff.1 h1
    obtain ⟨b, o, rfl, hbb, p1, p2, p3, p4, hok⟩ := part_at (i := 0) h rfl
    have hF : Hid (togF [p] s = imgF p s) := hid rfl
    have hbs : b < w.heap.size := hbb
    have hI := fun W (hW : Below w.heap.size w W) => Image_calls p s (.slice A2 s.length c2) W (spansR.below hs hW hW.size) hsl (hb p (by simp))
    have HI := hid hI
    have past : ∀ (o1 : Obj) (i : Nat), (w.alloc o1).cell? ⟨b, i, none⟩ = w.cell? ⟨b, i, none⟩ := fun o1 i => ((Below.refl w.heap.size w).alloc (Nat.le_refl _) o1).cell (p := ⟨b, i, none⟩) hbs
    simp only [Nat.zero_mul, Nat.add_zero] at p1 p2 p3 p4
    have k1 : ∀ o1, (w.alloc o1).cell? ⟨b, o, none⟩ = some (.int .i64 p.at_) := fun o1 => (past o1 _).trans p1
    have k2 : ∀ o1, (w.alloc o1).cell? ⟨b, o + 1, none⟩ = some (.int .i64 p.drop) := fun o1 => (past o1 _).trans p2
    have k3 : ∀ o1, (w.alloc o1).cell? ⟨b, o + 2, none⟩ = some (.int .i64 p.take) := fun o1 => (past o1 _).trans p3
    have k4 : ∀ o1, (w.alloc o1).cell? ⟨b, o + 3, none⟩ = some (.int .i64 p.up) := fun o1 => (past o1 _).trans p4
    clear h hs hb h1 hI
    simp only [List.length_cons, List.length_nil, Nat.zero_add]
    go_wp2_with fail
    refine (HI.out _ ((Below.refl w.heap.size w).alloc (Nat.le_refl _) _)).mono ?_
    rintro e w1 ⟨x, rfl, ho, hB⟩
    go_wp2_with fail
    have hB1 : Below w.heap.size w w1 := ((Below.refl w.heap.size w).alloc (Nat.le_refl _) _).trans (hB.mono (by simp))
    exact ⟨_, results_tmp rfl _ _ _, _, rfl, by rw [hF.out]; exact ho.base (by simp), hB1⟩
  · have hF : Hid (togF l s = normF (runsF ((eachL (normF s)).map (sumP l)))) := hid (by
      unfold togF
      split
      · exact absurd rfl h1
      · rfl)
    have h1' : ((l.length : Int) == 1) = false := beq_f (by omega)
    have hbx := heap_alloc_new w (.cells #[.slice A l.length c] 67)
    have hB0 : Below w.heap.size w (w.alloc (.cells #[.slice A l.length c] 67)) := (Below.refl _ w).alloc (Nat.le_refl _) _
    have hsz0 : (w.alloc (.cells #[.slice A l.length c] 67)).heap.size = w.heap.size + 1 := by simp
    go_wp2_with fail
    generalize w.alloc (.cells #[.slice A l.length c] 67) = w0 at *
    have HSZ := hid hsz0
    rw [← hsz0]
    clear hsz0
    have hby := heap_alloc_new w0 (.cells #[.slice none 0 0] 76)
    have hB1 : Below w0.heap.size w0 (w0.alloc (.cells #[.slice none 0 0] 76)) := (Below.refl _ w0).alloc (Nat.le_refl _) _
    have hBw1 : Below w.heap.size w (w0.alloc (.cells #[.slice none 0 0] 76)) := hB0.trans (hB1.mono (by have := HSZ.out; omega))
    have hE := Each_calls s (.slice A2 s.length c2) (w0.alloc (.cells #[.slice none 0 0] 76)) (spansR.below hs hBw1 hBw1.size) (by omega)
    rw [World.size_alloc] at hE
    have hRp := normF_plain s
    have hRs : ∀ y ∈ normF s, 0 ≤ y.lo ∧ y.lo ≤ y.hi ∧ y.hi ≤ 1114111 := fun y hy => by
      have h1 := plain_ne hRp y hy
      have h2 := hsy y.lo (mem_normF.1 ⟨y, hy, Int.le_refl _, h1⟩).2
      have h3 := hsy y.hi (mem_normF.1 ⟨y, hy, h1, Int.le_refl _⟩).2
      omega
    obtain ⟨R, hR⟩ : ∃ R, R = normF s := ⟨_, rfl⟩
    rw [← hR] at hE hRs hF hRp
    clear hR hs
    have hel := eachL_len (n := 1114111) (plain_low hRp fun y hy => (hRs y hy).1) (fun y hy => (hRs y hy).2.2) (by decide)
    refine hE.mono ?_
    rintro e w5 ⟨x5, Bs, rfl, hBs, hBsl, ho5, hB5⟩
    have hx5 : w5.heap[w0.heap.size]? = some (.cells #[.slice none 0 0] 76) := (hB5.block w0.heap.size (by omega)).trans hby
    have hl5 : w5.heap[w.heap.size]? = some (.cells #[.slice A l.length c] 67) := (hB5.block w.heap.size (by have := HSZ.out; omega)).trans ((hB1.block w.heap.size (by have := HSZ.out; omega)).trans hbx)
    have hBw5 : Below w.heap.size w w5 := hBw1.trans (hB5.mono (by have := HSZ.out; omega))
    clear hE hbx hby hB0 hB1 hBw1 hB5
    go_wp2_with fail
    refine range_each (Bs := Bs) (B := w0.heap.size) (base := w0.heap.size + 1) (s := R) (x := x5) rfl (by simp) rfl (heap_lt hx5) (by unfold rowB; rw [show w5.cell? ⟨w0.heap.size, 0, none⟩ = some (.slice none 0 0) from cell_of_row _ _ 0 _ _ _ hx5]; rfl) hBs ho5 (Nat.lt_succ_self _) (fun y hy => by have := hRs y hy; omega)
      (fun pre W => (∃ v, Boxed W w0.heap.size 76 v ∧ W.ownsRow w0.heap.size 75 2 v (runsF (pre.map fun z => sumP l z.1)).length ((runsF (pre.map fun z => sumP l z.1)).flatMap Span.cells) ∧ ∀ y ∈ runsF (pre.map fun z => sumP l z.1), y.ok) ∧ Below w0.heap.size w5 W)
      (OwnFrom.and (Own.from (holdsRow_own w0.heap.size w0.heap.size 76 75 2 (fun pre : List { z : Int // z ∈ eachL R } => (runsF (pre.map fun z => sumP l z.1)).length) (fun pre => (runsF (pre.map fun z => sumP l z.1)).flatMap Span.cells) (fun pre _ => ∀ y ∈ runsF (pre.map fun z => sumP l z.1), y.ok)) _) (ownFrom_below (Nat.le_of_lt (heap_lt hx5)) (Nat.le_of_lt (heap_lt hx5))))
      ⟨⟨_, hx5, World.ownsRow_nil _ _ _ _, fun y hy => by cases hy⟩, Below.refl _ _⟩ ?body ?done
    case body =>
      rintro lp pre ⟨z, hz⟩ W ⟨⟨v, hv, hrow, hyok⟩, hBW⟩ hlt
      have hzb : 0 ≤ z ∧ z ≤ 1114111 := by
        obtain ⟨y, hy, h1, h2⟩ := mem_eachL.1 hz
        have := hRs y hy
        omega
      have hwz : w.heap.size < w0.heap.size := by have := HSZ.out; omega
      have hlW : W.heap[w.heap.size]? = some (.cells #[.slice A l.length c] 67) := (hBW.block w.heap.size hwz).trans hl5
      have hlc : W.cell? ⟨w.heap.size, 0, none⟩ = some (.slice A l.length c) := cell_of_row _ _ 0 _ _ _ hlW
      have hBwW : Below w.heap.size w W := hBw5.trans (hBW.mono (by omega))
      have hsnoc : Hid (runsF ((pre ++ [(⟨z, hz⟩ : { z : Int // z ∈ eachL R })]).map fun z => sumP l z.1) = runStep (runsF (pre.map fun z => sumP l z.1)) (sumP l z)) := hid (by rw [List.map_append]; exact runsF_snoc _ _)
      have hUl : (runsF (pre.map fun z => sumP l z.1)).length ≤ 2000000 := by
        have := runs_len (pre.map fun z => sumP l z.1)
        rw [List.length_map] at this
        have hlt2 : pre.length < (eachL R).length := hlt
        omega
      obtain ⟨U, hU⟩ : ∃ U, U = runsF (pre.map fun z => sumP l z.1) := ⟨_, rfl⟩
      rw [← hU] at hrow hyok hsnoc hUl
      have HUU := hid hU
      clear hU
      simp only [List.setIfInBounds_toArray, List.set_cons_succ, List.set_cons_zero]
      gi_wp2
      gi_loopw [26, 7] (fun vi vn wr => ∃ j : Nat, j ≤ l.length ∧ vi = .int .i64 j ∧ vn = .int .i64 (sumP (l.take j) z) ∧ Below W.heap.size W wr) (fun vi _ _ => l.length - (intOf vi).toNat)
      case atStart => exact ⟨0, Nat.zero_le _, rfl, rfl, Below.refl _ _⟩
      case round =>
        obtain ⟨j, hj, rfl, rfl, hBj⟩ := hrel
        obtain ⟨wj, hwj⟩ : ∃ wj, wj = wr := ⟨_, rfl⟩
        subst hwj
        have hBwj : Below w.heap.size w wj := hBwW.trans (hBj.mono hBwW.size)
        have hrj := (listR partR).mono (below_cells hBwj) (fun _ h => h) h
        by_cases hjl : j < l.length
        · obtain ⟨p, hp⟩ := at_lt hjl
          have hjl' : (j : Int) < l.length := by omega
          obtain ⟨b, o, rfl, hbb, p1, p2, p3, p4, hok⟩ := part_at hrj hp
          have hbs : b < wj.heap.size := Nat.lt_of_lt_of_le hbb hBwj.size
          have hpb := hb p (List.mem_of_getElem? hp)
          have HV := hid fun W' => Value_calls p z W'
          rw [if_pos ⟨hpb, hzb.1, by omega⟩] at HV
          unfold pval at HV
          have hs1 : Hid (sumP (l.take (j + 1)) z = sumP (l.take j) z + valF p z) := hid (by rw [take_snoc hp, sumP_snoc])
          have hb1 := sumP_bd (l := l.take j) (fun q hq => hb q (List.mem_of_mem_take hq)) z
          have hb2 := valF_nonneg p z
          have hb3 := valF_le hpb z
          rw [List.length_take_of_le hj] at hb1
          have HW : Hid (wrap64 (sumP (l.take j) z + valF p z) = sumP (l.take j) z + valF p z) := hid (IntWalk.wrap64_in _ ⟨by omega, by omega⟩)
          obtain ⟨n0, hn0⟩ : ∃ n0, n0 = sumP (l.take j) z := ⟨_, rfl⟩
          obtain ⟨n1, hn1⟩ : ∃ n1, n1 = valF p z := ⟨_, rfl⟩
          rw [← hn0, ← hn1] at hs1 HW
          rw [← hn1] at HV
          have HN0 := hid hn0
          rw [← hn0] at hb1
          rw [← hn1] at hb2 hb3
          rw [← hn0]
          clear hp hrj hn0 hn1 hpb
          gi_wp2
          refine ⟨trivial, ?_⟩
          refine (CallsIn.inRound lp (callsIn_wide.2 (HV.out _))).mono ?_
          rintro e w7 ⟨rfl, hB7⟩
          gi_wp2
          refine ⟨⟨j + 1, by omega, by push_cast; rfl, ?_, (hBj.alloc hBj.size _).trans (hB7.mono (by simp; have := hBj.size; omega))⟩, ?_⟩
          · first | rw [HW.out, hs1.out] | rw [hs1.out]
          · simp [intOf]; omega
        · obtain rfl : j = l.length := by omega
          rw [List.take_length]
          have hb1 := sumP_bd hb z
          have hrowj := own_below' hrow hBj
          have hvj : Boxed wj w0.heap.size 76 v := (hBj.block _ hv.lt).trans hv
          obtain ⟨RC1, RC2⟩ := round_calls (Bw := w5.heap.size) hBj hv.lt
          have HRC1 := hid RC1
          have HRC2 := hid RC2
          have hBWj : Below w0.heap.size w5 wj := hBW.trans (hBj.mono (Nat.le_of_lt hv.lt))
          obtain ⟨N, hN⟩ : ∃ N, N = sumP l z := ⟨_, rfl⟩
          rw [← hN] at hb1 hsnoc
          rw [← hN]
          clear hN RC1 RC2 hrow hv hrj
          have hOW : OwnS 75 wj w0.heap.size v U := ⟨hrowj, hyok⟩
          have hrel := hOW.rel
          obtain ⟨A6, c6, rfl, hc6, hm6⟩ := list_form hrel
          have hcB := hvj.cell
          have hfB := hvj.frozen
          by_cases hU0 : U = []
          · subst hU0
            have HSN : Hid (runStep [] N = [] ++ [⟨N, N⟩]) := hid rfl
            clear hrel
            gi_wp2_with (gi_at_builtin; refine Hid.out ?_)
            refine hid ?_
            refine wpListIn_append_own_at _ rfl _ _ 76 rfl w0.heap.size 75 inf _ 2 16 Tryz.underlying76 hi0 hz0 hz1 hz2 rfl (by decide) (.slice A6 0 c6) 0 _ rfl (hOW.1.alloc _) ⟨wj.heap.size, 0, none⟩ 1 1 [.int .i64 N, .int .i64 N] rfl rfl (news_at (w := wj) (cs := #[_, _]) rfl) (by simp [Value.oneCell']) (by unfold maxLen; omega) (by omega) (by simp; have := hvj.lt; omega) ?_
            intro v' w6 hown' hgrow _ hloc
            have hnB6 : w6.heap[w0.heap.size]? = wj.heap[w0.heap.size]? := by
              rw [hgrow.block w0.heap.size (by simp; have := hvj.lt; omega) (fun h => own_ne (g := w0.heap.size) hOW.1 (e' := 76) hvj (by decide) h.symm)]
              exact Below.heap_alloc _ _ _ hvj.lt
            have hv6 : Boxed w6 w0.heap.size 76 (.slice A6 0 c6) := hnB6.trans hvj
            have h6c := hv6.cell
            have h6f := hv6.frozen
            have ho6 := OwnS.push (x := ⟨N, N⟩) hown' hOW.2 ⟨⟨by dsimp only; omega, by dsimp only; omega⟩, ⟨by dsimp only; omega, by dsimp only; omega⟩⟩
            have hRA := round_append (Bw := w5.heap.size) hvj (by decide) hOW ho6 ⟨hgrow.os, hgrow.tape, hgrow.output, hgrow.size, hgrow.block⟩ hloc
            obtain ⟨A7, c7, rfl, hc7, hm7⟩ := list_form ho6.rel
            obtain ⟨r1, r2, r3, r4, r5⟩ := hRA
            have HRA := hid r1
            have HRB := hid r2
            have HRR := hid r3
            have HRD := hid r4
            have HRE := hid r5
            clear hown' hgrow hloc r1 r2 r3 r4 r5 ho6 hnB6
            gi_wp2
            refine ⟨HRC1.out.trans (by simpa using HRA.out), HRC2.out.t (by simpa using HRB.out), ?_, hBWj.trans (by simpa using HRE.out)⟩
            rw [hsnoc.out, HSN.out]
            exact ⟨_, by simpa using HRR.out, by simpa using HRD.out.1, HRD.out.2⟩
          · obtain ⟨tt, htt⟩ : ∃ tt, U.getLast? = some tt := by
              cases hq : U.getLast? with
              | none => simp at hq; exact absurd hq hU0
              | some x => exact ⟨x, rfl⟩
            obtain ⟨ini, hini⟩ := List.getLast?_eq_some_iff.1 htt
            have hlen : U.length = ini.length + 1 := by rw [hini]; simp
            have hget : U[ini.length]? = some tt := by rw [hini]; simp
            have htok := hyok tt (List.mem_of_getElem? hget)
            obtain ⟨b6, o6, hA6, hb6, s1, s2, _, _⟩ := span_at hrel hget
            obtain ⟨g6, cc6, hg6⟩ := own_form hOW.1 (by omega)
            simp only [Value.slice.injEq, true_and] at hg6
            obtain ⟨rfl, rfl⟩ := hg6
            simp only [Option.some.injEq, Addr.mk.injEq, and_true] at hA6
            obtain ⟨rfl, rfl⟩ := hA6
            simp only [Nat.zero_add] at s1 s2
            obtain ⟨k6, hk6⟩ : ∃ k6, k6 = ini.length := ⟨_, rfl⟩
            rw [← hk6] at s1 s2 hget
            have hk1 : (U.length : Int) - 1 = k6 := by omega
            have hk2 : (k6 : Int) < U.length := by omega
            have hk3 : (0 : Int) < U.length := by omega
            have hsub : wrap64 (N - 1) = N - 1 := IntWalk.wrap64_in _ ⟨by omega, by omega⟩
            by_cases hadj : tt.hi = N - 1
            · have hadj' := beq_t hadj
              have HSN : Hid (runStep U N = U.set k6 ⟨tt.lo, N⟩) := hid (by
                unfold runStep
                rw [htt]
                simp only
                rw [if_pos hadj, hini, hk6, List.dropLast_concat, List.set_append_right _ _ (Nat.le_refl _)]
                simp)
              have hfz := World.ownsRow.frozenAt hOW.1 (k6 * 2 + 1)
              have hst := hOW.setHi hget (z := N) ⟨by omega, by omega⟩
              obtain ⟨r1, r2, r3, r4⟩ := round_store (Bw := w5.heap.size) (j := k6 * 2 + 1) (u := .int .i64 N) hvj (by decide) hOW
              have HST := hid hst
              have HRA := hid r1
              have HRB := hid r2
              have HRR := hid r3
              have HRE := hid r4
              clear htt hini hget hlen hk6 hU0 hrel r1 r2 r3 r4 hst
              gi_wp2
              refine ⟨HRC1.out.trans HRA.out, HRC2.out.t HRB.out, ?_, hBWj.trans HRE.out⟩
              rw [hsnoc.out, HSN.out]
              exact ⟨_, HRR.out, by simpa using HST.out.1, HST.out.2⟩
            · have hadj' := beq_f hadj
              have HSN : Hid (runStep U N = U ++ [⟨N, N⟩]) := hid (by
                unfold runStep
                rw [htt]
                simp only
                rw [if_neg hadj])
              clear htt hini hget hlen hk6 hU0 hrel
              gi_wp2_with (gi_at_builtin; refine Hid.out ?_)
              refine hid ?_
              refine wpListIn_append_own_at _ rfl _ _ 76 rfl w0.heap.size 75 inf _ 2 16 Tryz.underlying76 hi0 hz0 hz1 hz2 rfl (by decide) (.slice (some ⟨g6, 0, none⟩) U.length c6) U.length _ rfl (hOW.1.alloc _) ⟨wj.heap.size, 0, none⟩ 1 1 [.int .i64 N, .int .i64 N] rfl rfl (news_at (w := wj) (cs := #[_, _]) rfl) (by simp [Value.oneCell']) (by unfold maxLen; omega) (by omega) (by simp; have := hvj.lt; omega) ?_
              intro v' w6 hown' hgrow _ hloc
              have hnB6 : w6.heap[w0.heap.size]? = wj.heap[w0.heap.size]? := by
                rw [hgrow.block w0.heap.size (by simp; have := hvj.lt; omega) (fun h => own_ne (g := w0.heap.size) hOW.1 (e' := 76) hvj (by decide) h.symm)]
                exact Below.heap_alloc _ _ _ hvj.lt
              have hv6 : Boxed w6 w0.heap.size 76 (.slice (some ⟨g6, 0, none⟩) U.length c6) := hnB6.trans hvj
              have h6c := hv6.cell
              have h6f := hv6.frozen
              have ho6 := OwnS.push (x := ⟨N, N⟩) hown' hOW.2 ⟨⟨by dsimp only; omega, by dsimp only; omega⟩, ⟨by dsimp only; omega, by dsimp only; omega⟩⟩
              have hRA := round_append (Bw := w5.heap.size) hvj (by decide) hOW ho6 ⟨hgrow.os, hgrow.tape, hgrow.output, hgrow.size, hgrow.block⟩ hloc
              obtain ⟨A7, c7, rfl, hc7, hm7⟩ := list_form ho6.rel
              obtain ⟨r1, r2, r3, r4, r5⟩ := hRA
              have HRA := hid r1
              have HRB := hid r2
              have HRR := hid r3
              have HRD := hid r4
              have HRE := hid r5
              clear hown' hgrow hloc r1 r2 r3 r4 r5 ho6 hnB6
              gi_wp2
              refine ⟨HRC1.out.trans (by simpa using HRA.out), HRC2.out.t (by simpa using HRB.out), ?_, hBWj.trans (by simpa using HRE.out)⟩
              rw [hsnoc.out, HSN.out]
              exact ⟨_, by simpa using HRR.out, by simpa using HRD.out.1, HRD.out.2⟩
    case done =>
      rintro D ys W hD hys ⟨⟨v, hv, hrow, hyok⟩, hBW⟩ hK
      have hye : (ys.map fun z => sumP l z.1) = (eachL R).map (sumP l) := by
        have := congrArg (List.map (sumP l)) hys
        rw [List.map_map] at this
        exact this
      rw [hye] at hrow hyok
      have hvc := hv.cell
      have hUl : (runsF ((eachL R).map (sumP l))).length ≤ 1073741824 := by
        have := runs_len ((eachL R).map (sumP l))
        rw [List.length_map] at this
        omega
      obtain ⟨U, hU⟩ : ∃ U, U = runsF ((eachL R).map (sumP l)) := ⟨_, rfl⟩
      rw [← hU] at hrow hyok hUl hF
      clear hU hye
      have hN := Norm_calls U v W (show OwnS 75 W w0.heap.size v U from ⟨hrow, hyok⟩).rel hUl
      rw [← hF.out] at hN
      obtain ⟨A6, c6, rfl, hc6, hm6⟩ := list_form (show OwnS 75 W w0.heap.size v U from ⟨hrow, hyok⟩).rel
      have HK := hid hK
      clear hrow hyok hys hK
      go_wp2_with fail
      refine hN.mono ?_
      rintro e w8 ⟨x8, rfl, ho8, hB8⟩
      go_wp2_with fail
      have hK8 : w8.heap[D]? = some (.deferred (some [])) := (hB8.block D (heap_lt HK.out)).trans HK.out
      have hBwW : Below w.heap.size w W := hBw5.trans (hBW.mono (by have := HSZ.out; omega))
      have hBw8 : Below w.heap.size w w8 := hBwW.trans (hB8.mono hBwW.size)
      refine ⟨by simp, .inl ⟨_, _, rfl, run_takeDeferred hK8, ?_⟩⟩
      refine ⟨_, results_tmp rfl _ _ _, _, rfl, ⟨ownsRow_putObj (ownsRow_base ho8.1 hBwW.size) _ hK8 rfl, ho8.2⟩, hBw8.trans (belowK_b (w := w) (Nat.le_refl _) w8 D _ _ (Nat.le_trans hBw5.size hD) hK8 rfl rfl)⟩
end Go.Proofs.YthfcbbdghggefaaGreat
namespace Go.Proofs.YthfcbbdghggefaaGreat
open Go.Proofs Go.Um Go.RowKit
theorem zeroParts (w : World) : (zeroValue 67).run Tryz.prog w = .ok (.slice none 0 0) w := by kernel_rfl
theorem infoP : (Tryz.prog.info? 72).map (fun i => (i.zero, i.size, i.bytes)) = some (some (.agg #[.int .i64 0, .int .i64 0, .int .i64 0, .int .i64 0]), 4, 32) := by kernel_rfl
def OwnP (w : World) (base : Nat) (v : Value) (xs : List Part) : Prop := w.ownsRow base 72 4 v xs.length (xs.flatMap Part.cells) ∧ ∀ x ∈ xs, x.ok
theorem OwnP.rel {w : World} {base : Nat} {v : Value} {xs : List Part} (h : OwnP w base v xs) : (listR partR).rel w (upto w.heap.size) [v] xs :=
  own_list (r := partR) (enc := Part.cells) h.1 (fun g hg => (h.1.lt g hg).2) fun x hx => ⟨rfl, rfl, h.2 x hx⟩
theorem OwnP.push {w : World} {base : Nat} {v : Value} {xs : List Part} {x : Part} (h : w.ownsRow base 72 4 v (xs.length + 1) (xs.flatMap Part.cells ++ [.int .i64 x.at_, .int .i64 x.drop, .int .i64 x.take, .int .i64 x.up])) (hx : ∀ y ∈ xs, y.ok) (ho : x.ok) : OwnP w base v (xs ++ [x]) := by
  refine ⟨by simpa [Part.cells] using h, fun y hy => ?_⟩
  rcases List.mem_append.1 hy with hy | hy
  · exact hx y hy
  · simp at hy; subst hy; exact ho
theorem OwnP.below {w w' : World} {base : Nat} {v : Value} {xs : List Part} (h : OwnP w base v xs) (hB : Below w.heap.size w w') : OwnP w' base v xs := ⟨own_below' h.1 hB, h.2⟩
/-- block b is the map; at each place the row of the parts that read there. -/
structure FreeI (w : World) (b n base : Nat) (F : Int → Value) (ps : List Part) : Prop where
  map : VMap Tryz.prog w 3 b n F
  own : ∀ a, OwnP w base (F a) (ofAt ps a)
  sep : ∀ a a', a ≠ a' → (F a).ownBlock = none ∨ (F a).ownBlock ≠ (F a').ownBlock
  lt : b < base
theorem FreeI.below {w w' : World} {b n base : Nat} {F : Int → Value} {ps : List Part} (h : FreeI w b n base F ps) (hB : Below w.heap.size w w') : FreeI w' b n base F ps :=
  ⟨h.map.held (hB.block b h.map.lt), fun a => (h.own a).below hB, h.sep, h.lt⟩
theorem keyI {a : Int} (h : I64 a) : keyOf Tryz.prog 3 (.int .i64 a) = some (.int .i64 a) := Go.Maps.keyOf_int_mk Tryz.underlying3 (WalkArith.wf_i64 h)
theorem FreeI.lookup {w : World} {b n base : Nat} {F : Int → Value} {ps : List Part} (h : FreeI w b n base F ps) {a : Int} (ha : I64 a) :
    (Instr.lookup 196 (.map (some b)) (.int .i64 a) false).run Tryz.prog w = .ok (F a) w := h.map.lookup mlaw Tryz.underlying196 (zeroParts w) (keyI ha)
theorem ofAt_snoc (ps : List Part) (p : Part) (a : Int) : ofAt (ps ++ [p]) a = if a = p.at_ then ofAt ps a ++ [p] else ofAt ps a := by
  unfold ofAt
  rw [List.filter_append]
  by_cases h : a = p.at_
  · subst h; simp
  · have : ¬ p.at_ = a := fun e => h e.symm
    simp [h, this]
theorem FreeI.put {w w1 : World} {b n base : Nat} {F : Int → Value} {ps : List Part} {p : Part} {v' : Value} (h : FreeI w b n base F ps) (hn : n < maxLen) (hp : p.ok) (hown : OwnP w1 base v' (ofAt ps p.at_ ++ [p])) (hgr : w.grownBy w1 (F p.at_).ownBlock)
    (hloc : v'.ownBlock = (F p.at_).ownBlock ∨ ∃ g, v'.ownBlock = some g ∧ w.heap.size ≤ g) :
    ∃ w2, (Instr.mapUpdate 196 (.map (some b)) (.int .i64 p.at_) v').run Tryz.prog w1 = .ok () w2 ∧ FreeI w2 b (n + 1) base (fun r => if r = p.at_ then v' else F r) (ps ++ [p]) ∧ w1.grownBy w2 (some b) := by
  have hnb : some b ≠ (F p.at_).ownBlock := fun e => by
    have := ((h.own p.at_).1.lt b e.symm).1
    have := h.lt
    omega
  obtain ⟨w2, h1, h2, h3⟩ := (h.map.kept hgr hnb).update mlaw Tryz.underlying196 hn (keyI hp.1) v'
  refine ⟨w2, h1, ⟨h2, fun a => ?_, fun a a' hne => ?_, h.lt⟩, h3⟩
  · rw [ofAt_snoc]
    by_cases ha : a = p.at_
    · subst ha
      simp only [if_true]
      exact ⟨hown.1.kept h3 (.inr fun e => by have := (hown.1.lt b e).1; have := h.lt; omega), hown.2⟩
    · simp only [ha, if_false]
      have ho := h.own a
      refine ⟨(ho.1.kept hgr ?_).kept h3 (.inr fun e => by have := (ho.1.lt b e).1; have := h.lt; omega), ho.2⟩
      exact h.sep a p.at_ ha
  · have hlt : ∀ r g, (F r).ownBlock = some g → g < w.heap.size := fun r g hg => ((h.own r).1.lt g hg).2
    by_cases ha : a = p.at_
    · subst ha
      have ha' : ¬ a' = p.at_ := fun e => hne e.symm
      simp only [if_true, ha', if_false]
      rcases hloc with e | ⟨g, e, hg⟩
      · rw [e]; exact h.sep _ _ hne
      · right
        rw [e]
        intro e2
        have := hlt a' g e2.symm
        omega
    · simp only [ha, if_false]
      by_cases ha' : a' = p.at_
      · subst ha'
        simp only [if_true]
        rcases hloc with e | ⟨g, e, hg⟩
        · rw [e]; exact h.sep _ _ hne
        · rw [e]
          cases hq : (F a).ownBlock with
          | none => exact .inl rfl
          | some k =>
            right
            intro e2
            simp at e2
            subst e2
            have := hlt a k hq
            omega
      · simp only [ha', if_false]
        exact h.sep a a' hne
theorem act_mapUp {P : Program} {o : Oper} {a : Act} {w w2 : World} {Q : Exit → Act → World → Prop} {K : Act → World → Prop} {t : TypeId} {M X V : Value} (m x v : Operand) (hop : o.op = Op.mapUpdate t m x v) (hm : a.eval m = M) (hx : a.eval x = X) (hv : a.eval v = V)
    (hrun : (Instr.mapUpdate t M X V).run P w = .ok () w2) (hK : K (a.put o.dst undef) w2) : o.wp P a w K Q := by
  unfold Oper.wp
  simp [execOp, hop, hm, hx, hv, hrun, Result.andThen]
  exact hK
theorem FreeI.made {w : World} {base : Nat} (hb : w.heap.size < base) : FreeI (w.alloc (.map #[] 0)) w.heap.size 0 base (fun _ => .slice none 0 0) [] :=
  ⟨VMap.made w, fun a => ⟨World.ownsRow_nil _ _ _ _, fun y hy => by cases hy⟩, fun _ _ _ => .inl rfl, hb⟩
end Go.Proofs.YthfcbbdghggefaaGreat
namespace Go.Um
theorem placesF_snoc (ps : List Part) (p : Part) : placesF (ps ++ [p]) = placeStep (placesF ps) p := by unfold placesF; rw [List.foldl_append]; rfl
theorem ofAt_empty {ps : List Part} {a : Int} : ofAt ps a = [] ↔ a ∉ placesF ps := by
  rw [mem_placesF]
  constructor
  · rintro h ⟨p, hp, rfl⟩
    have : p ∈ ofAt ps p.at_ := List.mem_filter.2 ⟨hp, by simp⟩
    rw [h] at this
    cases this
  · intro h
    exact List.filter_eq_nil_iff.2 fun p hp hc => h ⟨p, hp, by simpa using hc⟩
theorem places_le (ps : List Part) : (placesF ps).length ≤ ps.length := by
  have key : ∀ (ps : List Part) (l : List Int), (ps.foldl placeStep l).length ≤ l.length + ps.length := by
    intro ps
    induction ps with
    | nil => intro l; simp
    | cons p r ih =>
      intro l
      have h1 : (placeStep l p).length ≤ l.length + 1 := by unfold placeStep; split <;> simp
      have := ih (placeStep l p)
      rw [List.foldl_cons, List.length_cons]
      omega
  simpa [placesF] using key ps []
theorem cntF_append (ps : List Part) (a b : List Int) : cntF ps (a ++ b) = cntF ps a + cntF ps b := by
  unfold cntF; rw [List.map_append, List.sum_append]
theorem cntF_take (ps : List Part) (qs : List Int) (j : Nat) : cntF ps (qs.take j) ≤ cntF ps qs := by
  have h := cntF_append ps (qs.take j) (qs.drop j)
  rw [List.take_append_drop] at h
  have := cntF_nonneg ps (qs.drop j)
  omega
def outJ (ps : List Part) (sets : List (List Span)) (ts : Int) (j : Nat) : List Span := ((placesF ps).take j).foldl (valsGo ps sets) [⟨ts, ts⟩]
theorem outJ_succ {ps : List Part} {sets : List (List Span)} {ts a : Int} {j : Nat} (h : (placesF ps)[j]? = some a) : outJ ps sets ts (j + 1) = valsGo ps sets (outJ ps sets ts j) a := by
  obtain ⟨hl, rfl⟩ := List.getElem?_eq_some_iff.1 h
  unfold outJ
  rw [List.take_add_one, List.getElem?_eq_getElem hl, Option.toList_some, List.foldl_append]
  rfl
theorem outJ_plain (ps : List Part) (sets : List (List Span)) (ts : Int) (j : Nat) : plain (outJ ps sets ts j) = true ∨ outJ ps sets ts j = [⟨ts, ts⟩] := by
  unfold outJ
  rcases List.eq_nil_or_concat ((placesF ps).take j) with h | ⟨l, a, h⟩
  · rw [h]; exact .inr rfl
  · rw [h, List.concat_eq_append, List.foldl_append]
    exact .inl (plusF_plain _ _)
end Go.Um
namespace Go.Proofs.YthfcbbdghggefaaGreat
open Go.Proofs Go.Um Go.RowKit
theorem imgRaw_len (d m : Int) (l : List Span) : (imgRaw d m l).length ≤ 2 * l.length + 1 := by
  unfold imgRaw
  split
  · simp
  · induction l with
    | nil => simp
    | cons x r ih =>
      rename_i h
      have h2 : ¬ (r.any (wide d m)) = true := fun e => h (by rw [List.any_cons, e]; simp)
      have h1 : (imgOne d m x).length ≤ 2 := by unfold imgOne; split <;> simp
      have := ih h2
      rw [List.flatMap_cons, List.length_append, List.length_cons]
      omega
theorem togF_len {l : List Part} {s : List Span} (hb : ∀ p ∈ l, bitsF p = true) (hs : symS s) (hl : s.length ≤ 100000) : (togF l s).length ≤ 3000000 := by
  unfold togF
  split
  · rename_i p
    have hpb := hb p (by simp)
    have h1 : (imgN p s).length ≤ 200003 := by
      unfold imgN
      have h2 := normF_length (imgRaw (pw p.drop) (pw p.take) (meetF s topS))
      have h3 := imgRaw_len (pw p.drop) (pw p.take) (meetF s topS)
      have h4 := meetF_length s topS
      simp [topS] at h4
      have : topS.length = 1 := rfl
      have h5 := meetF_length s topS
      omega
    unfold imgF
    split
    · omega
    · rename_i hu
      have hbb := bitsF_iff.1 hpb
      have ht : p.take ≤ 6 := hbb.2.2.2.2.2.2.resolve_left hu
      have ht6 := pw_6 ht
      have hR : ∀ y ∈ imgN p s, 0 ≤ y.lo ∧ y.lo ≤ y.hi ∧ y.hi ≤ 63 := fun y hy => by
        have h2 : y.lo ≤ y.hi := plain_ne (normF_plain _) y hy
        obtain ⟨x, _, h3⟩ := (mem_imgN hpb).1 ⟨y, hy, Int.le_refl _, h2⟩
        obtain ⟨x', _, h4⟩ := (mem_imgN hpb).1 ⟨y, hy, h2, Int.le_refl _⟩
        have h5 := Int.emod_nonneg (x / pw p.drop) (show pw p.take ≠ 0 by have := pw_pos p.take; omega)
        have h6 := Int.emod_lt_of_pos (x' / pw p.drop) (pw_pos p.take)
        omega
      have hel := eachL_len (n := 63) (plain_low (normF_plain _) fun y hy => (hR y hy).1) (fun y hy => (hR y hy).2.2) (by decide)
      have h2 := normF_length (upL (pw p.up) (eachL (imgN p s)))
      have h3 : (upL (pw p.up) (eachL (imgN p s))).length = (eachL (imgN p s)).length := by simp [upL]
      have h4 : (eachL (imgN p s)).length ≤ 65 := by
        have : ((eachL (imgN p s)).length : Int) ≤ 63 - -2 := hel
        omega
      omega
  · have hR : ∀ y ∈ normF s, 0 ≤ y.lo ∧ y.lo ≤ y.hi ∧ y.hi ≤ 1114111 := fun y hy => by
      have h1 := plain_ne (normF_plain s) y hy
      have h2 := hs y.lo (mem_normF.1 ⟨y, hy, Int.le_refl _, h1⟩).2
      have h3 := hs y.hi (mem_normF.1 ⟨y, hy, h1, Int.le_refl _⟩).2
      omega
    have hel := eachL_len (n := 1114111) (plain_low (normF_plain s) fun y hy => (hR y hy).1) (fun y hy => (hR y hy).2.2) (by decide)
    have h2 := normF_length (runsF ((eachL (normF s)).map (sumP l)))
    have h3 := runs_len ((eachL (normF s)).map (sumP l))
    rw [List.length_map] at h3
    omega
/-- rows of unlike elements lie in unlike blocks. -/
theorem rows_ne {w : World} {base base' : Nat} {e e' : TypeId} {size size' n n' : Nat} {v v' : Value} {xs xs' : List Value} (h : w.ownsRow base e size v n xs) (h' : w.ownsRow base' e' size' v' n' xs') (hne : e' ≠ e) : v.ownBlock = none ∨ v.ownBlock ≠ v'.ownBlock := by
  rcases h'.2 with ⟨rfl, _⟩ | ⟨g, cap, cur, rfl, _, hg, _⟩
  · cases hq : v.ownBlock with
    | none => exact .inl rfl
    | some k => exact .inr (by simp [Value.ownBlock])
  · exact .inr (own_ne h hg hne)
theorem FreeI.kept {w w' : World} {b n base : Nat} {F : Int → Value} {ps : List Part} {row : Option Nat} (h : FreeI w b n base F ps) (hg : w.grownBy w' row) (hb : some b ≠ row) (hr : ∀ a, (F a).ownBlock = none ∨ (F a).ownBlock ≠ row) : FreeI w' b n base F ps :=
  ⟨h.map.kept hg hb, fun a => ⟨(h.own a).1.kept hg (hr a), (h.own a).2⟩, h.sep, h.lt⟩
set_option maxHeartbeats 4000000 in
set_option maxRecDepth 100000 in
theorem values_calls (t : Term) (v u : Value) (sets : List (List Span)) (w : World) (h : (listR partR).rel w (upto w.heap.size) [v] t.parts) (hs : (listR spansR).rel w (upto w.heap.size) [u] sets) (hn : numbersF t = true)
    (hr : ∀ p ∈ t.parts, rightP p sets.length = true) (_hgl : sets.length ≤ 4) (hgs : ∀ g ∈ sets, symS g ∧ g.length ≤ 100000) :
    Calls Tryz.prog 157 #[tval t v, u] w fun e w' => ∃ z, e = .returned (.tuple #[z, .bool (okV (valuesF t sets))]) ∧ OwnS 75 w' w.heap.size z (valuesF t sets) ∧ Below w.heap.size w w' := by
  obtain ⟨inf, hi0, hz0, hz1, hz2⟩ := info_parts info46
  obtain ⟨infp, hip, hzp0, hzp1, hzp2⟩ := info_parts infoP
  obtain ⟨inf3, hi3, hy0, hy1, hy2⟩ := info_parts info3
  obtain ⟨n1, n2, n3, n4, n5⟩ := numbersF_iff.1 hn
  obtain ⟨A, c, rfl, hc, hm⟩ := list_form h
  obtain ⟨A2, c2, rfl, hc2, hm2⟩ := list_form hs
  unfold maxLen at hm hm2
  have hmm := @run_makeMap Tryz.prog
  have hsum := smallN_iff.1 n2
  unfold tval
  obtain ⟨tb, td, tk, tu, ts, ps⟩ := t
  dsimp only at h hr n1 n2 n3 n4 n5 hc hsum ⊢
  have hbx := heap_alloc_new w (.cells #[.int .i64 tb, .int .i64 td, .int .i64 tk, .int .i64 tu, .int .i64 ts, .slice A ps.length c] 69)
  have hB0 : Below w.heap.size w (w.alloc (.cells #[.int .i64 tb, .int .i64 td, .int .i64 tk, .int .i64 tu, .int .i64 ts, .slice A ps.length c] 69)) := (Below.refl _ w).alloc (Nat.le_refl _) _
  have hsz0 : (w.alloc (.cells #[.int .i64 tb, .int .i64 td, .int .i64 tk, .int .i64 tu, .int .i64 ts, .slice A ps.length c] 69)).heap.size = w.heap.size + 1 := by simp
  have hfr := FreeI.made (w := w.alloc (.cells #[.int .i64 tb, .int .i64 td, .int .i64 tk, .int .i64 tu, .int .i64 ts, .slice A ps.length c] 69)) (base := w.heap.size + 2) (by simp)
  rw [hsz0] at hfr
  go_enter Tryz.func157, Tryz.ntmps157
  go_wp2_with fail
  go_loopw [21, 7] (fun vi vp wr => ∃ (k : Nat) (F : Int → Value), k ≤ ps.length ∧ vi = .int .i64 k ∧ FreeI wr (w.heap.size + 1) k (w.heap.size + 2) F (ps.take k) ∧ wr.ownsInts (w.heap.size + 2) 3 .i64 vp (placesF (ps.take k)) ∧ Below w.heap.size w wr ∧
      wr.heap[w.heap.size]? = some (.cells #[.int .i64 tb, .int .i64 td, .int .i64 tk, .int .i64 tu, .int .i64 ts, .slice A ps.length c] 69) ∧ w.heap.size + 2 ≤ wr.heap.size) (fun vi _ _ => ps.length - (intOf vi).toNat)
  case atStart =>
    refine ⟨0, _, Nat.zero_le _, rfl, hfr, World.ownsInts_nil _ _ _ _, hB0.alloc (by simp) _, ?_, by simp⟩
    exact (Below.heap_alloc _ _ _ (by simp)).trans hbx
  case round =>
    obtain ⟨k, F, hk, rfl, hf, hpl, hB, hbox, hsz⟩ := hrel
    obtain ⟨wo, hwo⟩ : ∃ wo, wo = wr := ⟨_, rfl⟩
    subst hwo
    have hrw := (listR partR).mono (below_cells hB) (fun _ h => h) h
    by_cases hlt : k < ps.length
    · obtain ⟨p, hp⟩ := at_lt hlt
      have hlt' : (k : Int) < ps.length := by omega
      obtain ⟨pb, po, rfl, hbb, p1, p2, p3, p4, hok⟩ := part_at hrw hp
      have hbs : pb < wo.heap.size := Nat.lt_of_lt_of_le hbb hB.size
      have hpa : I64 p.at_ := hok.1
      have HTK : Hid (ps.take (k + 1) = ps.take k ++ [p]) := hid (take_snoc hp)
      have HOK := hid hok
      clear hrw hp hok
      have hwa := heap_alloc_new wo (.cells #[.int .i64 p.at_, .int .i64 p.drop, .int .i64 p.take, .int .i64 p.up] 72)
      have hBa := (Below.refl wo.heap.size wo).alloc (Nat.le_refl _) (.cells #[.int .i64 p.at_, .int .i64 p.drop, .int .i64 p.take, .int .i64 p.up] 72)
      have hfa := hf.below hBa
      have hla := hfa.lookup hpa
      have hpla : (wo.alloc (.cells #[.int .i64 p.at_, .int .i64 p.drop, .int .i64 p.take, .int .i64 p.up] 72)).ownsInts (w.heap.size + 2) 3 .i64 _ (placesF (ps.take k)) := ⟨own_below' hpl.1 hBa, hpl.2⟩
      have hboxa := (hBa.block w.heap.size (by omega)).trans hbox
      have hBwa : Below w.heap.size w _ := hB.trans (hBa.mono (by omega))
      have HFL : Hid (∀ g, (F p.at_).ownBlock = some g → g < wo.heap.size) := hid fun g hg => ((hf.own p.at_).1.lt g hg).2
      obtain ⟨A7, c7, hF7, hc7, hm7⟩ := list_form (hfa.own p.at_).rel
      have hL7 : ((ofAt (ps.take k) p.at_).length = 0) ↔ p.at_ ∉ placesF (ps.take k) := by rw [List.length_eq_zero_iff]; exact ofAt_empty
      have hlk : (placesF (ps.take k)).length ≤ 4 := by have := places_le (ps.take k); rw [List.length_take] at this; omega
      have hlo : (ofAt (ps.take k) p.at_).length ≤ 4 := by have := ofAt_len (ps.take k) p.at_; rw [List.length_take] at this; omega
      obtain ⟨O, hO⟩ : ∃ O, O = ofAt (ps.take k) p.at_ := ⟨_, rfl⟩
      obtain ⟨PL, hPL⟩ : ∃ PL, PL = placesF (ps.take k) := ⟨_, rfl⟩
      rw [← hO] at hF7 hc7 hL7 hlo
      rw [← hPL] at hL7 hpla hpl hlk
      have HO := hid hO
      have HPL := hid hPL
      rw [hF7] at hla
      have HF7 := hid hF7
      have HFA := hid hfa
      have HLA := hid hpla
      have HWA := hid hwa
      have HBX := hid hboxa
      clear hO hPL hF7 hf hpl hbox hfa hpla hwa hboxa
      obtain ⟨A8, c8, rfl, hc8, hm8⟩ := list_form (intsR HLA.out)
      have HL7 := hid hL7
      clear hL7
      by_cases h0 : O.length = 0
      · have h0' : ((O.length : Int) == 0) = true := beq_t (by omega)
        have hnm : p.at_ ∉ PL := HL7.out.1 h0
        have HPS : Hid (placesF (ps.take (k + 1)) = PL ++ [p.at_]) := hid (by rw [HTK.out, placesF_snoc, ← HPL.out]; unfold placeStep; rw [if_neg hnm])
        clear hnm h0
        go_wp2_with (at_builtin; refine Hid.out ?_)
        clear h0'
        refine hid ?_
        refine wpList_append_own_at _ rfl _ _ 73 rfl (w.heap.size + 2) 3 inf3 (.int .i64 0) 1 8 Tryz.underlying73 hi3 hy0 hy1 hy2 rfl (by decide) (.slice A8 PL.length c8) PL.length _ rfl (HLA.out.1.alloc _) ⟨wo.heap.size + 1, 0, none⟩ 1 1 [.int .i64 p.at_] rfl rfl (news_at (w := wo.alloc _) (cs := #[_]) (by simp)) (by simp [Value.oneCell']) (by unfold maxLen; omega) (by omega) (by simp; omega) ?_
        intro v' w1 hown' hgrow _ hloc
        have hBc : Below (wo.alloc (.cells #[.int .i64 p.at_, .int .i64 p.drop, .int .i64 p.take, .int .i64 p.up] 72)).heap.size _ _ := (Below.refl _ (wo.alloc (.cells #[.int .i64 p.at_, .int .i64 p.drop, .int .i64 p.take, .int .i64 p.up] 72))).alloc (Nat.le_refl _) (.cells #[.int .i64 p.at_] 3)
        have hLc := HLA.out.1.alloc (.cells #[.int .i64 p.at_] 3)
        have hfc := HFA.out.below hBc
        have hfq : FreeI w1 (w.heap.size + 1) k (w.heap.size + 2) F (ps.take k) := hfc.kept hgrow (fun e => by have := (hLc.lt _ e.symm).1; omega) (fun a => rows_ne (hfc.own a).1 hLc (by decide))
        have hsz1 : wo.heap.size + 2 ≤ w1.heap.size := by have := hgrow.size; simp at this; omega
        have hpq : w1.heap[wo.heap.size]? = some (.cells #[.int .i64 p.at_, .int .i64 p.drop, .int .i64 p.take, .int .i64 p.up] 72) := by
          rw [hgrow.block wo.heap.size (by simp; omega) (fun e => own_ne (g := wo.heap.size) hLc (e' := 72) ((hBc.block wo.heap.size (by simp)).trans HWA.out) (by decide) e.symm)]
          exact (hBc.block wo.heap.size (by simp)).trans HWA.out
        have hbq : w1.heap[w.heap.size]? = some (.cells #[.int .i64 tb, .int .i64 td, .int .i64 tk, .int .i64 tu, .int .i64 ts, .slice (some ⟨pb, po, none⟩) ps.length c] 69) := by
          rw [hgrow.block w.heap.size (by simp; omega) (fun e => by have := (hLc.lt _ e.symm).1; omega)]
          exact (hBc.block w.heap.size (by simp; omega)).trans HBX.out
        have hlq : w1.ownsInts (w.heap.size + 2) 3 .i64 v' (placesF (ps.take (k + 1))) := by
          rw [HPS.out]
          exact HLA.out.appended hown' (WalkArith.wf_i64 hpa)
        have hBq : Below w.heap.size w w1 := (hBwa.alloc hBwa.size _).trans (below_grown hLc hgrow (by omega) (by simp; omega))
        have hpo : wo.heap.size < w1.heap.size := by omega
        clear hown' hgrow hloc hBc hLc hfc HFA HLA HBX HWA
        obtain ⟨A9, c9, rfl, hc9, hm9⟩ := list_form (intsR hlq)
        have HFQ := hid hfq
        have HPQ := hid hpq
        have HBQ := hid hbq
        have HLQ := hid hlq
        obtain ⟨wq, hwq⟩ : ∃ wq, wq = w1 := ⟨_, rfl⟩
        subst hwq
        have hpc0 : wq.cell? ⟨wo.heap.size, 0, none⟩ = some (.int .i64 p.at_) := cell_of_row _ _ 0 _ _ _ hpq
        clear hfq hpq hbq hlq
        go_wp2_with fail
        obtain ⟨ι, Wc, ⟨i0, hi0'⟩, hWc, Wsur⟩ := held_class wq.drew (fun g => g = wo.heap.size ∨ g = w.heap.size + 1)
        have hne : Nonempty ι := ⟨i0⟩
        have M0 : ∀ i, (Wc i).cell? ⟨wo.heap.size, 0, none⟩ = some (.int .i64 p.at_) := fun i => (cell_of_heap_eq (p := ⟨wo.heap.size, 0, none⟩) (hWc i _ (.inl rfl))).trans (cell_of_row _ _ 0 _ _ _ HPQ.out)
        have M1 : ∀ i, (Wc i).cell? ⟨wo.heap.size, 1, none⟩ = some (.int .i64 p.drop) := fun i => (cell_of_heap_eq (p := ⟨wo.heap.size, 1, none⟩) (hWc i _ (.inl rfl))).trans (cell_of_row _ _ 1 _ _ _ HPQ.out)
        have M2 : ∀ i, (Wc i).cell? ⟨wo.heap.size, 2, none⟩ = some (.int .i64 p.take) := fun i => (cell_of_heap_eq (p := ⟨wo.heap.size, 2, none⟩) (hWc i _ (.inl rfl))).trans (cell_of_row _ _ 2 _ _ _ HPQ.out)
        have M3 : ∀ i, (Wc i).cell? ⟨wo.heap.size, 3, none⟩ = some (.int .i64 p.up) := fun i => (cell_of_heap_eq (p := ⟨wo.heap.size, 3, none⟩) (hWc i _ (.inl rfl))).trans (cell_of_row _ _ 3 _ _ _ HPQ.out)
        have ML : ∀ i, (Instr.lookup 196 (.map (some (w.heap.size + 1))) (.int .i64 p.at_) false).run Tryz.prog (Wc i) = .ok (.slice A7 O.length c7) (Wc i) := fun i => by
          have hq := (HFQ.out.map.held (hWc i _ (.inr rfl))).lookup mlaw Tryz.underlying196 (zeroParts (Wc i)) (keyI hpa)
          rw [HF7.out] at hq
          exact hq
        have WS := hid Wsur; clear Wsur
        clear hWc
        have Hi0 := hid hi0'; clear hi0'
        refine region_anyL (S := fun w' => ∃ i, w' = Wc i) (last := 10) (by kernel_rfl) ?_
        refine anyL_seg 0 8 (by kernel_rfl) (fun _ _ _ _ _ h => h) ⟨i0, Hi0.out.symm⟩ (f := 3) rfl (by kernel_rfl) (by kernel_rfl) ?_
        simp only [List.drop_zero, List.take_succ_cons, List.take_zero]
        repeat go_big_quiet_step (fail)
        refine wpQuiet_nil ?_
        refine anyL_act (i := 8) (by kernel_rfl) rfl rfl ?_
        intro K hK
        go_wp2_with fail
        have hS1 : ∃ i, (wq.alloc (.cells #[.int .i64 p.at_, .int .i64 p.drop, .int .i64 p.take, .int .i64 p.up] 72)).drew = Wc i := WS.out _ (fun g hg => Below.heap_alloc _ _ _ (by have := HFQ.out.map.lt; rcases hg with rfl | rfl <;> omega))
        refine hK.out _ _ (fun _ => hS1) ?_
        clear hK K
        have hown8 := HFQ.out.own p.at_
        rw [HF7.out, ← HO.out] at hown8
        refine anyL_act (i := 9) (by kernel_rfl) rfl rfl ?_
        intro K hK
        refine act_append_at _ _ 67 rfl (w.heap.size + 2) 72 infp _ 4 32 Tryz.underlying67 hip hzp0 hzp1 hzp2 rfl (by decide) (.slice A7 O.length c7) O.length _ rfl (show ((wq.alloc (.cells #[.int .i64 p.at_, .int .i64 p.drop, .int .i64 p.take, .int .i64 p.up] 72)).drew).ownsRow _ _ _ _ _ _ from hown8.1.alloc _) ⟨wq.heap.size, 0, none⟩ 1 1 [.int .i64 p.at_, .int .i64 p.drop, .int .i64 p.take, .int .i64 p.up] rfl rfl (news_at (w := wq) (cs := #[_, _, _, _]) rfl) (by simp [Value.oneCell']) (by unfold maxLen; omega) (by omega) (by have := HFQ.out.map.lt; simp; omega) ?_
        intro v' w6 hown' hgrow _ hloc
        have hlt6 := HFQ.out.map.lt
        have hz6 : wq.heap.size + 1 ≤ w6.heap.size := by have := hgrow.size; simpa using this
        have hnB6 : ∀ g, (g = wo.heap.size ∨ g = w.heap.size + 1) → w6.heap[g]? = wq.heap[g]? := fun g hg => by
          have hgl : g < wq.heap.size := by rcases hg with rfl | rfl <;> omega
          rw [hgrow.block g (by simp; omega) (fun e => ?_)]
          · exact Below.heap_alloc _ _ _ hgl
          · rcases hg with rfl | rfl
            · exact absurd (HFL.out _ (by rw [HF7.out]; exact e.symm)) (by omega)
            · have := (hown8.1.lt _ e.symm).1
              omega
        have hS2 : ∃ i, w6 = Wc i := WS.out _ (fun g hg => hnB6 g hg)
        refine hK.out _ _ (fun _ => hS2) ?_
        clear hK K
        have ho6 : OwnP w6 (w.heap.size + 2) v' (O ++ [p]) := OwnP.push (x := p) hown' hown8.2 HOK.out
        obtain ⟨w7, hrun, hf7, hg7⟩ := HFQ.out.put (by unfold maxLen; omega) HOK.out (by rw [← HO.out]; exact ho6) (⟨hgrow.os, hgrow.tape, hgrow.output, Nat.le_trans (by simp) hgrow.size, fun j hj hne => (hgrow.block j (by simp; omega) (by rw [HF7.out] at hne; exact hne)).trans (Below.heap_alloc _ _ _ hj)⟩ : wq.grownBy w6 (F p.at_).ownBlock)
          (by
            rw [HF7.out]
            rcases hloc with e | e
            · exact .inl e
            · exact .inr ⟨_, e, by simp⟩)
        rw [← HTK.out] at hf7
        have hgq : wq.grownBy w6 (Value.slice A7 O.length c7).ownBlock := ⟨hgrow.os, hgrow.tape, hgrow.output, Nat.le_trans (by simp) hgrow.size, fun j hj hne => (hgrow.block j (by simp; omega) hne).trans (Below.heap_alloc _ _ _ hj)⟩
        have hl7 := (HLQ.out.kept hgq (rows_ne HLQ.out.1 hown8.1 (by decide))).kept hg7 (.inr fun e => by
          have := (HLQ.out.1.lt _ e).1
          omega)
        have hb7 : w7.heap[w.heap.size]? = wq.heap[w.heap.size]? := by
          rw [hg7.block w.heap.size (by omega) (by simp), hgq.block w.heap.size (by omega) (fun e => by have := (hown8.1.lt _ e.symm).1; omega)]
        have hB7 : Below w.heap.size w w7 := (hBq.grown hgq hBq.size (fun j hj => by have := (hown8.1.lt j hj).1; omega)).grown hg7 (Nat.le_trans hBq.size hgq.size) (fun j hj => by cases hj; omega)
        have hz7 : w.heap.size + 2 ≤ w7.heap.size := by have := hg7.size; omega
        refine anyL_act (i := 10) (by kernel_rfl) rfl rfl ?_
        intro K hK
        refine act_mapUp (M := .map (some (w.heap.size + 1))) (X := .int .i64 p.at_) (V := v') _ _ _ rfl rfl rfl rfl hrun ?_
        refine hK.out _ _ (fun h => absurd rfl h) ?_
        clear hK K
        refine anyL_done (by kernel_rfl) ?_ _
        have HF7' := hid hf7
        have HL7' := hid hl7
        have HBX7 := hid (hb7.trans HBQ.out)
        clear hf7 hl7 hb7 hown' hgrow hloc hg7 hgq hS1 hS2 hrun ho6 hown8 M0 M1 M2 M3 ML WS Hi0 hnB6
        go_wp2_with fail
        refine ⟨⟨k + 1, _, by omega, by push_cast; rfl, HF7'.out, HL7'.out, hB7, HBX7.out, hz7⟩, ?_⟩
        simp [intOf]; omega
      · have h0' : ((O.length : Int) == 0) = false := beq_f (by omega)
        have hnm : ¬ p.at_ ∉ PL := fun e => h0 (HL7.out.2 e)
        have HPS : Hid (placesF (ps.take (k + 1)) = PL) := hid (by rw [HTK.out, placesF_snoc, ← HPL.out]; unfold placeStep; rw [if_pos (Classical.not_not.1 hnm)])
        clear hnm h0
        go_wp2_with fail
        clear h0'
        have HFQ := hid HFA.out
        have HPQ := hid HWA.out
        have HBQ := hid HBX.out
        have HLQ : Hid ((wo.alloc (.cells #[.int .i64 p.at_, .int .i64 p.drop, .int .i64 p.take, .int .i64 p.up] 72)).ownsInts (w.heap.size + 2) 3 .i64 (.slice A8 PL.length c8) (placesF (ps.take (k + 1)))) := hid (by rw [HPS.out]; exact HLA.out)
        have hBq := hBwa
        have hpo : wo.heap.size < (wo.alloc (.cells #[.int .i64 p.at_, .int .i64 p.drop, .int .i64 p.take, .int .i64 p.up] 72)).heap.size := by simp
        clear HFA HLA HBX HWA hBwa hBa hla
        generalize (wo.alloc (.cells #[.int .i64 p.at_, .int .i64 p.drop, .int .i64 p.take, .int .i64 p.up] 72)) = wq at *
        obtain ⟨ι, Wc, ⟨i0, hi0'⟩, hWc, Wsur⟩ := held_class wq.drew (fun g => g = wo.heap.size ∨ g = w.heap.size + 1)
        have hne : Nonempty ι := ⟨i0⟩
        have M0 : ∀ i, (Wc i).cell? ⟨wo.heap.size, 0, none⟩ = some (.int .i64 p.at_) := fun i => (cell_of_heap_eq (p := ⟨wo.heap.size, 0, none⟩) (hWc i _ (.inl rfl))).trans (cell_of_row _ _ 0 _ _ _ HPQ.out)
        have M1 : ∀ i, (Wc i).cell? ⟨wo.heap.size, 1, none⟩ = some (.int .i64 p.drop) := fun i => (cell_of_heap_eq (p := ⟨wo.heap.size, 1, none⟩) (hWc i _ (.inl rfl))).trans (cell_of_row _ _ 1 _ _ _ HPQ.out)
        have M2 : ∀ i, (Wc i).cell? ⟨wo.heap.size, 2, none⟩ = some (.int .i64 p.take) := fun i => (cell_of_heap_eq (p := ⟨wo.heap.size, 2, none⟩) (hWc i _ (.inl rfl))).trans (cell_of_row _ _ 2 _ _ _ HPQ.out)
        have M3 : ∀ i, (Wc i).cell? ⟨wo.heap.size, 3, none⟩ = some (.int .i64 p.up) := fun i => (cell_of_heap_eq (p := ⟨wo.heap.size, 3, none⟩) (hWc i _ (.inl rfl))).trans (cell_of_row _ _ 3 _ _ _ HPQ.out)
        have ML : ∀ i, (Instr.lookup 196 (.map (some (w.heap.size + 1))) (.int .i64 p.at_) false).run Tryz.prog (Wc i) = .ok (.slice A7 O.length c7) (Wc i) := fun i => by
          have hq := (HFQ.out.map.held (hWc i _ (.inr rfl))).lookup mlaw Tryz.underlying196 (zeroParts (Wc i)) (keyI hpa)
          rw [HF7.out] at hq
          exact hq
        have WS := hid Wsur; clear Wsur
        clear hWc
        have Hi0 := hid hi0'; clear hi0'
        refine region_anyL (S := fun w' => ∃ i, w' = Wc i) (last := 10) (by kernel_rfl) ?_
        refine anyL_seg 0 8 (by kernel_rfl) (fun _ _ _ _ _ h => h) ⟨i0, Hi0.out.symm⟩ (f := 3) rfl (by kernel_rfl) (by kernel_rfl) ?_
        simp only [List.drop_zero, List.take_succ_cons, List.take_zero]
        repeat go_big_quiet_step (fail)
        refine wpQuiet_nil ?_
        refine anyL_act (i := 8) (by kernel_rfl) rfl rfl ?_
        intro K hK
        go_wp2_with fail
        have hS1 : ∃ i, (wq.alloc (.cells #[.int .i64 p.at_, .int .i64 p.drop, .int .i64 p.take, .int .i64 p.up] 72)).drew = Wc i := WS.out _ (fun g hg => Below.heap_alloc _ _ _ (by have := HFQ.out.map.lt; rcases hg with rfl | rfl <;> omega))
        refine hK.out _ _ (fun _ => hS1) ?_
        clear hK K
        have hown8 := HFQ.out.own p.at_
        rw [HF7.out, ← HO.out] at hown8
        refine anyL_act (i := 9) (by kernel_rfl) rfl rfl ?_
        intro K hK
        refine act_append_at _ _ 67 rfl (w.heap.size + 2) 72 infp _ 4 32 Tryz.underlying67 hip hzp0 hzp1 hzp2 rfl (by decide) (.slice A7 O.length c7) O.length _ rfl (show ((wq.alloc (.cells #[.int .i64 p.at_, .int .i64 p.drop, .int .i64 p.take, .int .i64 p.up] 72)).drew).ownsRow _ _ _ _ _ _ from hown8.1.alloc _) ⟨wq.heap.size, 0, none⟩ 1 1 [.int .i64 p.at_, .int .i64 p.drop, .int .i64 p.take, .int .i64 p.up] rfl rfl (news_at (w := wq) (cs := #[_, _, _, _]) rfl) (by simp [Value.oneCell']) (by unfold maxLen; omega) (by omega) (by have := HFQ.out.map.lt; simp; omega) ?_
        intro v' w6 hown' hgrow _ hloc
        have hlt6 := HFQ.out.map.lt
        have hz6 : wq.heap.size + 1 ≤ w6.heap.size := by have := hgrow.size; simpa using this
        have hnB6 : ∀ g, (g = wo.heap.size ∨ g = w.heap.size + 1) → w6.heap[g]? = wq.heap[g]? := fun g hg => by
          have hgl : g < wq.heap.size := by rcases hg with rfl | rfl <;> omega
          rw [hgrow.block g (by simp; omega) (fun e => ?_)]
          · exact Below.heap_alloc _ _ _ hgl
          · rcases hg with rfl | rfl
            · exact absurd (HFL.out _ (by rw [HF7.out]; exact e.symm)) (by omega)
            · have := (hown8.1.lt _ e.symm).1
              omega
        have hS2 : ∃ i, w6 = Wc i := WS.out _ (fun g hg => hnB6 g hg)
        refine hK.out _ _ (fun _ => hS2) ?_
        clear hK K
        have ho6 : OwnP w6 (w.heap.size + 2) v' (O ++ [p]) := OwnP.push (x := p) hown' hown8.2 HOK.out
        obtain ⟨w7, hrun, hf7, hg7⟩ := HFQ.out.put (by unfold maxLen; omega) HOK.out (by rw [← HO.out]; exact ho6) (⟨hgrow.os, hgrow.tape, hgrow.output, Nat.le_trans (by simp) hgrow.size, fun j hj hne => (hgrow.block j (by simp; omega) (by rw [HF7.out] at hne; exact hne)).trans (Below.heap_alloc _ _ _ hj)⟩ : wq.grownBy w6 (F p.at_).ownBlock)
          (by
            rw [HF7.out]
            rcases hloc with e | e
            · exact .inl e
            · exact .inr ⟨_, e, by simp⟩)
        rw [← HTK.out] at hf7
        have hgq : wq.grownBy w6 (Value.slice A7 O.length c7).ownBlock := ⟨hgrow.os, hgrow.tape, hgrow.output, Nat.le_trans (by simp) hgrow.size, fun j hj hne => (hgrow.block j (by simp; omega) hne).trans (Below.heap_alloc _ _ _ hj)⟩
        have hl7 := (HLQ.out.kept hgq (rows_ne HLQ.out.1 hown8.1 (by decide))).kept hg7 (.inr fun e => by
          have := (HLQ.out.1.lt _ e).1
          omega)
        have hb7 : w7.heap[w.heap.size]? = wq.heap[w.heap.size]? := by
          rw [hg7.block w.heap.size (by omega) (by simp), hgq.block w.heap.size (by omega) (fun e => by have := (hown8.1.lt _ e.symm).1; omega)]
        have hB7 : Below w.heap.size w w7 := (hBq.grown hgq hBq.size (fun j hj => by have := (hown8.1.lt j hj).1; omega)).grown hg7 (Nat.le_trans hBq.size hgq.size) (fun j hj => by cases hj; omega)
        have hz7 : w.heap.size + 2 ≤ w7.heap.size := by have := hg7.size; omega
        refine anyL_act (i := 10) (by kernel_rfl) rfl rfl ?_
        intro K hK
        refine act_mapUp (M := .map (some (w.heap.size + 1))) (X := .int .i64 p.at_) (V := v') _ _ _ rfl rfl rfl rfl hrun ?_
        refine hK.out _ _ (fun h => absurd rfl h) ?_
        clear hK K
        refine anyL_done (by kernel_rfl) ?_ _
        have HF7' := hid hf7
        have HL7' := hid hl7
        have HBX7 := hid (hb7.trans HBQ.out)
        clear hf7 hl7 hb7 hown' hgrow hloc hg7 hgq hS1 hS2 hrun ho6 hown8 M0 M1 M2 M3 ML WS Hi0 hnB6
        go_wp2_with fail
        refine ⟨⟨k + 1, _, by omega, by push_cast; rfl, HF7'.out, HL7'.out, hB7, HBX7.out, hz7⟩, ?_⟩
        simp [intOf]; omega
    · obtain rfl : k = ps.length := by omega
      rw [List.take_length] at hf hpl
      obtain ⟨A8, c8, rfl, hc8, hm8⟩ := list_form (intsR hpl)
      have hpll : (placesF ps).length ≤ 4 := by have := places_le ps; omega
      have hplr := intsR hpl
      clear hrw
      have hn1 := own_new (w := wo) (e := 75) (x := ⟨ts, ts⟩) ⟨⟨by dsimp only; omega, by dsimp only; omega⟩, ⟨by dsimp only; omega, by dsimp only; omega⟩⟩
      dsimp only at hn1
      have hBo := (Below.refl wo.heap.size wo).alloc (Nat.le_refl _) (.cells #[.int .i64 ts, .int .i64 ts] 75)
      have hsb : wo.cell? ⟨w.heap.size, 4, none⟩ = some (.int .i64 ts) := cell_of_row _ _ 4 _ _ _ hbox
      go_wp2_with fail
      have hfb := hf.below hBo
      have hplb := (listR intR).later hplr hBo
      have hBwb : Below w.heap.size w _ := hB.trans (hBo.mono hB.size)
      have hsz2 : wo.heap.size ≤ (wo.alloc (.cells #[.int .i64 ts, .int .i64 ts] 75)).heap.size := by simp
      generalize wo.alloc (.cells #[.int .i64 ts, .int .i64 ts] 75) = wb at *
      have hfold : ∀ j, neL (outJ ps sets ts j) ∧ inB 300000000 (outJ ps sets ts j) ∧ (outJ ps sets ts j).length ≤ 300000001 := fun j => by
        have hcnt : cntF ps ((placesF ps).take j) ≤ 4 := by
          have h1 := cntF_take ps (placesF ps) j
          rw [cntF_all (places_nodup ps) (fun p hp => mem_placesF.2 ⟨p, hp, rfl⟩)] at h1
          omega
        obtain ⟨h1, h2, _⟩ := vals_fold (ps := ps) (sets := sets) (fun p hp => (rightP_iff.1 (hr p hp)).2.2) n5 (fun g hg => (hgs g hg).1) (qs := (placesF ps).take j) (out := [⟨ts, ts⟩]) (n := 1114111) (fun a ha => by
          obtain ⟨p, hp, rfl⟩ := mem_placesF.1 (List.mem_of_mem_take ha)
          have := rightP_iff.1 (hr p hp)
          exact ⟨sets[p.at_.toNat]'(by omega), List.getElem?_eq_getElem (by omega)⟩) ((places_nodup ps).sublist (List.take_sublist _ _))
          (fun s hs => by simp at hs; subst hs; exact Int.le_refl _) (fun s hs => by simp at hs; subst hs; exact hsum) (by omega) (by decide)
        have h3 : inB 300000000 (outJ ps sets ts j) := fun s hs => by have := h2 s hs; omega
        refine ⟨h1, h3, ?_⟩
        rcases outJ_plain ps sets ts j with h4 | h4
        · exact plain_len (n := 300000000) h4 h3
        · rw [h4]; simp
      have hvF : valuesF ⟨tb, td, tk, tu, ts, ps⟩ sets = outJ ps sets ts (placesF ps).length := by unfold valuesF outJ; rw [List.take_length]
      have hpl2 := valuesF_plain' (t := ⟨tb, td, tk, tu, ts, ps⟩) n2 sets
      rw [hvF] at hpl2
      have HVF := hid hvF
      clear hvF
      go_loopw [55, 10] (fun vi vo wr => ∃ j : Nat, j ≤ (placesF ps).length ∧ vi = .int .i64 j ∧ OwnS 75 wr wo.heap.size vo (outJ ps sets ts j) ∧ Below wb.heap.size wb wr) (fun vi _ _ => (placesF ps).length - (intOf vi).toNat)
      case atStart => exact ⟨0, Nat.zero_le _, rfl, by simpa [outJ] using hn1, Below.refl _ _⟩
      case round =>
        obtain ⟨j, hj, rfl, hoj, hBj⟩ := hrel
        obtain ⟨wi, hwi⟩ : ∃ wi, wi = wr := ⟨_, rfl⟩
        subst hwi
        obtain ⟨f1, f2, f3⟩ := hfold j
        have hBwi : Below w.heap.size w wi := hBwb.trans (hBj.mono hBwb.size)
        have hprw := (listR intR).later hplb hBj
        have hfi := hfb.below hBj
        obtain ⟨A9, c9, hv9, hc9, hm9⟩ := list_form hoj.rel
        subst hv9
        by_cases hjl : j < (placesF ps).length
        · obtain ⟨a, ha⟩ := at_lt hjl
          have hjl' : (j : Int) < (placesF ps).length := by omega
          obtain ⟨pb, po, va, rfl, hpbS, ⟨hva, ha64⟩, hca⟩ := list_at1 rfl hprw ha
          simp at hva
          subst hva
          obtain ⟨p, hp, hpa⟩ := mem_placesF.1 (List.mem_of_getElem? ha)
          have hrp := rightP_iff.1 (hr p hp)
          rw [hpa] at hrp
          obtain ⟨an, han⟩ : ∃ an : Nat, a = an := ⟨a.toNat, by omega⟩
          subst han
          obtain ⟨g, hg⟩ := at_lt (xs := sets) (i := an) (by omega)
          have hgg := hgs g (List.mem_of_getElem? hg)
          have hsr := (listR spansR).mono (below_cells hBwi) (fun _ h => h) hs
          obtain ⟨gb, go, gv, rfl, hgbS, hgr, hcg⟩ := list_at1 rfl hsr hg
          obtain ⟨A10, c10, rfl, hc10, hm10⟩ := list_form hgr
          have hstep : Hid (outJ ps sets ts (j + 1) = plusF (outJ ps sets ts j) (togF (ofAt ps an) g)) := hid (by
            rw [outJ_succ ha]
            unfold valsGo
            rw [show ((an : Nat) : Int).toNat = an by omega, hg, Option.getD_some])
          have hbo : ∀ q ∈ ofAt ps an, bitsF q = true := fun q hq => (rightP_iff.1 (hr q (ofAt_sub hq))).2.2
          have hlo : (ofAt ps an).length ≤ 4 := Nat.le_trans (ofAt_len ps an) n5
          have htl := togF_len hbo hgg.1 hgg.2
          have htn := plain_ne (togF_plain (ofAt ps an) g)
          have htb : inB 300000000 (togF (ofAt ps an) g) := mem_inB htn fun z hz => by
            obtain ⟨x, _, rfl⟩ := (mem_togF hbo hlo hgg.1).1 hz
            have := sumP_bd hbo x
            omega
          have HT := hid (together_calls (ofAt ps an) g (F an) (.slice A10 g.length c10) wi.drew ((hfi.own an).rel) (spansR.mono (fun _ _ => rfl) (fun b hb => Nat.lt_of_lt_of_le hb hBwi.size) hgr) hlo hbo (by omega) hgg.1)
          have HPL := hid fun (z : Value) (W : World) (hW : Below wi.heap.size wi W) (hz : OwnS 75 W wi.heap.size z (togF (ofAt ps an) g)) => plus_calls (outJ ps sets ts j) (togF (ofAt ps an) g) _ z W (spansR.below hoj.rel hW hW.size) hz.rel htl (by omega) f1 htn f2 htb
          obtain ⟨FA, hFA⟩ : ∃ FA, FA = F an := ⟨_, rfl⟩
          rw [← hFA] at HT
          have hown := (hfi.own an).1
          obtain ⟨A11, c11, hF11, hc11, hm11⟩ := list_form (hfi.own an).rel
          rw [← hFA] at hF11
          have hgbs : gb < wi.heap.size := Nat.lt_of_lt_of_le hgbS hBwi.size
          have HFI := hid hfi
          have HFA := hid hFA
          have HG := hid hcg
          have HOJ := hid hoj
          have an2 : (an : Int) < sets.length := by omega
          clear hsr hgr hg hfi hrp hp hoj htb htn htl f1 f2 hFA
          subst hF11
          go_wp2_with fail
          obtain ⟨ι, Wi, ⟨i0, hi0⟩, hW, Wsur⟩ := ext_class wi.drew
          have hne : Nonempty ι := ⟨i0⟩
          have WS := hid Wsur; clear Wsur
          have HW := hid hW; clear hW
          have Hi0 := hid hi0; clear hi0
          refine region_anyL (S := fun w' => ∃ i, w' = Wi i) (last := 11) (by kernel_rfl) ?_
          have ML : ∀ i, (Instr.lookup 196 (.map (some (w.heap.size + 1))) (.int .i64 an) false).run Tryz.prog (Wi i) = .ok (.slice A11 (ofAt ps an).length c11) (Wi i) := fun i => by
            have hq := (HFI.out.below (w' := Wi i) ⟨(HW.out i).os, (HW.out i).tape, (HW.out i).output, (HW.out i).size, (HW.out i).block⟩).lookup ha64
            rw [← HFA.out] at hq
            exact hq
          have MG : ∀ i, (Wi i).cell? ⟨gb, go + an, none⟩ = some (.slice A10 g.length c10) := fun i => ((HW.out i).cell (p := ⟨gb, go + an, none⟩) hgbs).trans HG.out
          refine anyL_seg 0 8 (by kernel_rfl) (fun _ _ _ _ _ h => h) ⟨i0, Hi0.out.symm⟩ (f := 3) rfl (by kernel_rfl) (by kernel_rfl) ?_
          simp only [List.drop_zero, List.take_succ_cons, List.take_zero]
          repeat go_big_quiet_step (fail)
          refine wpQuiet_nil ?_
          refine anyL_act (i := 8) (by kernel_rfl) rfl rfl ?_
          intro K hK
          go_wp2_with fail
          refine (HT.out).mono ?_
          rintro e w7 ⟨z, rfl, hoz, hB7⟩
          have hS7 := WS.out i0 w7 (by rw [Hi0.out]; exact hB7)
          have hB7' : Below wi.heap.size wi w7 := ⟨hB7.os, hB7.tape, hB7.output, hB7.size, hB7.block⟩
          have HP7 := hid (HPL.out z w7 hB7' hoz)
          obtain ⟨A12, c12, rfl, hc12, hm12⟩ := list_form hoz.rel
          clear hoz hB7
          go_wp2_with fail
          refine hK.out _ _ (fun _ => hS7) ?_
          clear hK K
          obtain ⟨i7, hi7⟩ := hS7
          have Hi7 : Hid (Wi i7 = w7) := hid hi7.symm; clear hi7
          refine anyL_act (i := 9) (by kernel_rfl) rfl rfl ?_
          intro K hK
          go_wp2_with fail
          refine (HP7.out).mono ?_
          rintro e w8 ⟨z8, rfl, ho8, hB8⟩
          have hS8 := WS.out i7 w8 (by rw [Hi7.out]; exact hB8)
          have hB8w : Below wb.heap.size wi w8 := (hB7'.trans (hB8.mono hB7'.size)).mono hBj.size
          have hb78 : wo.heap.size ≤ w7.heap.size := Nat.le_trans hsz2 (Nat.le_trans hBj.size hB7'.size)
          obtain ⟨A13, c13, rfl, hc13, hm13⟩ := list_form ho8.rel
          clear hB8
          go_wp2_with fail
          refine hK.out _ _ (fun _ => hS8) ?_
          clear hK K
          refine anyL_seg 10 1 (by kernel_rfl) (fun _ _ _ _ _ h => h) hS8 (f := 0) rfl (by kernel_rfl) (by kernel_rfl) ?_
          simp only [List.drop_succ_cons, List.drop_zero, List.take_succ_cons, List.take_zero]
          repeat go_big_quiet_step (fail)
          refine wpQuiet_nil ?_
          refine anyL_done (by kernel_rfl) ?_ 0
          go_wp2_with fail
          refine ⟨⟨j + 1, by omega, by push_cast; rfl, by rw [hstep.out]; exact ho8.base hb78, hBj.trans hB8w⟩, ?_⟩
          simp [intOf]; omega
        · obtain rfl : j = (placesF ps).length := by omega
          rw [← HVF.out] at hoj f3
          have hpn := normF_id (l := valuesF ⟨tb, td, tk, tu, ts, ps⟩ sets) (by rw [HVF.out]; exact hpl2)
          have hF1 := First_calls (valuesF ⟨tb, td, tk, tu, ts, ps⟩ sets) _ wi hoj.rel (by omega)
          have hF2 := fun W (hW : Below wi.heap.size wi W) => Last_calls (valuesF ⟨tb, td, tk, tu, ts, ps⟩ sets) _ W (spansR.below hoj.rel hW hW.size) (by omega)
          rw [hpn] at hF1
          simp only [hpn] at hF2
          have HL2 := hid hF2
          have hov : Hid (okV (valuesF ⟨tb, td, tk, tu, ts, ps⟩ sets) = (!(valuesF ⟨tb, td, tk, tu, ts, ps⟩ sets).isEmpty && decide (0 ≤ headLo (valuesF ⟨tb, td, tk, tu, ts, ps⟩ sets)) && decide (lastHi (valuesF ⟨tb, td, tk, tu, ts, ps⟩ sets) ≤ 1114111))) := hid rfl
          rw [← HVF.out] at hc9
          obtain ⟨V, hV⟩ : ∃ V, V = valuesF ⟨tb, td, tk, tu, ts, ps⟩ sets := ⟨_, rfl⟩
          rw [← hV] at hF1 HL2 hov hoj hc9 HVF
          have HV := hid hV
          have HO3 := hid hoj
          have hlo := hc9
          obtain ⟨lo, hlo'⟩ : ∃ lo, lo = headLo V := ⟨_, rfl⟩
          obtain ⟨hi, hhi'⟩ : ∃ hi, hi = lastHi V := ⟨_, rfl⟩
          rw [← hlo'] at hF1 hov
          rw [← hhi'] at HL2 hov
          have hlen9 : (outJ ps sets ts (placesF ps).length).length = V.length := by rw [HVF.out]
          simp only [hlen9] at hF1 HL2 HO3 ⊢
          have hve : V.isEmpty = decide (V.length = 0) := by cases V <;> simp
          rw [hve] at hov hF1 HL2
          clear hoj hF2 hV hlo' hhi' hpn hprw hfi hlen9 hve
          go_wp2_with fail
          refine hF1.mono ?_
          rintro e w6 ⟨rfl, hB6⟩
          go_wp2_with fail
          refine (HL2.out _ hB6).mono ?_
          rintro e w7 ⟨rfl, hB7⟩
          have hBw7 : Below w.heap.size w w7 := hBwi.trans ((hB6.trans (hB7.mono hB6.size)).mono hBwi.size)
          have hown7 : OwnS 75 w7 w.heap.size (.slice A9 V.length c9) V := ⟨own_below' (own_below' (ownsRow_base HO3.out.1 hB.size) hB6) hB7, HO3.out.2⟩
          by_cases e0 : V.length = 0
          · have e1 : ¬ (0 : Int) < V.length := by omega
            have hK : Hid (okV (valuesF ⟨tb, td, tk, tu, ts, ps⟩ sets) = false) := hid (by rw [← HV.out, hov.out, e0]; rfl)
            clear e0 hov
            go_wp2_with fail
            go_ret2
            refine ⟨.slice A9 V.length c9, ?_, by rw [← HV.out]; exact hown7, hBw7⟩
            rw [hK.out]
            rfl
          · have e1 : (0 : Int) < V.length := by omega
            by_cases e2 : 0 ≤ lo
            · by_cases e3 : hi ≤ 1114111
              · have hK : Hid (okV (valuesF ⟨tb, td, tk, tu, ts, ps⟩ sets) = true) := hid (by rw [← HV.out, hov.out]; simp [e0, e2, e3])
                clear e0 hov
                go_wp2_with fail
                go_ret2
                refine ⟨.slice A9 V.length c9, ?_, by rw [← HV.out]; exact hown7, hBw7⟩
                rw [hK.out]
                rfl
              · have hK : Hid (okV (valuesF ⟨tb, td, tk, tu, ts, ps⟩ sets) = false) := hid (by rw [← HV.out, hov.out]; simp [e3])
                have e3' := decide_eq_false e3
                clear e0 hov
                go_wp2_with fail
                go_ret2
                refine ⟨.slice A9 V.length c9, ?_, by rw [← HV.out]; exact hown7, hBw7⟩
                rw [hK.out]
                rfl
            · have hK : Hid (okV (valuesF ⟨tb, td, tk, tu, ts, ps⟩ sets) = false) := hid (by rw [← HV.out, hov.out]; simp [e2])
              clear e0 hov
              go_wp2_with fail
              go_ret2
              refine ⟨.slice A9 V.length c9, ?_, by rw [← HV.out]; exact hown7, hBw7⟩
              rw [hK.out]
              rfl
end Go.Proofs.YthfcbbdghggefaaGreat
