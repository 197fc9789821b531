/-
  span.Norm and span.Meet: what they answer. Walks over span, word and desc that the statements of layer 16 reach.
-/
import Derived.Test.YthfcbbdghggefaaGreatRows
import Derived.Test.YthfcbbdghggefaaGreatShelf
import Derived.Test.YthfcbbdghggefaaGreatPa
namespace Go.Proofs.YthfcbbdghggefaaGreat
open Go.RowKit Go.Um Go.Sort Go.Shelf
theorem info46 : (Tryz.prog.info? 75).map (fun i => (i.zero, i.size, i.bytes)) = some (some (.agg #[.int .i64 0, .int .i64 0]), 2, 16) := by kernel_rfl
theorem isAgg46 : ∀ w, (isAgg 75).run Tryz.prog w = .ok true w := fun _ => by kernel_rfl
theorem sizeOf46 : ∀ w, (Go.sizeOf 75).run Tryz.prog w = .ok 2 w := fun _ => by kernel_rfl

set_option maxHeartbeats 1000000 in
/-- the closure that Norm hands to the sort. -/
theorem cmp_calls (x y : Span) (W : World) : Calls Tryz.prog 113 #[.agg #[.int .i64 x.lo, .int .i64 x.hi], .agg #[.int .i64 y.lo, .int .i64 y.hi]] W fun e w' => e = .returned (.int .i64 (Lib.compareInt x.lo y.lo)) ∧ ∃ q os', w' = grow (W.drewN q) os' := by
  have hcon := fun W' => Tryz.cmp_Compare_int x.lo y.lo W'
  generalize Lib.compareInt x.lo y.lo = r at hcon ⊢
  have HC := hid hcon; clear hcon
  go_enter Tryz.func113, Tryz.ntmps113
  go_wp2_with fail
  refine (HC.out _).mono ?_
  rintro e w' ⟨rfl, rfl⟩
  go_wp2_with fail
  go_ret
  exact ⟨rfl, 0, _, by rw [alloc_eq_grow, alloc_eq_grow, grow_grow]; rfl⟩

theorem sort_calls {base g cap : Nat} {xs : List Span} (w : World) (h : OwnS 75 w base (.slice (some ⟨g, 0, none⟩) xs.length cap) xs) (hsz : xs.length < 4611686018427387904) :
    Calls Tryz.prog 112 #[.slice (some ⟨g, 0, none⟩) xs.length cap, .func (.func 113) #[] #[]] w fun e w' => e = .returned (.tuple #[]) ∧ ∃ ys, ys.Perm xs ∧ SortedLo ys ∧ OwnS 75 w' base (.slice (some ⟨g, 0, none⟩) ys.length cap) ys ∧ w.grownBy w' (some g) := by
  have eg : ∀ args w, (callFunc 113 args).run Tryz.prog w = .ok (.enter 113 args) w := enters_of Tryz.func113 (by kernel_rfl) rfl
  have hblk : g < w.heap.size := (h.1.lt g rfl).2
  have hcon := AnyQ.slices_SortFunc Tryz.sortSpan 2 isAgg46 sizeOf46 Span.cells (fun _ => rfl) (fun x v hv => by simp [Span.cells] at hv; rcases hv with rfl | rfl <;> rfl) (fun x y => Lib.compareInt x.lo y.lo) swoLo 113 #[] g 0 cap xs.toArray w eg
    (fun _ _ _ _ x y => cmp_calls x y _) h.holds hblk (by simpa using hsz)
  refine (show Calls Tryz.prog 112 _ _ _ from hcon).mono ?_
  rintro e w' ⟨rfl, d', n, os, hp, hs, rfl⟩
  have hsize : d'.size = xs.toArray.size := hp.1
  have hperm : d'.toList.Perm xs := by simpa using perm_of hp
  rw [← hsize] at hs
  have hsort := sortedLo_of hs
  have h2 := h.sorted (n := n) (os := os) hperm
  have e1 : d'.toList.toArray = d' := by simp
  rw [e1] at h2
  refine ⟨rfl, d'.toList, hperm, hsort, ?_, h2.2⟩
  have hl := hperm.length_eq
  rw [hl]
  exact h2.1
theorem clampS_yes {s : Span} (h : max s.lo (-1073741824) ≤ min s.hi 1073741824) : clampS s = some ⟨max s.lo (-1073741824), min s.hi 1073741824⟩ := by simp only [clampS, if_pos h]
theorem clampS_no {s : Span} (h : ¬ max s.lo (-1073741824) ≤ min s.hi 1073741824) : clampS s = none := by simp only [clampS, if_neg h]
theorem clampL_yes {s : Span} {r : List Span} (h : max s.lo (-1073741824) ≤ min s.hi 1073741824) : clampL (s :: r) = ⟨max s.lo (-1073741824), min s.hi 1073741824⟩ :: clampL r := by
  unfold clampL; rw [List.filterMap_cons, clampS_yes h]
theorem clampL_no {s : Span} {r : List Span} (h : ¬ max s.lo (-1073741824) ≤ min s.hi 1073741824) : clampL (s :: r) = clampL r := by
  unfold clampL; rw [List.filterMap_cons, clampS_no h]

set_option maxHeartbeats 2000000 in
set_option maxRecDepth 100000 in
theorem Norm_calls (l : List Span) (v : Value) (w : World) (h : spansR.rel w (upto w.heap.size) [v] l) (hl : l.length ≤ 1073741824) :
    Calls Tryz.prog 95 #[v] w fun e w' => ∃ u, e = .returned u ∧ OwnS 75 w' w.heap.size u (normF l) ∧ RowKit.Below w.heap.size w w' := by
  obtain ⟨inf, hi0, hz0, hz1, hz2⟩ := info_parts info46
  obtain ⟨A, c, rfl, hc, hm⟩ := list_form h
  unfold maxLen at hm
  have hmk := make_rowN (P := Tryz.prog) 76 75 inf _ Tryz.underlying76 hi0 hz0 .i64 .i64 0 l.length (Nat.zero_le _) (by rw [hz2]; omega) (by omega)
  simp only [Int.natCast_zero] at hmk
  go_enter Tryz.func95, Tryz.ntmps95
  go_wp2
  have hlen : (madeCells #[Value.int .i64 0, Value.int .i64 0] (l.length * 2)).size = l.length * 2 := by simp [madeCells]
  have hB0 : RowKit.Below w.heap.size w (w.alloc (.cells (madeCells #[Value.int .i64 0, Value.int .i64 0] (l.length * 2)) 75)) := (RowKit.Below.refl _ _).alloc (Nat.le_refl _) _
  go_loopw [3, 15] (fun vin vi wr => ∃ (k : Nat) (xs : List Span) (g cap : Nat), k ≤ l.length ∧ vi = .int .i64 k ∧ vin = .slice (some ⟨g, 0, none⟩) xs.length cap ∧ xs.length ≤ k ∧ OwnS 75 wr w.heap.size (.slice (some ⟨g, 0, none⟩) xs.length cap) xs ∧ xs ++ clampL (l.drop k) = clampL l ∧ RowKit.Below w.heap.size w wr)
    (fun _ vi _ => l.length - (intOf vi).toNat)
  case atStart =>
    exact ⟨0, [], _, _, Nat.zero_le _, rfl, rfl, Nat.zero_le _, ⟨World.ownsRow_made w _ _ (Nat.le_refl _) (by unfold maxLen; omega) hlen, by simp⟩, by simp, hB0⟩
  case round =>
    clear hmk hlen hB0
    obtain ⟨k, xs, g, cap, hk, rfl, rfl, hxk, ho, hxs, hB⟩ := hrel
    have HX := hid hxs; clear hxs
    have hr := spansR.mono (below_cells hB) (fun _ h => h) h
    by_cases hlt : k < l.length
    · obtain ⟨x, hx⟩ := at_lt hlt
      obtain ⟨b1, o1, rfl, hb1, h1, h2, hp1, hp2⟩ := span_at hr hx
      have hlt' : (k : Int) < l.length := by omega
      have HD := hid (drop_cons hx)
      clear hx hr
      have hsz := hB.size
      by_cases hle : max x.lo (-1073741824) ≤ min x.hi 1073741824
      · have HX2 : Hid ((xs ++ [⟨max x.lo (-1073741824), min x.hi 1073741824⟩]) ++ clampL (l.drop (k + 1)) = clampL l) := hid (by have := HX.out; rw [HD.out, clampL_yes hle] at this; simpa using this)
        go_wp2_with (at_builtin; refine Hid.out ?_)
        refine hid ?_
        refine wpList_append_own _ rfl _ _ 76 rfl w.heap.size 75 inf _ 2 16 Tryz.underlying76 hi0 hz0 hz1 hz2 rfl (by decide) _ _ _ rfl ((ho.1.alloc _).alloc _) ⟨wr.heap.size + 1, 0, none⟩ 1 1 [.int .i64 (max x.lo (-1073741824)), .int .i64 (min x.hi 1073741824)] rfl rfl
          (news_at (w := wr.alloc _) (cs := #[_, _]) (by simp)) (by simp [Value.oneCell']) (by unfold maxLen; omega) (by omega) (by simp; omega) ?_
        intro v' w3 hown3 hg3 hn3
        have hB3 : RowKit.Below w.heap.size w w3 := ((hB.alloc hsz _).alloc (by simp; omega) _).trans (below_grown ((ho.1.alloc _).alloc _) hg3 (Nat.le_refl _) (by simp; omega))
        obtain ⟨g3, cap3, rfl⟩ := own_form hown3 (by omega)
        have ho3 : OwnS 75 w3 w.heap.size (.slice (some ⟨g3, 0, none⟩) (xs.length + 1) cap3) (xs ++ [⟨max x.lo (-1073741824), min x.hi 1073741824⟩]) := OwnS.push hown3 ho.2 ⟨I64.of (by show _ ≤ max x.lo _; omega) (by show max x.lo _ ≤ _; omega), I64.of (by show _ ≤ min x.hi _; omega) (by show min x.hi _ ≤ _; omega)⟩
        clear hown3 hg3 hn3
        go_wp2_with fail
        refine ⟨⟨k + 1, xs ++ [⟨max x.lo (-1073741824), min x.hi 1073741824⟩], g3, cap3, by omega, by go_num, by simp, by simp; omega, by simpa using ho3, HX2.out, hB3⟩, ?_⟩
        simp [intOf]; omega
      · have HX2 : Hid (xs ++ clampL (l.drop (k + 1)) = clampL l) := hid (by have := HX.out; rw [HD.out, clampL_no hle] at this; exact this)
        go_wp2_with fail
        refine ⟨⟨k + 1, xs, g, cap, by omega, by go_num, rfl, by omega, ⟨ho.1.alloc _, ho.2⟩, HX2.out, hB.alloc hsz _⟩, ?_⟩
        simp [intOf]; omega
    · have hke : k = l.length := by omega
      subst hke
      have hxl : Hid (xs = clampL l) := hid (by have := HX.out; simpa [clampL] using this)
      clear HX hr hk hlt
      go_wp2_with fail
      refine (sort_calls _ ho (by omega)).mono ?_
      rintro e w2 ⟨rfl, ys, hperm, hsort, ho2, hg2⟩
      have HS := hid hsort; clear hsort
      have HP := hid hperm; clear hperm
      have hyl : ys.length = xs.length := HP.out.length_eq
      have hB2 : RowKit.Below w.heap.size w w2 := hB.trans ((RowKit.Below.refl _ wr).grown hg2 hB.size (fun k hk => by cases hk; exact (ho.1.lt g rfl).1))
      have hgb := (ho.1.lt g rfl).1
      have hG := RowG.start ho2
      have hcap := ho2.1.2
      have hcl : xs.length ≤ cap ∧ cap ≤ maxLen := by
        rcases ho.1.2 with ⟨h0, _⟩ | ⟨g', cap', cur, hv, _, _, hn, hc', _, _⟩
        · cases h0
        · cases hv; exact ⟨hn, hc'⟩
      have hyok : ∀ y ∈ ys, okS y := fun y hy => clampL_ok y (by rw [← hxl.out]; exact HP.out.mem_iff.1 hy)
      have HJ : Hid (joinL [] ys = normF l) := hid (joinL_eq (by rw [← hxl.out]; exact HP.out) HS.out)
      clear ho ho2 hcap hg2 hB HS
      go_wp2_with fail
      go_loopw [6, 43] (fun vo vi wr => ∃ (i : Nat) (outs : List Span), i ≤ xs.length ∧ vi = .int .i64 i ∧ vo = .slice (some ⟨g, 0, none⟩) outs.length cap ∧ RowG wr 75 g cap outs ys i ∧ joinL outs (ys.drop i) = normF l ∧ (∀ y ∈ outs, okS y) ∧ RowKit.Below w.heap.size w wr)
        (fun _ vi _ => xs.length - (intOf vi).toNat)
      case atStart => exact ⟨0, [], Nat.zero_le _, rfl, rfl, hG, HJ.out, by simp, hB2⟩
      case round =>
        clear hG HJ hB2
        obtain ⟨i, outs, hi, rfl, rfl, hG, hj, hok, hB⟩ := hrel
        have HJ := hid hj; clear hj
        by_cases hlt : i < xs.length
        · obtain ⟨x, hx⟩ := at_lt (show i < ys.length by omega)
          have hxo := hyok x (List.mem_of_getElem? hx)
          have hc1 := (hG.in_cell (Nat.le_refl i) hx).1
          have hc2 := (hG.in_cell (Nat.le_refl i) hx).2
          have HD := hid (drop_cons hx)
          have hlt' : (i : Int) < xs.length := by omega
          have hgs := hG.lt
          have houts : outs.length ≤ i := by obtain ⟨_, _, _, h3, _⟩ := hG; exact h3
          rcases List.eq_nil_or_concat outs with rfl | ⟨ini, t, hcc⟩
          · have HJ2 : Hid (joinL [x] (ys.drop (i + 1)) = normF l) := hid (by have := HJ.out; rw [HD.out] at this; exact this)
            go_wp2_with fail
            go_quiet (fail)
            go_wp2_with (at_builtin; refine Hid.out ?_)
            refine hid ?_
            have hGa := ((hG.alloc (.cells #[.int .i64 x.lo, .int .i64 x.hi] 75)).alloc (.cells #[.int .i64 x.lo, .int .i64 x.hi] 75))
            obtain ⟨cur, hcur, hcs⟩ := hGa.row
            refine wpList_append_here _ rfl _ _ 76 rfl 75 inf Tryz.underlying76 hi0 g 0 cap cur rfl hcur ⟨wr.heap.size + 1, 0, none⟩ 1 1 [.int .i64 x.lo, .int .i64 x.hi] rfl (by rw [hz1]; rfl)
              (news_at (w := wr.alloc _) (cs := #[_, _]) (by simp)) (by simp [Value.oneCell']) (by omega) (by rw [hz1]; simp only [List.length_cons, List.length_nil]; omega) ?_
            intro w5 h5 hg5
            rw [hz1] at h5
            have hG2 := hGa.push x hcur (by simp only [List.length_nil]; omega) h5
            have hB5 : RowKit.Below w.heap.size w w5 := (below_drewN (hB.alloc hB.size (.cells #[.int .i64 x.lo, .int .i64 x.hi] 75)) nq).trans (((RowKit.Below.refl _ _).alloc (by simp; have := hB.size; omega) (.cells #[.int .i64 x.lo, .int .i64 x.hi] 75)).grown hg5 (by simp; have := hB.size; omega) (fun k hk => by cases hk; exact hgb))
            clear h5 hg5 hGa hcur hcs
            go_wp2_with fail
            refine ⟨⟨i + 1, [x], by omega, by go_num, by simp, hG2, HJ2.out, by simpa using hxo, hB5⟩, ?_⟩
            simp [intOf]; omega
          · rw [List.concat_eq_append] at hcc
            subst hcc
            have htok := hok t (by simp)
            obtain ⟨ht1, ht2, ht3⟩ := htok
            have k1 : ∀ o, (wr.alloc o).cell? ⟨g, ini.length * 2 + 1, none⟩ = some (.int .i64 t.hi) := fun o => ((hG.alloc o).out_cell (j := ini.length) (x := t) (by simp)).2
            have hpos : (0 : Int) < (ini.length : Int) + 1 := by omega
            have hinl : ini.length + 1 ≤ i := by simpa using houts
            by_cases hc : x.lo ≤ t.hi + 1
            · have HJ2 : Hid (joinL (ini ++ [⟨t.lo, max t.hi x.hi⟩]) (ys.drop (i + 1)) = normF l) := hid (by have := HJ.out; rw [HD.out] at this; simp only [joinL, joinStep_yes hc] at this; exact this)
              go_wp2_with fail
              go_quiet (fail)
              go_wp2_with fail
              obtain ⟨ι, W, ⟨j0, hj0⟩, hW, Wsur⟩ := ext_class ((wr.alloc (.cells #[.int .i64 x.lo, .int .i64 x.hi] 75)).drewN nq).drew
              have hne : Nonempty ι := ⟨j0⟩
              have g1 : ∀ j, (W j).cell? ⟨g, ini.length * 2 + 1, none⟩ = some (.int .i64 t.hi) := fun j => ((hW j).cell (by simp; omega)).trans (k1 _)
              have g2 : ∀ j, (W j).cell? ⟨wr.heap.size, 1, none⟩ = some (.int .i64 x.hi) := fun j => ((hW j).cell (by simp)).trans (by go_simp)
              have kf : ∀ o, (wr.alloc o).frozen? ⟨g, ini.length * 2 + 1, none⟩ = false := fun o => (hG.alloc o).frozen _
              have e1 : (if t.hi < x.hi then x.hi else t.hi) = max t.hi x.hi := by split <;> omega
              have Hj0 := hid hj0; clear hj0
              clear Wsur hW
              refine region_anyL (S := fun w' => ∃ j, w' = W j) (last := 14) (by kernel_rfl) ?_
              refine anyL_seg 0 14 (by kernel_rfl) (fun _ _ _ _ _ h => h) ⟨j0, Hj0.out.symm⟩ (f := 1) rfl (by kernel_rfl) (by kernel_rfl) ?_
              simp only [List.drop_zero, List.take_succ_cons, List.take_zero]
              repeat go_big_quiet_step (fail)
              refine wpQuiet_nil ?_
              refine anyL_act (i := 14) (by kernel_rfl) rfl rfl ?_
              intro K hK
              go_wp2_with fail
              refine hK.out _ _ (fun h => absurd rfl h) ?_
              clear hK K
              refine anyL_done (by kernel_rfl) ?_ _
              clear g1 g2 Hj0 hne j0 W ι
              have hG2 := fun n => ((show RowG ((wr.alloc (.cells #[.int .i64 x.lo, .int .i64 x.hi] 75)).drewN n) 75 g cap (ini ++ [t]) ys i from hG.alloc _).store (max t.hi x.hi)).next
              have hB5 : ∀ n, RowKit.Below w.heap.size w (((wr.alloc (.cells #[.int .i64 x.lo, .int .i64 x.hi] 75)).drewN n).setCell ⟨g, ini.length * 2 + 1, none⟩ (.int .i64 (max t.hi x.hi))) := fun n => (below_drewN (hB.alloc hB.size _) n).setCell hgb _
              have hok2 := okS_snoc (x := ⟨t.lo, max t.hi x.hi⟩) (fun y hy => hok y (List.mem_append_left [t] hy)) (by unfold okS at hxo ⊢; refine ⟨?_, ?_, ?_⟩ <;> simp only <;> omega)
              go_wp2_with fail
              refine ⟨⟨i + 1, ini ++ [⟨t.lo, max t.hi x.hi⟩], by omega, by go_num, by simp, hG2 _, HJ2.out, hok2, hB5 _⟩, ?_⟩
              simp [intOf]; omega
            · have HJ2 : Hid (joinL ((ini ++ [t]) ++ [x]) (ys.drop (i + 1)) = normF l) := hid (by have := HJ.out; rw [HD.out] at this; simp only [joinL, joinStep_no hc] at this; exact this)
              go_wp2_with fail
              go_quiet (fail)
              go_wp2_with (at_builtin; refine Hid.out ?_)
              refine hid ?_
              have hGa := ((hG.alloc (.cells #[.int .i64 x.lo, .int .i64 x.hi] 75)).alloc (.cells #[.int .i64 x.lo, .int .i64 x.hi] 75))
              obtain ⟨cur, hcur, hcs⟩ := hGa.row
              refine wpList_append_here _ rfl _ _ 76 rfl 75 inf Tryz.underlying76 hi0 g (ini.length + 1) cap cur rfl hcur ⟨wr.heap.size + 1, 0, none⟩ 1 1 [.int .i64 x.lo, .int .i64 x.hi] rfl (by rw [hz1]; rfl)
                (news_at (w := wr.alloc _) (cs := #[_, _]) (by simp)) (by simp [Value.oneCell']) (by omega) (by rw [hz1]; simp only [List.length_cons, List.length_nil]; omega) ?_
              intro w5 h5 hg5
              rw [hz1, ← show (ini ++ [t]).length = ini.length + 1 by simp] at h5
              have hG2 := hGa.push x hcur (by simp only [List.length_append, List.length_cons, List.length_nil]; omega) h5
              have hB5 : RowKit.Below w.heap.size w w5 := (below_drewN (hB.alloc hB.size (.cells #[.int .i64 x.lo, .int .i64 x.hi] 75)) nq).trans (((RowKit.Below.refl _ _).alloc (by simp; have := hB.size; omega) (.cells #[.int .i64 x.lo, .int .i64 x.hi] 75)).grown hg5 (by simp; have := hB.size; omega) (fun k hk => by cases hk; exact hgb))
              clear h5 hg5 hGa hcur hcs
              go_wp2_with fail
              refine ⟨⟨i + 1, (ini ++ [t]) ++ [x], by omega, by go_num, by simp, hG2, HJ2.out, okS_snoc hok hxo, hB5⟩, ?_⟩
              simp [intOf]; omega
        · have hie : i = xs.length := by omega
          subst hie
          have hfin : Hid (outs = normF l) := hid (by have := HJ.out; rw [← hyl] at this; simpa [joinL] using this)
          have hol : outs.length ≤ cap := by obtain ⟨_, _, _, h3, _⟩ := hG; omega
          have hfo := hG.own hgb hol hcl.2 (fun y hy => by obtain ⟨q1, q2, q3⟩ := hok y hy; exact ⟨I64.of (by omega) (by omega), I64.of (by omega) (by omega)⟩)
          go_wp2_with fail
          go_ret
          exact ⟨_, rfl, hfin.out ▸ hfo, hB⟩
set_option maxHeartbeats 1000000 in
set_option maxRecDepth 100000 in
theorem Meet_calls (a b : List Span) (v u : Value) (w : World) (ha : spansR.rel w (upto w.heap.size) [v] a) (hb : spansR.rel w (upto w.heap.size) [u] b) (hla : a.length ≤ 1073741824) (hlb : b.length ≤ 1073741824) :
    Calls Tryz.prog 70 #[v, u] w fun e w' => ∃ x, e = .returned x ∧ OwnS 75 w' w.heap.size x (meetF a b) ∧ RowKit.Below w.heap.size w w' := by
  obtain ⟨inf, hi0, hz0, hz1, hz2⟩ := info_parts info46
  go_enter Tryz.func70, Tryz.ntmps70
  go_wp2_with fail
  refine (Norm_calls a _ _ ha hla).mono ?_
  rintro e w1 ⟨x, rfl, ho1, hb1⟩
  go_wp2_with fail
  have hb' : spansR.rel w1 (upto w1.heap.size) [u] b := spansR.below hb hb1 hb1.size
  refine (Norm_calls b _ _ hb' hlb).mono ?_
  rintro e w2 ⟨y, rfl, ho2, hb2⟩
  have rx : spansR.rel w2 (upto w2.heap.size) [x] (normF a) := spansR.below ho1.rel hb2 hb2.size
  have ry := ho2.rel
  have hw2 : RowKit.Below w.heap.size w w2 := hb1.trans (hb2.mono hb1.size)
  obtain ⟨A1, c1, rfl, hc1, hm1⟩ := list_form rx
  obtain ⟨A2, c2, rfl, hc2, hm2⟩ := list_form ry
  clear ho1 ho2 hb1 hb2 hb' ha hb
  have hlen := meetF_length a b
  go_wp2_with fail
  go_loopw [0, 1, 5] (fun va vb vo wr => ∃ (xs ys out : List Span) (A B : Option Addr) (ca cb : Nat), va = .slice A xs.length ca ∧ vb = .slice B ys.length cb ∧ spansR.rel wr (upto w2.heap.size) [.slice A xs.length ca] xs ∧
      spansR.rel wr (upto w2.heap.size) [.slice B ys.length cb] ys ∧ OwnS 75 wr w2.heap.size vo out ∧ out ++ meetGo (xs.length + ys.length) xs ys = meetF a b ∧ RowKit.Below w2.heap.size w2 wr)
    (fun va vb _ _ => lenOf va + lenOf vb)
  case atStart => exact ⟨normF a, normF b, [], A1, A2, c1, c2, rfl, rfl, rx, ry, ⟨World.ownsRow_nil _ _ _ _, by simp⟩, by simp [meetF], RowKit.Below.refl _ _⟩
  case round =>
    obtain ⟨xs, ys, out, A, B, ca, cb, rfl, rfl, hx, hy, ho, hm, hB⟩ := hrel
    have HM := hid hm; clear hm
    obtain ⟨_, hca, hcm⟩ := list_len hx
    obtain ⟨_, hcb, hcn⟩ := list_len hy
    unfold maxLen at hcm hcn
    cases xs with
    | nil =>
      have hmm : Hid (out = meetF a b) := by have := HM.out; rw [meetGo_nil_left] at this; simpa using hid this
      clear hx hy
      go_wp2_with fail
      go_ret
      exact ⟨_, rfl, hmm.out ▸ ho.base hw2.size, hw2.trans (hB.mono hw2.size)⟩
    | cons p ps =>
      cases ys with
      | nil =>
        have hmm : Hid (out = meetF a b) := by have := HM.out; rw [meetGo_nil_right] at this; simpa using hid this
        have hl1 : (0 : Int) < ((p :: ps).length : Int) := by simp
        clear hx hy
        go_wp2_with fail
        go_ret
        exact ⟨_, rfl, hmm.out ▸ ho.base hw2.size, hw2.trans (hB.mono hw2.size)⟩
      | cons q qs =>
        obtain ⟨b1, o1, rfl, hb1, h1, h2, hp1, hp2⟩ := span_at (i := 0) hx rfl
        obtain ⟨b2, o2, rfl, hb2, h3, h4, hq1, hq2⟩ := span_at (i := 0) hy rfl
        simp only [Nat.zero_mul, Nat.add_zero] at h1 h2 h3 h4
        have hl1 : (0 : Int) < ((p :: ps).length : Int) := by simp
        have hl2 : (0 : Int) < ((q :: qs).length : Int) := by simp
        go_wp2_with fail
        have lb1 : b1 < wr.heap.size := Nat.lt_of_lt_of_le hb1 hB.size
        have lb2 : b2 < wr.heap.size := Nat.lt_of_lt_of_le hb2 hB.size
        obtain ⟨ι, W, ⟨i0, hi0⟩, hW, Wsur⟩ := ext_class wr.drew
        have hne : Nonempty ι := ⟨i0⟩
        have g1 : ∀ i, (W i).cell? ⟨b1, o1, none⟩ = some (.int .i64 p.lo) := fun i => ((hW i).cell lb1).trans h1
        have g2 : ∀ i, (W i).cell? ⟨b1, o1 + 1, none⟩ = some (.int .i64 p.hi) := fun i => ((hW i).cell lb1).trans h2
        have g3 : ∀ i, (W i).cell? ⟨b2, o2, none⟩ = some (.int .i64 q.lo) := fun i => ((hW i).cell lb2).trans h3
        have g4 : ∀ i, (W i).cell? ⟨b2, o2 + 1, none⟩ = some (.int .i64 q.hi) := fun i => ((hW i).cell lb2).trans h4
        have e1 : (if p.lo < q.lo then q.lo else p.lo) = mx p.lo q.lo := rfl
        have e2 : (if q.hi < p.hi then q.hi else p.hi) = mn p.hi q.hi := rfl
        have e3 : max p.lo q.lo = mx p.lo q.lo := by unfold mx; split <;> omega
        have e4 : min p.hi q.hi = mn p.hi q.hi := by unfold mn; split <;> omega
        have WS := hid Wsur; clear Wsur
        have HW := hid hW; clear hW
        have Hi0 := hid hi0; clear hi0
        refine region_anyL (S := fun w' => ∃ i, w' = W i) (last := 20) (by kernel_rfl) ?_
        refine anyL_seg 0 19 (by kernel_rfl) (fun _ _ _ _ _ h => h) ⟨i0, Hi0.out.symm⟩ (f := 2) rfl (by kernel_rfl) (by kernel_rfl) ?_
        simp only [List.drop_zero, List.take_succ_cons, List.take_zero]
        repeat go_big_quiet_step (fail)
        refine wpQuiet_nil ?_
        refine anyL_act (i := 19) (by kernel_rfl) rfl rfl ?_
        intro K hK
        go_wp2_with fail
        refine hK.out _ _ (fun _ => WS.out i0 _ (by rw [Hi0.out]; exact (RowKit.Below.refl _ _).alloc (Nat.le_refl _) _)) ?_
        clear hK K
        refine anyL_act (i := 20) (by kernel_rfl) rfl rfl ?_
        intro K hK
        go_wp2_with fail
        refine hK.out _ _ (fun h => absurd rfl h) ?_
        clear hK K
        refine anyL_done (by kernel_rfl) ?_ _
        clear g1 g2 g3 g4 WS HW Hi0 hne i0 W ι
        have hsz := hB.size
        by_cases hle : mx p.lo q.lo ≤ mn p.hi q.hi
        · have hout : out.length + 1 ≤ 2147483648 := by
            have h5 := congrArg List.length HM.out
            by_cases hlt : p.hi < q.hi
            · rw [meet_yes_left hle hlt] at h5; simp only [List.length_append, List.length_cons] at h5; omega
            · rw [meet_yes_right hle hlt] at h5; simp only [List.length_append, List.length_cons] at h5; omega
          go_wp2_with (at_builtin; refine Hid.out ?_)
          refine hid ?_
          refine wpList_append_own _ rfl _ _ 76 rfl w2.heap.size 75 inf _ 2 16 Tryz.underlying76 hi0 hz0 hz1 hz2 rfl (by decide) _ _ _ rfl (ownsRow_drew ((ho.1.alloc _).alloc _)) ⟨wr.heap.size + 1, 0, none⟩ 1 1 [.int .i64 (mx p.lo q.lo), .int .i64 (mn p.hi q.hi)] rfl rfl
            (news_at (w := wr.alloc _) (cs := #[_, _]) (by simp)) (by simp [Value.oneCell']) (by unfold maxLen; omega) (by omega) (by simp; omega) ?_
          intro v' w3 hown3 hg3 hn3
          have hB3 : RowKit.Below w2.heap.size wr w3 := (((RowKit.Below.refl _ wr).alloc hsz _).alloc (by simp; omega) _).drew.trans (below_grown (ownsRow_drew ((ho.1.alloc _).alloc _)) hg3 (Nat.le_refl _) (by simp; omega))
          have ho3 : OwnS 75 w3 w2.heap.size v' (out ++ [⟨mx p.lo q.lo, mn p.hi q.hi⟩]) := OwnS.push hown3 ho.2 ⟨mx_ok hp1 hq1, mn_ok hp2 hq2⟩
          clear hown3 hg3 hn3
          have k2 : w3.cell? ⟨b1, o1 + 1, none⟩ = some (.int .i64 p.hi) := (hB3.cell hb1).trans h2
          have k4 : w3.cell? ⟨b2, o2 + 1, none⟩ = some (.int .i64 q.hi) := (hB3.cell hb2).trans h4
          have hx3 := spansR.mono (below_cells hB3) (fun _ h => h) hx
          have hy3 := spansR.mono (below_cells hB3) (fun _ h => h) hy
          clear hx hy h1 h2 h3 h4
          by_cases hlt : p.hi < q.hi
          · have HM2 : Hid ((out ++ [⟨mx p.lo q.lo, mn p.hi q.hi⟩]) ++ meetGo (ps.length + (q :: qs).length) ps (q :: qs) = meetF a b) := hid (by have := HM.out; rw [meet_yes_left hle hlt] at this; simpa using this)
            go_wp2_with fail
            go_quiet (fail)
            go_wp2_with fail
            refine ⟨⟨ps, q :: qs, (out ++ [⟨mx p.lo q.lo, mn p.hi q.hi⟩]), _, _, _, _, rfl, rfl, spans_tail hx3, hy3, ho3.drewN _, HM2.out, below_drewN (hB.trans hB3) _⟩, ?_⟩
            simp [lenOf]
          · have HM2 : Hid ((out ++ [⟨mx p.lo q.lo, mn p.hi q.hi⟩]) ++ meetGo ((p :: ps).length + qs.length) (p :: ps) qs = meetF a b) := hid (by have := HM.out; rw [meet_yes_right hle hlt] at this; simpa using this)
            go_wp2_with fail
            go_quiet (fail)
            go_wp2_with fail
            refine ⟨⟨p :: ps, qs, (out ++ [⟨mx p.lo q.lo, mn p.hi q.hi⟩]), _, _, _, _, rfl, rfl, hx3, spans_tail hy3, ho3.drewN _, HM2.out, below_drewN (hB.trans hB3) _⟩, ?_⟩
            simp [lenOf]
        · have hB3 : ∀ o  , RowKit.Below w2.heap.size wr (wr.alloc o) := fun o => (RowKit.Below.refl _ wr).alloc hsz _
          have k2 : ∀ o, (wr.alloc o).cell? ⟨b1, o1 + 1, none⟩ = some (.int .i64 p.hi) := fun o => ((hB3 o).cell hb1).trans h2
          have k4 : ∀ o, (wr.alloc o).cell? ⟨b2, o2 + 1, none⟩ = some (.int .i64 q.hi) := fun o => ((hB3 o).cell hb2).trans h4
          have hx3 := fun o => spansR.mono (below_cells (hB3 o)) (fun _ h => h) hx
          have hy3 := fun o => spansR.mono (below_cells (hB3 o)) (fun _ h => h) hy
          clear hx hy h1 h2 h3 h4
          by_cases hlt : p.hi < q.hi
          · have HM2 : Hid ((out) ++ meetGo (ps.length + (q :: qs).length) ps (q :: qs) = meetF a b) := hid (by have := HM.out; rw [meet_no_left hle hlt] at this; simpa using this)
            go_wp2_with fail
            go_quiet (fail)
            go_wp2_with fail
            refine ⟨⟨ps, q :: qs, (out), _, _, _, _, rfl, rfl, spans_tail (hx3 _), hy3 _, ⟨ho.1.alloc _, ho.2⟩, HM2.out, below_drewN (hB.trans (hB3 _)) _⟩, ?_⟩
            simp [lenOf]
          · have HM2 : Hid ((out) ++ meetGo ((p :: ps).length + qs.length) (p :: ps) qs = meetF a b) := hid (by have := HM.out; rw [meet_no_right hle hlt] at this; simpa using this)
            go_wp2_with fail
            go_quiet (fail)
            go_wp2_with fail
            refine ⟨⟨p :: ps, qs, (out), _, _, _, _, rfl, rfl, hx3 _, spans_tail (hy3 _), ⟨ho.1.alloc _, ho.2⟩, HM2.out, below_drewN (hB.trans (hB3 _)) _⟩, ?_⟩
            simp [lenOf]
end Go.Proofs.YthfcbbdghggefaaGreat
namespace Go.Proofs.YthfcbbdghggefaaGreat
open Go.RowKit Go.Um
set_option maxHeartbeats 400000 in
theorem Meets_calls (a b : List Span) (v u : Value) (w : World) (ha : spansR.rel w (upto w.heap.size) [v] a) (hb : spansR.rel w (upto w.heap.size) [u] b) (hla : a.length ≤ 1073741824) (hlb : b.length ≤ 1073741824) :
    Calls Tryz.prog 134 #[v, u] w fun e w' => e = .returned (.bool (!(meetF a b).isEmpty)) ∧ Below w.heap.size w w' := by
  have hc := Meet_calls a b v u w ha hb hla hlb
  have hml := meetF_length a b
  generalize meetF a b = m at hc hml ⊢
  have HC := hid hc; clear hc ha hb
  cases m with
  | nil =>
    go_enter Tryz.func134, Tryz.ntmps134
    go_wp2_with fail
    refine HC.out.mono ?_
    rintro e w1 ⟨x, rfl, ho, hB⟩
    obtain ⟨A, c, rfl, _, _⟩ := list_form ho.rel
    clear ho
    go_wp2_with fail
    go_ret
    exact ⟨by simp, hB⟩
  | cons p ps =>
    have hl : (0 : Int) < ((p :: ps).length : Int) := by simp
    have hl2 : (0 : Int) < (ps.length : Int) + 1 := by omega
    go_enter Tryz.func134, Tryz.ntmps134
    go_wp2_with fail
    refine HC.out.mono ?_
    rintro e w1 ⟨x, rfl, ho, hB⟩
    obtain ⟨A, c, rfl, _, _⟩ := list_form ho.rel
    clear ho
    go_wp2_with fail
    go_ret
    exact ⟨by simp, hB⟩

/-- word.Domain. -/
def domF (s : Int) : List Span := if s = 1 then [⟨0, 255⟩] else if s = 2 then [⟨0, 55295⟩, ⟨57344, 1114111⟩] else []
set_option maxHeartbeats 400000 in
theorem Domain_calls (s : Int) (w : World) : Calls Tryz.prog 64 #[.int .i64 s] w fun e w' => ∃ u, e = .returned u ∧ OwnS 75 w' w.heap.size u (domF s) ∧ Below w.heap.size w w' := by
  by_cases h1 : s = 1
  · subst h1
    go_enter Tryz.func64, Tryz.ntmps64
    go_wp2_with fail
    go_ret
    refine ⟨_, rfl, ⟨World.ownsRow_lit w #[.int .i64 0, .int .i64 255] 1 (Nat.le_refl _) (by decide) rfl, ?_⟩, (Below.refl _ _).alloc (Nat.le_refl _) _⟩
    intro x hx; simp [domF] at hx; subst hx; exact ⟨I64.of (by decide) (by decide), I64.of (by decide) (by decide)⟩
  · have e1 : (s == 1) = false := by simpa using h1
    by_cases h2 : s = 2
    · subst h2
      go_enter Tryz.func64, Tryz.ntmps64
      go_wp2_with fail
      go_ret
      refine ⟨_, rfl, ⟨World.ownsRow_lit w #[.int .i64 0, .int .i64 55295, .int .i64 57344, .int .i64 1114111] 2 (Nat.le_refl _) (by decide) rfl, ?_⟩, (Below.refl _ _).alloc (Nat.le_refl _) _⟩
      intro x hx; simp [domF] at hx; rcases hx with rfl | rfl <;> exact ⟨I64.of (by decide) (by decide), I64.of (by decide) (by decide)⟩
    · have e2 : (s == 2) = false := by simpa using h2
      have hd : domF s = [] := by simp [domF, h1, h2]
      rw [hd]
      clear hd h1 h2
      go_enter Tryz.func64, Tryz.ntmps64
      go_wp2_with fail
      go_ret
      exact ⟨_, rfl, ⟨World.ownsRow_nil _ _ _ _, by simp⟩, Below.refl _ _⟩

set_option maxHeartbeats 1000000 in
set_option maxRecDepth 100000 in
theorem Minus_calls (a b : List Span) (v u : Value) (w : World) (ha : spansR.rel w (upto w.heap.size) [v] a) (hb : spansR.rel w (upto w.heap.size) [u] b) (hla : a.length ≤ 1073741824) (hlb : b.length < 1073741824) :
    Calls Tryz.prog 58 #[v, u] w fun e w' => ∃ x, e = .returned x ∧ OwnS 75 w' w.heap.size x (minusF a b) ∧ Below w.heap.size w w' := by
  obtain ⟨inf, hi0, hz0, hz1, hz2⟩ := info_parts info46
  go_enter Tryz.func58, Tryz.ntmps58
  go_wp2_with fail
  refine (Norm_calls b _ _ hb (by omega)).mono ?_
  rintro e w1 ⟨x, rfl, ho1, hb1⟩
  have hnl := normF_length b
  have hnp : ∀ s ∈ normF b, okS s := plainFrom_ok (normF_plain b)
  have ry := ho1.rel
  obtain ⟨A1, c1, rfl, hc1, hm1⟩ := list_form ry
  unfold maxLen at hm1
  clear ho1 hb
  go_wp2_with fail
  go_loopw [5, 6, 12] (fun vr vf vi wr => ∃ (k : Nat) (rest : List Span) (from_ : Int), k ≤ (normF b).length ∧ vi = .int .i64 k ∧ vf = .int .i64 from_ ∧ -1073741824 ≤ from_ ∧ from_ ≤ 1073741825 ∧ rest.length ≤ k ∧ OwnS 75 wr w1.heap.size vr rest ∧
      rest ++ gaps from_ ((normF b).drop k) = gaps (-1073741824) (normF b) ∧ Below w1.heap.size w1 wr) (fun _ _ vi _ => (normF b).length - (intOf vi).toNat)
  case atStart => exact ⟨0, [], -1073741824, Nat.zero_le _, rfl, rfl, by decide, by decide, Nat.zero_le _, ⟨World.ownsRow_nil _ _ _ _, by simp⟩, by simp, Below.refl _ _⟩
  case round =>
    obtain ⟨k, rest, fr, hk, rfl, rfl, hf1, hf2, hrk, ho, hg, hB⟩ := hrel
    have HG := hid hg; clear hg
    have hr := spansR.mono (below_cells hB) (fun _ h => h) ry
    have hsz := hB.size
    by_cases hlt : k < (normF b).length
    · obtain ⟨x, hx⟩ := at_lt hlt
      obtain ⟨b1, o1, rfl, hb1', h1, h2, hp1, hp2⟩ := span_at hr hx
      obtain ⟨q1, q2, q3⟩ := hnp x (List.mem_of_getElem? hx)
      have hlt' : (k : Int) < (normF b).length := by omega
      have HG2 : Hid ((rest ++ [⟨fr, x.lo - 1⟩]) ++ gaps (x.hi + 1) ((normF b).drop (k + 1)) = gaps (-1073741824) (normF b)) := hid (by have := HG.out; rw [drop_cons hx] at this; simpa [gaps] using this)
      clear hx hr
      go_wp2_with (at_builtin; refine Hid.out ?_)
      refine hid ?_
      refine wpList_append_own _ rfl _ _ 76 rfl w1.heap.size 75 inf _ 2 16 Tryz.underlying76 hi0 hz0 hz1 hz2 rfl (by decide) _ _ _ rfl ((ho.1.alloc _).alloc _) ⟨wr.heap.size + 1, 0, none⟩ 1 1 [.int .i64 fr, .int .i64 (x.lo - 1)] rfl rfl
        (news_at (w := wr.alloc _) (cs := #[_, _]) (by simp)) (by simp [Value.oneCell']) (by unfold maxLen; omega) (by omega) (by simp; omega) ?_
      intro v' w3 hown3 hg3 hn3
      have hB3 : Below w1.heap.size w1 w3 := ((hB.alloc hsz _).alloc (by simp; omega) _).trans (below_grown ((ho.1.alloc _).alloc _) hg3 (Nat.le_refl _) (by simp; omega))
      have ho3 : OwnS 75 w3 w1.heap.size v' (rest ++ [⟨fr, x.lo - 1⟩]) := OwnS.push hown3 ho.2 ⟨I64.of (by show _ ≤ fr; omega) (by show fr ≤ _; omega), I64.of (by show _ ≤ x.lo - 1; omega) (by show x.lo - 1 ≤ _; omega)⟩
      have hx1 : w3.cell? ⟨wr.heap.size, 1, none⟩ = some (.int .i64 x.hi) := by
        refine hg3.cell (by go_simp) (fun h => ?_)
        have h5 := ((ho.1).lt _ h.symm).2
        simp at h5
      clear hown3 hg3 hn3
      go_wp2_with fail
      refine ⟨⟨k + 1, rest ++ [⟨fr, x.lo - 1⟩], x.hi + 1, by omega, by go_num, rfl, by omega, by omega, by simp; omega, ho3, HG2.out, hB3⟩, ?_⟩
      simp [intOf]; omega
    · have hke : k = (normF b).length := by omega
      subst hke
      have hfin : Hid (rest ++ [⟨fr, 1073741824⟩] = gaps (-1073741824) (normF b)) := hid (by have := HG.out; simpa [gaps] using this)
      clear HG hr
      go_wp2_with (at_builtin; refine Hid.out ?_)
      refine hid ?_
      refine wpList_append_own _ rfl _ _ 76 rfl w1.heap.size 75 inf _ 2 16 Tryz.underlying76 hi0 hz0 hz1 hz2 rfl (by decide) _ _ _ rfl (ho.1.alloc _) ⟨wr.heap.size, 0, none⟩ 1 1 [.int .i64 fr, .int .i64 1073741824] rfl rfl
        (news_at (w := wr) (cs := #[_, _]) rfl) (by simp [Value.oneCell']) (by unfold maxLen; omega) (by omega) (by simp; omega) ?_
      intro v' w3 hown3 hg3 hn3
      have hB3 : Below w1.heap.size w1 w3 := (hB.alloc hsz _).trans (below_grown (ho.1.alloc _) hg3 (Nat.le_refl _) (by simp; omega))
      have ho3 : OwnS 75 w3 w1.heap.size v' (rest ++ [⟨fr, 1073741824⟩]) := OwnS.push hown3 ho.2 ⟨I64.of (by show _ ≤ fr; omega) (by show fr ≤ _; omega), I64.of (by show _ ≤ (1073741824 : Int); decide) (by show (1073741824 : Int) ≤ _; decide)⟩
      have hB4 : Below w.heap.size w w3 := hb1.trans (hB3.mono hb1.size)
      have hra : spansR.rel w3 (upto w3.heap.size) [v] a := spansR.below ha hB4 hB4.size
      have hlen : (rest ++ [(⟨fr, 1073741824⟩ : Span)]).length ≤ 1073741824 := by simp; omega
      clear hown3 hg3 hn3
      go_wp2_with fail
      refine (Meet_calls a (rest ++ [⟨fr, 1073741824⟩]) _ _ _ hra ho3.rel hla hlen).mono ?_
      rintro e w4 ⟨y, rfl, ho4, hb4⟩
      go_wp2_with fail
      go_ret
      refine ⟨_, rfl, ?_, hB4.trans (hb4.mono hB4.size)⟩
      rw [hfin.out] at ho4
      exact ho4.base hB4.size

set_option maxHeartbeats 400000 in
theorem Within_calls (a b : List Span) (v u : Value) (w : World) (ha : spansR.rel w (upto w.heap.size) [v] a) (hb : spansR.rel w (upto w.heap.size) [u] b) (hla : a.length ≤ 1073741824) (hlb : b.length < 1073741824) :
    Calls Tryz.prog 101 #[v, u] w fun e w' => e = .returned (.bool ((minusF a b).isEmpty)) ∧ Below w.heap.size w w' := by
  have hc := Minus_calls a b v u w ha hb hla hlb
  generalize minusF a b = m at hc ⊢
  have HC := hid hc; clear hc ha hb
  cases m with
  | nil =>
    go_enter Tryz.func101, Tryz.ntmps101
    go_wp2_with fail
    refine HC.out.mono ?_
    rintro e w1 ⟨x, rfl, ho, hB⟩
    obtain ⟨A, c, rfl, _, _⟩ := list_form ho.rel
    clear ho
    go_wp2_with fail
    go_ret
    exact ⟨by simp, hB⟩
  | cons p ps =>
    have hl : (((p :: ps).length : Int) == 0) = false := by simp; omega
    have hl2 : ((ps.length : Int) + 1 == 0) = false := by simp; omega
    go_enter Tryz.func101, Tryz.ntmps101
    go_wp2_with fail
    refine HC.out.mono ?_
    rintro e w1 ⟨x, rfl, ho, hB⟩
    obtain ⟨A, c, rfl, _, _⟩ := list_form ho.rel
    clear ho
    go_wp2_with fail
    go_ret
    exact ⟨by simp, hB⟩

end Go.Proofs.YthfcbbdghggefaaGreat
namespace Go.Proofs.YthfcbbdghggefaaGreat
open Go.RowKit Go.Um
set_option maxHeartbeats 1000000 in
theorem SCheck_calls (l : List Span) (v : Value) (w : World) (h : spansR.rel w (upto w.heap.size) [v] l) : Calls Tryz.prog 100 #[v] w fun e w' => e = .returned (.bool (plain l)) ∧ Below w.heap.size w w' := by
  obtain ⟨A, c, rfl, hc, hm⟩ := list_form h
  unfold maxLen at hm
  go_enter Tryz.func100, Tryz.ntmps100
  go_wp2_with fail
  go_loopw [3, 8] (fun vlast vi wr => ∃ (k : Nat) (last : Int), k ≤ l.length ∧ vi = .int .i64 k ∧ vlast = .int .i64 last ∧ -1073741826 ≤ last ∧ last ≤ 1073741824 ∧ plainFrom last (l.drop k) = plain l ∧ Below w.heap.size w wr) (fun _ vi _ => l.length - (intOf vi).toNat)
  case atStart => exact ⟨0, -1073741826, Nat.zero_le _, rfl, rfl, by decide, by decide, rfl, Below.refl _ _⟩
  case round =>
    obtain ⟨k, last, hk, rfl, rfl, hl1, hl2, hp, hB⟩ := hrel
    have HP := hid hp; clear hp
    have hr := spansR.mono (below_cells hB) (fun _ h => h) h
    by_cases hlt : k < l.length
    · obtain ⟨x, hx⟩ := at_lt hlt
      obtain ⟨b1, o1, rfl, hb1, h1, h2, hp1, hp2⟩ := span_at hr hx
      have hlt' : (k : Int) < l.length := by omega
      have hBa : ∀ o, Below w.heap.size w (wr.alloc o) := fun o => hB.alloc hB.size o
      have HP2 : Hid ((if x.hi < x.lo ∨ x.lo < -1073741824 ∨ 1073741824 < x.hi ∨ x.lo ≤ last + 1 then false else plainFrom x.hi (l.drop (k + 1))) = plain l) := hid (by have := HP.out; rw [drop_cons hx] at this; exact this)
      clear hx hr hp1 hp2
      by_cases c1 : x.hi < x.lo
      · have hF : Hid (false = plain l) := hid (by have := HP2.out; rwa [if_pos (by omega)] at this)
        go_wp2_with fail
        go_ret
        exact ⟨by rw [← hF.out]; rfl, hBa _⟩
      · by_cases c2 : x.lo < -1073741824
        · have hF : Hid (false = plain l) := hid (by have := HP2.out; rwa [if_pos (by omega)] at this)
          go_wp2_with fail
          go_ret
          exact ⟨by rw [← hF.out]; rfl, hBa _⟩
        · by_cases c3 : 1073741824 < x.hi
          · have hF : Hid (false = plain l) := hid (by have := HP2.out; rwa [if_pos (by omega)] at this)
            go_wp2_with fail
            go_ret
            exact ⟨by rw [← hF.out]; rfl, hBa _⟩
          · by_cases c4 : x.lo ≤ last + 1
            · have hF : Hid (false = plain l) := hid (by have := HP2.out; rwa [if_pos (by omega)] at this)
              go_wp2_with fail
              go_ret
              exact ⟨by rw [← hF.out]; rfl, hBa _⟩
            · have HP3 : Hid (plainFrom x.hi (l.drop (k + 1)) = plain l) := hid (by have := HP2.out; rwa [if_neg (by omega)] at this)
              go_wp2_with fail
              refine ⟨⟨k + 1, x.hi, by omega, by go_num, rfl, by omega, by omega, HP3.out, hBa _⟩, ?_⟩
              simp [intOf]; omega
    · have hke : k = l.length := by omega
      subst hke
      have hF : Hid (true = plain l) := hid (by have := HP.out; simpa [plainFrom] using this)
      clear HP hr
      go_wp2_with fail
      go_ret
      exact ⟨by rw [← hF.out]; rfl, hB⟩

def stateF (n s : Int) : Bool := decide (0 ≤ s) && decide (s < n)
set_option maxHeartbeats 400000 in
theorem state_calls (a b c d : Int) (v u : Value) (s : Int) (w : World) : Calls Tryz.prog 81 #[.agg #[.int .i64 a, .int .i64 b, .int .i64 c, .int .i64 d, v, u], .int .i64 s] w fun e w' => e = .returned (.bool (stateF c s)) ∧ Below w.heap.size w w' := by
  by_cases h1 : 0 ≤ s
  · by_cases h2 : s < c
    · go_enter Tryz.func81, Tryz.ntmps81
      go_wp2_with fail
      go_ret
      exact ⟨by simp [stateF, h1, h2], (Below.refl _ _).alloc (Nat.le_refl _) _⟩
    · go_enter Tryz.func81, Tryz.ntmps81
      go_wp2_with fail
      go_ret
      exact ⟨by simp [stateF, h1, h2], (Below.refl _ _).alloc (Nat.le_refl _) _⟩
  · go_enter Tryz.func81, Tryz.ntmps81
    go_wp2_with fail
    go_ret
    exact ⟨by simp [stateF]; omega, (Below.refl _ _).alloc (Nat.le_refl _) _⟩

/-- desc's guards. -/
def guardOk (s : Int) (g : List Span) : Bool := !(g.isEmpty || decide (64 < g.length) || !plain g || !(minusF g (domF s)).isEmpty)
def guardsF (s : Int) (l : List (List Span)) : Bool := if 4 < l.length then false else l.all (guardOk s)
set_option maxHeartbeats 1000000 in
set_option maxRecDepth 100000 in
theorem guards_calls (s : Int) (l : List (List Span)) (v : Value) (w : World) (h : (listR spansR).rel w (upto w.heap.size) [v] l) : Calls Tryz.prog 82 #[.int .i64 s, v] w fun e w' => e = .returned (.bool (guardsF s l)) ∧ Below w.heap.size w w' := by
  obtain ⟨A, c, rfl, hc, hm⟩ := list_form h
  unfold maxLen at hm
  by_cases hbig : 4 < l.length
  · have hF : guardsF s l = false := by simp [guardsF, hbig]
    rw [hF]
    have hb' : (4 : Int) < l.length := by omega
    clear hF h hbig
    go_enter Tryz.func82, Tryz.ntmps82
    go_wp2_with fail
    go_ret
    exact ⟨rfl, Below.refl _ _⟩
  · have hF : guardsF s l = l.all (guardOk s) := by simp [guardsF, hbig]
    rw [hF]
    have hb' : ¬ (4 : Int) < l.length := by omega
    clear hF hbig
    go_enter Tryz.func82, Tryz.ntmps82
    go_wp2_with fail
    refine (Domain_calls s _).mono ?_
    rintro e w1 ⟨u, rfl, ho, hB1⟩
    have hdl : (domF s).length < 1073741824 := by
      unfold domF; split
      · simp
      · split <;> simp
    have hu := ho.rel
    obtain ⟨A2, c2, rfl, _, hm2⟩ := list_form hu
    clear ho
    go_wp2_with fail
    go_loopw [15] (fun vi wr => ∃ k : Nat, k ≤ l.length ∧ vi = .int .i64 k ∧ (l.drop k).all (guardOk s) = l.all (guardOk s) ∧ Below w1.heap.size w1 wr) (fun vi _ => l.length - (intOf vi).toNat)
    case atStart => exact ⟨0, Nat.zero_le _, rfl, rfl, Below.refl _ _⟩
    case round =>
      obtain ⟨k, hk, rfl, hp, hB⟩ := hrel
      have HP := hid hp; clear hp
      have hBw : Below w.heap.size w wr := hB1.trans (hB.mono hB1.size)
      have hr := (listR spansR).mono (below_cells hBw) (fun _ h => h) h
      by_cases hlt : k < l.length
      · obtain ⟨x, hx⟩ := at_lt hlt
        obtain ⟨b1, o1, y, rfl, hb1, hy, h1⟩ := list_at1 rfl hr hx
        obtain ⟨A3, c3, rfl, hc3, hm3⟩ := list_form hy
        unfold maxLen at hm3
        have hlt' : (k : Int) < l.length := by omega
        have HP2 : Hid ((guardOk s x && (l.drop (k + 1)).all (guardOk s)) = l.all (guardOk s)) := hid (by have := HP.out; rw [drop_cons hx] at this; exact this)
        have hyw : spansR.rel wr (upto wr.heap.size) [.slice A3 x.length c3] x := spansR.mono (fun _ _ => rfl) (fun b hb => Nat.lt_of_lt_of_le hb hBw.size) hy
        have huw : spansR.rel wr (upto wr.heap.size) [.slice A2 (domF s).length c2] (domF s) := spansR.below hu hB hB.size
        clear hx hr hy
        by_cases e1 : x = []
        · subst e1
          have hG : Hid (false = l.all (guardOk s)) := hid (by rw [← HP2.out]; simp [guardOk])
          go_wp2_with fail
          go_ret
          exact ⟨by rw [← hG.out]; rfl, hBw⟩
        · have e1' : ((x.length : Int) == 0) = false := by
            have : x.length ≠ 0 := fun h => e1 (List.eq_nil_of_length_eq_zero h)
            simp; exact e1
          by_cases e2 : 64 < x.length
          · have e2' : (64 : Int) < x.length := by omega
            have hG : Hid (false = l.all (guardOk s)) := hid (by rw [← HP2.out]; simp [guardOk, e2])
            clear e1
            go_wp2_with fail
            go_ret
            exact ⟨by rw [← hG.out]; rfl, hBw⟩
          · have e2' : ¬ (64 : Int) < x.length := by omega
            have hsc := SCheck_calls x _ wr hyw
            cases e3 : plain x with
            | false =>
              have hG : Hid (false = l.all (guardOk s)) := hid (by rw [← HP2.out]; simp [guardOk, e3])
              rw [e3] at hsc
              have HS := hid hsc
              clear e1 e2 e3 hsc
              go_wp2_with fail
              refine HS.out.mono ?_
              rintro e w2 ⟨rfl, hB2⟩
              go_wp2_with fail
              go_ret
              exact ⟨by rw [← hG.out]; rfl, hBw.trans (hB2.mono hBw.size)⟩
            | true =>
              rw [e3] at hsc
              have HS := hid hsc
              have hwi : ∀ W, Below wr.heap.size wr W → Calls Tryz.prog 101 #[.slice A3 x.length c3, .slice A2 (domF s).length c2] W fun e w' => e = .returned (.bool ((minusF x (domF s)).isEmpty)) ∧ Below W.heap.size W w' :=
                fun W hW => Within_calls x (domF s) _ _ W (spansR.below hyw hW hW.size) (spansR.below huw hW hW.size) (by omega) hdl
              cases e4 : (minusF x (domF s)).isEmpty with
              | false =>
                have hG : Hid (false = l.all (guardOk s)) := hid (by rw [← HP2.out]; simp [guardOk, e4])
                rw [e4] at hwi
                have HW := hid hwi
                clear e1 e2 e3 e4 hsc hwi
                go_wp2_with fail
                refine HS.out.mono ?_
                rintro e w2 ⟨rfl, hB2⟩
                go_wp2_with fail
                refine (HW.out _ hB2).mono ?_
                rintro e w3 ⟨rfl, hB3⟩
                go_wp2_with fail
                go_ret
                exact ⟨by rw [← hG.out]; rfl, hBw.trans ((hB2.mono hBw.size).trans (hB3.mono (Nat.le_trans hBw.size hB2.size)))⟩
              | true =>
                have hG : Hid ((l.drop (k + 1)).all (guardOk s) = l.all (guardOk s)) := hid (by rw [← HP2.out]; have : guardOk s x = true := by simp [guardOk, e3, e4, e1]; omega
                                                                                                rw [this]; rfl)
                rw [e4] at hwi
                have HW := hid hwi
                clear e1 e2 e3 e4 hsc hwi
                go_wp2_with fail
                refine HS.out.mono ?_
                rintro e w2 ⟨rfl, hB2⟩
                go_wp2_with fail
                refine (HW.out _ hB2).mono ?_
                rintro e w3 ⟨rfl, hB3⟩
                go_wp2_with fail
                refine ⟨⟨k + 1, by omega, by go_num, hG.out, hB.trans ((hB2.mono hB.size).trans (hB3.mono (Nat.le_trans hB.size hB2.size)))⟩, ?_⟩
                simp [intOf]; omega
      · have hke : k = l.length := by omega
        subst hke
        have hG : Hid (true = l.all (guardOk s)) := hid (by have := HP.out; simpa using this)
        clear HP hr
        go_wp2_with fail
        go_ret
        exact ⟨by rw [← hG.out]; rfl, hBw⟩
end Go.Proofs.YthfcbbdghggefaaGreat
