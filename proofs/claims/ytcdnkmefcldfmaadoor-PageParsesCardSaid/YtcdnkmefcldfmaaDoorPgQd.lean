/-
  The reference's guards.
-/
import Derived.Test.YtcdnkmefcldfmaaDoorPgQc
namespace Go.Proofs.YtcdnkmefcldfmaaDoor
open Go.RowKit Go.Um

def RGuardsPost (s : ByteArray) (i : Nat) (w : World) (e : Ending) (w' : World) : Prop := Below w.heap.size w w' ∧ ∃ (v : Value) (k : Nat) (ok : Bool) (st : Option By) (gs : List (List Span)), e = .returned (.tuple #[v, .int .i64 k, .bool ok]) ∧
  Fin st (guardsF2 ((rest s i).length + 1) (rest s i)) gs ∧ AtS s k ok st ∧ (ok = true → (listR spansR).rel w' (fun g => Tag 73 w' g ∨ Tag 86 w' g) [v] gs) ∧ (ok = false → v = .slice none 0 0)
theorem rguards_bad {s : ByteArray} {i k : Nat} {w w' : World} (h : guardsF2 ((rest s i).length + 1) (rest s i) = none) (hk : k ≤ s.size) (hb : Below w.heap.size w w') : RGuardsPost s i w (.returned (.tuple #[.slice none 0 0, .int .i64 k, .bool false])) w' :=
  ⟨hb, _, k, false, none, [], rfl, .inr ⟨rfl, h⟩, ⟨hk, rfl, fun r hr => by cases hr⟩, fun h => by (cases h), fun _ => rfl⟩
theorem GsAt.bad {T : Option (List (List Span) × By)} {gs : List (List Span)} (h : GsAt none T gs) : T = none := by
  rcases h with ⟨l, n, h, _⟩ | ⟨_, h⟩
  · cases h
  · exact h
theorem OwnR.later {α : Type} {e : TypeId} {r : RepOf α} {w w' : World} {t : TypeId} {base : Nat} {v : Value} {xs : List α} (h : OwnR e r w (Tag t w) base v xs) (hb : Below w.heap.size w w') : OwnR e r w' (Tag t w') base v xs :=
  h.keep (fun g hg => hb.block g (h.tag g hg).1.lt) (fun _ hp => cell_of_heap_eq (hb.block _ hp.lt)) (fun g hg => hg.keep (hb.block g hg.lt))
theorem OwnS.later {e : TypeId} {w w' : World} {base : Nat} {v : Value} {ss : List Span} (h : OwnS e w base v ss) (hb : Below w.heap.size w w') : OwnS e w' base v ss := ⟨own_below h.1 hb, h.2⟩
theorem lit_next {s : ByteArray} {i k : Nat} {p : By} (h : AtS s k true (lit p (rest s i))) : lit p (rest s i) = some (rest s k) := h.some
theorem lit_stop {s : ByteArray} {i k : Nat} {p : By} (h : AtS s k false (lit p (rest s i))) : lit p (rest s i) = none := h.none

set_option maxHeartbeats 4000000 in
set_option maxRecDepth 100000 in
theorem rguards_calls (s : ByteArray) (i : Nat) (hi : i ≤ s.size) (hs : s.size ≤ 65536) (w : World) :
    Calls Tryd.prog 48 #[.string s, .int .i64 i] w (RGuardsPost s i w) := by
  obtain ⟨infS, hiS, hx0, hx1, hx2⟩ := info_parts infoSp
  obtain ⟨inf73, hi73, hy0, hy1, hy2⟩ := info_parts infoSs
  go_enter Tryd.func48, Tryd.ntmps48
  go_wp2_with fail
  go_loopw [1, 7] (fun vi vl' wr => ∃ (vl : Value) (gs : List (List Span)) (p : Nat), vl = vl' ∧ vi = .int .i64 p ∧ OwnR 73 spansR wr (Tag 86 wr) w.heap.size vl gs ∧ p ≤ s.size ∧ GsAt (some (rest s p)) (guardsF2 ((rest s i).length + 1) (rest s i)) gs ∧ Below w.heap.size w wr ∧ gs.length + (s.size - p) ≤ 70000) (fun vi _ _ => s.size - (intOf vi).toNat)
  case atStart =>
    refine ⟨_, [], i, rfl, rfl, OwnR.nil, hi, .inl ⟨_, _, rfl, Nat.lt_succ_self _, ?_⟩, Below.refl _ _, by simp; omega⟩
    simp only [List.nil_append]
    cases guardsF2 ((rest s i).length + 1) (rest s i) <;> rfl
  case round =>
    obtain ⟨wo, hwo⟩ : ∃ wo, wo = wr := ⟨_, rfl⟩
    subst hwo
    obtain ⟨vl, gs, p, rfl, rfl, hog, hp, hat, hb, hgl⟩ := hrel
    have HAT := hid hat
    clear hat
    obtain ⟨A4, c4, rfl⟩ : ∃ A c, vl = .slice A gs.length c := by obtain ⟨_, _, ho, _⟩ := hog; exact row_form ho
    have hszw := hb.size
    go_wp2_with fail
    refine (rtext2 s p ⟨#[32, 91]⟩ hp hs (by decide) _).mono ?_
    rintro e w1 ⟨rfl, q, ok, rfl, hats, -, hq2⟩
    cases ok with
    | false =>
      have HFIN := hid (HAT.out.fin (by show (lit [32, 91] (rest s p)).isSome = false; rw [show lit [32, 91] (rest s p) = none from hats.none]; rfl))
      clear hats hq2
      go_wp2_with fail
      go_ret3
      exact ⟨hb, _, p, true, some (rest s p), gs, rfl, HFIN.out, AtS.here hp, fun _ => hog.rel (fun g hg' => .inr hg') (fun g hg' => .inl (hog.tag g hg').1), fun h => by cases h⟩
    | true =>
      have HL := hid (show lit [32, 91] (rest s p) = some (rest s q) from lit_next hats)
      have hqs := hats.1
      have hpq : q = p + 2 := hq2 rfl
      have hpq' : p + 2 ≤ q := by omega
      clear hats hq2 hpq
      go_wp2_with fail
      go_loopw [1, 10] (fun vi vg' wq => ∃ (vg : Value) (ss : List Span) (q' : Nat), vg = vg' ∧ vi = .int .i64 q' ∧ OwnS 86 wq w1.heap.size vg ss ∧ q' ≤ s.size ∧ q ≤ q' ∧ SpAt (some (rest s q')) (spansF ((rest s q).length + 1) 0 (rest s q)) ss ∧ Below w1.heap.size w1 wq ∧ ss.length + (s.size - q') ≤ 70000) (fun vi _ _ => s.size - (intOf vi).toNat)
      case atStart =>
        refine ⟨_, [], q, rfl, rfl, ⟨World.ownsRow_nil _ _ _ _, fun x hx => by cases hx⟩, hqs, Nat.le_refl _, .inl ⟨_, _, rfl, Nat.lt_succ_self _, ?_⟩, Below.refl _ _, by simp; omega⟩
        simp only [List.length_nil, List.nil_append]
        cases spansF ((rest s q).length + 1) 0 (rest s q) <;> rfl
      case round =>
        obtain ⟨wq, hwq'⟩ : ∃ wq, wq = wr := ⟨_, rfl⟩
        subst hwq'
        obtain ⟨vg, ss, q', rfl, rfl, hos, hq's, hqq, hatq, hbq, hsl⟩ := hrel
        have HATQ := hid hatq
        clear hatq
        obtain ⟨A, c, rfl⟩ := row_form hos.1
        have hszq := hbq.size
        go_wp2_with fail
        refine (rtext2 s q' ⟨#[93]⟩ hq's hs (by decide) _).mono ?_
        rintro e w2 ⟨rfl, r, ok, rfl, hats, -, hr2⟩
        cases ok with
        | true =>
          have HF2 := hid (HATQ.out.fin (show lit [93] (rest s q') = some (rest s r) from lit_next hats))
          have hrs := hats.1
          have hqr : r = q' + 1 := hr2 rfl
          have hqr' : q' + 1 ≤ r := by omega
          have hogr := OwnR.later hog hbq
          have HGS := hid (GsAt.step HAT.out HL.out HF2.out)
          clear hats hr2 hqr
          obtain ⟨css, hcl, hown, hel⟩ := hogr
          have HEL := hid hel
          have HCL := hid hcl
          clear hel hcl
          go_wp2_with (at_builtin; refine Hid.out ?_)
          refine hid ?_
          refine wpList_append_own _ rfl _ _ 42 rfl w.heap.size 73 inf73 _ 1 24 Tryd.underlying42 hi73 hy0 hy1 hy2 rfl (by decide) _ _ _ rfl (hown.alloc _) ⟨w2.heap.size, 0, none⟩ 1 1 [.slice A ss.length c] rfl rfl (news_at (w := w2) (cs := #[_]) rfl) (by simp [Value.oneCell']) (by unfold maxLen; omega) (by omega) (by simp; omega) ?_
          intro v' w6 hown6 hg6 hn6
          have hrow : ∀ g, (Value.slice A4 gs.length c4).ownBlock = some g → Tag 73 w2 g ∧ w.heap.size ≤ g := fun g hg' => own_tag hown g hg'
          have hblk : ∀ g, g < w2.heap.size → ¬ Tag 73 w2 g → w6.heap[g]? = w2.heap[g]? := fun g hg' hnt =>
            (hg6.block g (by simp; omega) (fun he => hnt (hrow g he.symm).1)).trans (Below.heap_alloc w2 _ g hg')
          have hsp : ∀ g, Tag 86 w2 g → w6.heap[g]? = w2.heap[g]? := fun g hg' => hblk g hg'.lt (fun ht => Tag.ne hg' ht (by decide) rfl)
          have hssE : spansR.rel w6 (Tag 86 w6) [.slice A ss.length c] ss :=
            spansR.mono (S := Tag 86 w2) (fun p hp => cell_of_heap_eq (hsp p.block hp)) (fun g hg' => hg'.keep (hsp g hg')) (hos.rel_in fun g hg' => (own_tag hos.1 g hg').1)
          have hogE : OwnR 73 spansR w6 (Tag 86 w6) w.heap.size v' (gs ++ [ss]) :=
            OwnR.push HCL.out hown6 (fun i x cs h1 h2 => spansR.mono (fun p hp => cell_of_heap_eq (hsp p.block hp)) (fun g hg' => hg'.keep (hsp g hg')) (HEL.out i x cs h1 h2)) hssE
          have hbE : Below w.heap.size w w6 := ((hb.trans (hbq.mono hszw)).alloc (by omega) _).grown hg6 (by simp; omega) (fun g hg' => (hrow g hg').2)
          clear hown6 hn6 hown hos hg6 hsp hblk hrow
          go_wp2_with fail
          refine ⟨⟨_, gs ++ [ss], r, rfl, rfl, hogE, hrs, HGS.out, hbE, by simp; omega⟩, ?_⟩
          simp [intOf]; omega
        | false =>
          have HL2 := hid (show lit [93] (rest s q') = none from lit_stop hats)
          clear hats hr2
          by_cases h0 : ss.length = 0
          · have hx0' : ss = [] := List.eq_nil_of_length_eq_zero h0
            subst hx0'
            have h1' : ¬ (0 : Int) < 0 := by decide
            go_wp2_with fail
            refine (rnumber_calls s q' hq's hs _).mono ?_
            rintro e w4 ⟨hb4, x, a, one, stx, rfl, hIx, hfinx, hatsx⟩
            have has := hatsx.1
            go_wp2_with fail
            refine (rtext2 s a ⟨#[46, 46]⟩ has hs (by decide) _).mono ?_
            rintro e w5 ⟨rfl, b, two, rfl, hatsb, -, -⟩
            have hbs := hatsb.1
            go_wp2_with fail
            refine (rnumber_calls s b hbs hs _).mono ?_
            rintro e w6 ⟨hb5, y, z, three, sty, rfl, hIy, hfiny, hatsz⟩
            have hzs := hatsz.1
            have hats1 : AtS s q' true (some (rest s q')) := AtS.here hq's
            obtain ⟨stA, hfA, hatsA⟩ := AtS.fin hats1 hfinx hatsx
            have hatsB := AtS.lit hatsA hatsb
            obtain ⟨st4, hf4, hats4⟩ := AtS.fin hatsB hfiny hatsz
            have hstep := SpAt.step (x := x) (y := y) HATQ.out HL2.out (hfA) rfl hf4
            have HST := hid hstep.1
            have HLT : Hid (stLen st4 < (rest s q').length + 1) := hid hstep.2
            have hb6 : Below w1.heap.size w1 w6 := hbq.trans ((hb4.trans (hb5.mono hb4.size)).mono hszq)
            have hbB : Below w.heap.size w w6 := hb.trans (hb6.mono hszw)
            have hos6 := OwnS.later hos (hb4.trans (hb5.mono hb4.size))
            have hsz6 := hb6.size
            clear hats1 hfinx hatsx hatsb hfiny hatsz hfA hatsA hatsB hf4 hstep hos
            cases one with
            | false =>
              have HN := hid (by
                have h1 := HST.out
                rw [AtS.none (show AtS s z false st4 from hats4)] at h1
                exact (GsAt.step HAT.out HL.out h1.bad).bad : guardsF2 ((rest s i).length + 1) (rest s i) = none)
              clear hats4
              go_wp2_with fail
              go_ret3
              exact rguards_bad HN.out hq's hbB
            | true =>
              cases two with
              | false =>
                have HN := hid (by
                  have h1 := HST.out
                  rw [AtS.none (show AtS s z false st4 from hats4)] at h1
                  exact (GsAt.step HAT.out HL.out h1.bad).bad : guardsF2 ((rest s i).length + 1) (rest s i) = none)
                clear hats4
                go_wp2_with fail
                go_ret3
                exact rguards_bad HN.out hq's hbB
              | true =>
                cases three with
                | false =>
                  have HN := hid (by
                    have h1 := HST.out
                    rw [AtS.none (show AtS s z false st4 from hats4)] at h1
                    exact (GsAt.step HAT.out HL.out h1.bad).bad : guardsF2 ((rest s i).length + 1) (rest s i) = none)
                  clear hats4
                  go_wp2_with fail
                  go_ret3
                  exact rguards_bad HN.out hq's hbB
                | true =>
                  have HS2 := hid (by
                    have h1 := HST.out
                    rw [AtS.some (show AtS s z true st4 from hats4)] at h1
                    exact h1 : SpAt (some (rest s z)) (spansF ((rest s q).length + 1) 0 (rest s q)) ([] ++ [⟨x, y⟩]))
                  have HZ : Hid (s.size - z < s.size - q') := hid (by
                    have h1 := HLT.out
                    rw [AtS.some (show AtS s z true st4 from hats4)] at h1
                    simp only [stLen, rest_len] at h1
                    omega)
                  clear hats4
                  go_wp2_with (at_builtin; refine Hid.out ?_)
                  refine hid ?_
                  refine wpList_append_own _ rfl _ _ 73 rfl w1.heap.size 86 infS _ 2 16 Tryd.underlying73 hiS hx0 hx1 hx2 rfl (by decide) _ _ _ rfl (hos6.1.alloc _) ⟨w6.heap.size, 0, none⟩ 1 1 [.int .i64 x, .int .i64 y] rfl rfl (news_at (w := w6) (cs := #[_, _]) rfl) (by simp [Value.oneCell']) (by unfold maxLen; simp) (by simp) (by simp; omega) ?_
                  intro v' w7 hown7 hg7 hn7
                  have ho7 : OwnS 86 w7 w1.heap.size v' ([⟨x, y⟩]) := OwnS.push (xs := []) (x := ⟨x, y⟩) hown7 hos6.2 ⟨hIx, hIy⟩
                  have hrow : ∀ g, (Value.slice A 0 c).ownBlock = some g → w1.heap.size ≤ g := fun g hg' => (own_tag hos6.1 g hg').2
                  have hbE : Below w1.heap.size w1 w7 := (hb6.alloc (by omega) _).grown hg7 (by simp; omega) (fun g hg' => hrow g hg')
                  clear hown7 hn7 hos6 hg7 hrow
                  go_wp2_with fail
                  have hz : s.size - z < s.size - q' := HZ.out
                  refine ⟨⟨v', [] ++ [⟨x, y⟩], z, rfl, rfl, ho7, hzs, by omega, HS2.out, hbE, by simp; omega⟩, ?_⟩
                  simp [intOf]; omega
          · have h1 : (0 : Int) < ss.length := by omega
            go_wp2_with fail
            refine (rtext2 s q' ⟨#[44]⟩ hq's hs (by decide) _).mono ?_
            rintro e w3 ⟨rfl, q1, ok1, rfl, hats1, -, hlo1⟩
            have hq1 := hats1.1
            have hlow1 : ok1 = true → q' + 1 = q1 := fun h => (hlo1 h).symm
            clear hlo1
            go_wp2_with fail
            refine (rnumber_calls s q1 hq1 hs _).mono ?_
            rintro e w4 ⟨hb4, x, a, one, stx, rfl, hIx, hfinx, hatsx⟩
            have has := hatsx.1
            go_wp2_with fail
            refine (rtext2 s a ⟨#[46, 46]⟩ has hs (by decide) _).mono ?_
            rintro e w5 ⟨rfl, b, two, rfl, hatsb, -, -⟩
            have hbs := hatsb.1
            go_wp2_with fail
            refine (rnumber_calls s b hbs hs _).mono ?_
            rintro e w6 ⟨hb5, y, z, three, sty, rfl, hIy, hfiny, hatsz⟩
            have hzs := hatsz.1
            obtain ⟨stA, hfA, hatsA⟩ := AtS.fin hats1 hfinx hatsx
            have hatsB := AtS.lit hatsA hatsb
            obtain ⟨st4, hf4, hats4⟩ := AtS.fin hatsB hfiny hatsz
            have hstep := SpAt.step (x := x) (y := y) HATQ.out HL2.out (by rw [if_neg h0]; exact hfA) rfl hf4
            have HST := hid hstep.1
            have HLT : Hid (stLen st4 < (rest s q').length + 1) := hid hstep.2
            have hb6 : Below w1.heap.size w1 w6 := hbq.trans ((hb4.trans (hb5.mono hb4.size)).mono hszq)
            have hbB : Below w.heap.size w w6 := hb.trans (hb6.mono hszw)
            have hos6 := OwnS.later hos (hb4.trans (hb5.mono hb4.size))
            have hsz6 := hb6.size
            clear hats1 hfinx hatsx hatsb hfiny hatsz hfA hatsA hatsB hf4 hstep hos
            cases ok1 with
            | false =>
              have HN := hid (by
                have h1 := HST.out
                rw [AtS.none (show AtS s z false st4 from hats4)] at h1
                exact (GsAt.step HAT.out HL.out h1.bad).bad : guardsF2 ((rest s i).length + 1) (rest s i) = none)
              clear hats4
              go_wp2_with fail
              go_ret3
              exact rguards_bad HN.out hq1 hbB
            | true =>
              cases one with
              | false =>
                have HN := hid (by
                  have h1 := HST.out
                  rw [AtS.none (show AtS s z false st4 from hats4)] at h1
                  exact (GsAt.step HAT.out HL.out h1.bad).bad : guardsF2 ((rest s i).length + 1) (rest s i) = none)
                clear hats4
                go_wp2_with fail
                go_ret3
                exact rguards_bad HN.out hq1 hbB
              | true =>
                cases two with
                | false =>
                  have HN := hid (by
                    have h1 := HST.out
                    rw [AtS.none (show AtS s z false st4 from hats4)] at h1
                    exact (GsAt.step HAT.out HL.out h1.bad).bad : guardsF2 ((rest s i).length + 1) (rest s i) = none)
                  clear hats4
                  go_wp2_with fail
                  go_ret3
                  exact rguards_bad HN.out hq1 hbB
                | true =>
                  cases three with
                  | false =>
                    have HN := hid (by
                      have h1 := HST.out
                      rw [AtS.none (show AtS s z false st4 from hats4)] at h1
                      exact (GsAt.step HAT.out HL.out h1.bad).bad : guardsF2 ((rest s i).length + 1) (rest s i) = none)
                    clear hats4
                    go_wp2_with fail
                    go_ret3
                    exact rguards_bad HN.out hq1 hbB
                  | true =>
                    have HS2 := hid (by
                      have h1 := HST.out
                      rw [AtS.some (show AtS s z true st4 from hats4)] at h1
                      exact h1 : SpAt (some (rest s z)) (spansF ((rest s q).length + 1) 0 (rest s q)) (ss ++ [⟨x, y⟩]))
                    have HZ : Hid (s.size - z < s.size - q') := hid (by
                      have h1 := HLT.out
                      rw [AtS.some (show AtS s z true st4 from hats4)] at h1
                      simp only [stLen, rest_len] at h1
                      omega)
                    clear hats4
                    go_wp2_with (at_builtin; refine Hid.out ?_)
                    refine hid ?_
                    refine wpList_append_own _ rfl _ _ 73 rfl w1.heap.size 86 infS _ 2 16 Tryd.underlying73 hiS hx0 hx1 hx2 rfl (by decide) _ _ _ rfl (hos6.1.alloc _) ⟨w6.heap.size, 0, none⟩ 1 1 [.int .i64 x, .int .i64 y] rfl rfl (news_at (w := w6) (cs := #[_, _]) rfl) (by simp [Value.oneCell']) (by unfold maxLen; omega) (by omega) (by simp; omega) ?_
                    intro v' w7 hown7 hg7 hn7
                    have ho7 : OwnS 86 w7 w1.heap.size v' (ss ++ [⟨x, y⟩]) := OwnS.push (xs := ss) (x := ⟨x, y⟩) hown7 hos6.2 ⟨hIx, hIy⟩
                    have hrow : ∀ g, (Value.slice A ss.length c).ownBlock = some g → w1.heap.size ≤ g := fun g hg' => (own_tag hos6.1 g hg').2
                    have hbE : Below w1.heap.size w1 w7 := (hb6.alloc (by omega) _).grown hg7 (by simp; omega) (fun g hg' => hrow g hg')
                    clear hown7 hn7 hos6 hg7 hrow
                    go_wp2_with fail
                    have hz : s.size - z < s.size - q' := HZ.out
                    refine ⟨⟨v', ss ++ [⟨x, y⟩], z, rfl, rfl, ho7, hzs, by omega, HS2.out, hbE, by simp; omega⟩, ?_⟩
                    simp [intOf]; omega
end Go.Proofs.YtcdnkmefcldfmaaDoor
