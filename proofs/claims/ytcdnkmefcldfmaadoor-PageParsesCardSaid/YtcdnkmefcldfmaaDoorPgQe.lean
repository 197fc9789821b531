/-
  The reference's terms.
-/
import Derived.Test.YtcdnkmefcldfmaaDoorPgQd
import Derived.Test.YtcdnkmefcldfmaaDoorPgTs
namespace Go.Proofs.YtcdnkmefcldfmaaDoor
open Go.RowKit Go.Um

def RTermsPost (s : ByteArray) (i : Nat) (w : World) (e : Ending) (w' : World) : Prop := Below w.heap.size w w' ∧ ∃ (v : Value) (ok : Bool) (ts : List Term), e = .returned (.tuple #[v, .bool ok]) ∧
  (ok = true → tailF (rest s i) = some ts ∧ (listR termR).rel w' (fun g => Tag 76 w' g ∨ Tag 88 w' g) [v] ts) ∧ (ok = false → tailF (rest s i) = none)
theorem rterms_bad {s : ByteArray} {i : Nat} {w w' : World} {v : Value} (h : tailF (rest s i) = none) (hb : Below w.heap.size w w') : RTermsPost s i w (.returned (.tuple #[v, .bool false])) w' :=
  ⟨hb, _, false, [], rfl, fun h => (by cases h), fun _ => h⟩
/-- what the terms' own parser says. -/
def tailT (l : By) : Option (List Term × By) := (lit [32, 45, 62] l).bind fun r1 => termsF (r1.length + 1) r1
theorem tail_of_none {l : By} (h : tailT l = none) : tailF l = none := by
  unfold tailT at h
  unfold tailF
  rw [Option.bind_eq_none_iff] at h ⊢
  intro r1 h1
  rw [h r1 h1]
  rfl
theorem tail_of_some {l r : By} {ts : List Term} (h : tailT l = some (ts, r)) : tailF l = if r = [] then some ts else none := by
  unfold tailT at h
  unfold tailF
  obtain ⟨r1, h1, h2⟩ := Option.bind_eq_some_iff.1 h
  rw [h1]
  simp only [Option.bind_some, h2]
theorem TsAt.bad {T : Option (List Term × By)} {ts : List Term} (h : TsAt none T ts) : T = none := by
  rcases h with ⟨l, n, h, _⟩ | ⟨_, h⟩
  · cases h
  · exact h
theorem PsAt.bad {T : Option (List Part × By)} {ps : List Part} (h : PsAt none T ps) : T = none := by
  rcases h with ⟨l, n, h, _⟩ | ⟨_, h⟩
  · cases h
  · exact h
theorem TsAt.bad1 {l r : By} {T : Option (List Term × By)} {ts : List Term} {xs : List Int} (h : TsAt (some l) T ts) (hl : lit [32, 40] l = some r) (h1 : Fin none (numsF 0 5 r) xs) : T = none :=
  (TsAt.step (s3 := none) h hl h1 (s2 := none) (ps := []) (.inr ⟨rfl, rfl⟩) rfl).1.bad
theorem TsAt.bad2 {l r r1 : By} {T : Option (List Term × By)} {ts : List Term} {xs : List Int} (h : TsAt (some l) T ts) (hl : lit [32, 40] l = some r) (h1 : Fin (some r1) (numsF 0 5 r) xs) (h2 : partsF (r1.length + 1) r1 = none) : T = none :=
  (TsAt.step (s3 := none) h hl h1 (s2 := none) (ps := []) (.inr ⟨rfl, h2⟩) rfl).1.bad
theorem rest_end {s : ByteArray} {k : Nat} (h : ¬ k < s.size) : rest s k = [] := List.eq_nil_of_length_eq_zero (by rw [rest_len]; omega)
theorem rest_more {s : ByteArray} {k : Nat} (h : k < s.size) : rest s k ≠ [] := fun h0 => by have := rest_len s k; rw [h0] at this; simp at this; omega
def okN : Value → Nat
  | .bool true => 1
  | _ => 0
/-- the cells of a row of the call's own. -/
theorem own_cells {e : TypeId} {w : World} {base n : Nat} {v : Value} {xs : List Int} (h : w.ownsRow base e 1 v n (xs.map (Value.int .i64))) (hn : 0 < n) : ∃ g c, v = .slice (some ⟨g, 0, none⟩) n c ∧ base ≤ g ∧ g < w.heap.size ∧ ∀ j x, xs[j]? = some x → w.cell? ⟨g, j, none⟩ = some (.int .i64 x) := by
  have h' := h
  rcases h.2 with ⟨_, h2⟩ | ⟨g, cap, cur, rfl, h3, h4, h5⟩
  · omega
  · refine ⟨g, cap, rfl, h3, (own_tag h g rfl).1.lt, fun j x hj => ?_⟩
    have hc := h'.cells (g := g) rfl j (.int .i64 x) (by simp [hj])
    have ha : (⟨g, 0, none⟩ : Addr).add j = ⟨g, j, none⟩ := by unfold Addr.add; split <;> simp_all
    rwa [ha] at hc

set_option maxHeartbeats 4000000 in
set_option maxRecDepth 100000 in
theorem rterms_calls (s : ByteArray) (i : Nat) (hi : i ≤ s.size) (hs : s.size ≤ 65536) (w : World) :
    Calls Tryd.prog 49 #[.string s, .int .i64 i] w (RTermsPost s i w) := by
  obtain ⟨infP, hiP, hp0, hp1, hp2⟩ := info_parts infoPt
  obtain ⟨infT, hiT, ht0, ht1, ht2⟩ := info_parts infoTm
  go_enter Tryd.func49, Tryd.ntmps49
  go_wp2_with fail
  refine (rtext2 s i ⟨#[32, 45, 62]⟩ hi hs (by decide) _).mono ?_
  rintro e w0 ⟨rfl, p0, ok0, rfl, hats0, -, -⟩
  have HATS0 : Hid (AtS s p0 ok0 (lit [32, 45, 62] (rest s i))) := hid hats0
  clear hats0
  go_wp2_with fail
  go_loopw [1, 6, 7] (fun vi vl' vk wr => ∃ (vl : Value) (ts : List Term) (p : Nat) (ok : Bool) (st : Option By), vl = vl' ∧ vi = .int .i64 p ∧ vk = .bool ok ∧ OwnR 76 termR wr (Tag 88 wr) w0.heap.size vl ts ∧ AtS s p ok st ∧ TsAt st (tailT (rest s i)) ts ∧ Below w0.heap.size w0 wr ∧ ts.length + (s.size - p) ≤ 70000) (fun vi _ vk _ => okN vk + (s.size - (intOf vi).toNat))
  case atStart =>
    refine ⟨_, [], p0, ok0, _, rfl, rfl, rfl, OwnR.nil, HATS0.out, ?_, Below.refl _ _, by simp; omega⟩
    unfold tailT
    cases hl : lit [32, 45, 62] (rest s i) with
    | none => exact .inr ⟨rfl, rfl⟩
    | some r =>
      refine .inl ⟨r, r.length + 1, rfl, Nat.lt_succ_self _, ?_⟩
      simp only [Option.bind_some, List.nil_append]
      cases termsF (r.length + 1) r <;> rfl
  case round =>
    obtain ⟨wo, hwo⟩ : ∃ wo, wo = wr := ⟨_, rfl⟩
    subst hwo
    obtain ⟨vl, ts, p, ok, st, rfl, rfl, rfl, hog, hats, hat, hb, hgl⟩ := hrel
    have hp := hats.1
    obtain ⟨A4, c4, rfl⟩ : ∃ A c, vl = .slice A ts.length c := by obtain ⟨_, _, ho, _⟩ := hog; exact row_form ho
    cases ok with
    | false =>
      have HT := hid (tail_of_none (by rw [hats.none] at hat; exact hat.bad : tailT (rest s i) = none))
      clear hats hat
      go_wp2_with fail
      go_ret2
      exact rterms_bad HT.out hb
    | true =>
      have HAT : Hid (TsAt (some (rest s p)) (tailT (rest s i)) ts) := hid (by rw [hats.some] at hat; exact hat)
      clear hats hat
      by_cases hps : p < s.size
      · have hps' : (p : Int) < s.size := by omega
        have hszw := hb.size
        go_wp2_with fail
        refine (rtext2 s p ⟨#[32, 40]⟩ hp hs (by decide) _).mono ?_
        rintro e w1 ⟨rfl, q, ok, rfl, hats, -, hq2⟩
        cases ok with
        | false =>
          have HT : Hid (tailF (rest s i) = none) := hid (by
            rcases HAT.out.fin (by show (lit [32, 40] (rest s p)).isSome = false; rw [show lit [32, 40] (rest s p) = none from hats.none]; rfl) with ⟨r, h1, h2⟩ | ⟨h1, _⟩
            · cases h1
              rw [tail_of_some h2, if_neg (rest_more hps)]
            · cases h1)
          clear hats hq2
          go_wp2_with fail
          go_ret2
          exact rterms_bad HT.out hb
        | true =>
          have HL := hid (show lit [32, 40] (rest s p) = some (rest s q) from lit_next hats)
          have hqs := hats.1
          have hpq : q = p + 2 := hq2 rfl
          have hpq' : p + 2 ≤ q := by omega
          clear hats hq2 hpq
          go_wp2_with fail
          refine (rlist_calls s q 5 hqs hs (by decide) _).mono ?_
          rintro e w2 ⟨hb2, v1, k, ok1, st1, xs, rfl, hfin1, hats1, hgood, hbadv⟩
          cases ok1 with
          | false =>
            have HT : Hid (tailF (rest s i) = none) := hid (tail_of_none (HAT.out.bad1 HL.out (by rw [hats1.none] at hfin1; exact hfin1)))
            have hv1 := hbadv rfl
            subst hv1
            clear hgood hbadv hfin1 hats1
            go_wp2_with fail
            go_ret2
            exact rterms_bad HT.out (hb.trans (hb2.mono hszw))
          | true =>
            obtain ⟨hown1, hxl, hall⟩ := hgood rfl
            obtain ⟨a0, a1, a2, a3, a4, rfl⟩ := list5 hxl
            obtain ⟨g1, c1, rfl, hg1ge, hg1lt, hcells⟩ := own_cells hown1 (by simp)
            have hks := hats1.1
            have HFIN1 : Hid (Fin (some (rest s k)) (numsF 0 5 (rest s q)) [a0, a1, a2, a3, a4]) := hid (by rw [hats1.some] at hfin1; exact hfin1)
            have hkq : q ≤ k := by
              rcases HFIN1.out with ⟨r, h1, h2⟩ | ⟨h1, _⟩
              · cases h1
                have := (numsF_some h2).2.2.2.2
                rw [rest_len, rest_len] at this
                omega
              · cases h1
            have r0 : w2.cell? ⟨g1, 0, none⟩ = some (.int .i64 a0) := hcells 0 a0 rfl
            have r1 : w2.cell? ⟨g1, 1, none⟩ = some (.int .i64 a1) := hcells 1 a1 rfl
            have r2 : w2.cell? ⟨g1, 2, none⟩ = some (.int .i64 a2) := hcells 2 a2 rfl
            have r3 : w2.cell? ⟨g1, 3, none⟩ = some (.int .i64 a3) := hcells 3 a3 rfl
            have r4 : w2.cell? ⟨g1, 4, none⟩ = some (.int .i64 a4) := hcells 4 a4 rfl
            have HR := hid (And.intro r0 (And.intro r1 (And.intro r2 (And.intro r3 r4))))
            clear hgood hbadv hfin1 hats1 hown1 hxl hcells r0 r1 r2 r3 r4
            go_wp2_with fail
            obtain ⟨ι, W, ⟨i0, hi0⟩, hW, Wsur⟩ := held_class w2.drew (fun g => g = g1)
            have hne : Nonempty ι := ⟨i0⟩
            have q0 : ∀ i, (W i).cell? ⟨g1, 0, none⟩ = some (.int .i64 a0) := fun i => (cell_of_heap_eq (w := w2) (hW i _ rfl)).trans HR.out.1
            have q1 : ∀ i, (W i).cell? ⟨g1, 1, none⟩ = some (.int .i64 a1) := fun i => (cell_of_heap_eq (w := w2) (hW i _ rfl)).trans HR.out.2.1
            have q2 : ∀ i, (W i).cell? ⟨g1, 2, none⟩ = some (.int .i64 a2) := fun i => (cell_of_heap_eq (w := w2) (hW i _ rfl)).trans HR.out.2.2.1
            have q3 : ∀ i, (W i).cell? ⟨g1, 3, none⟩ = some (.int .i64 a3) := fun i => (cell_of_heap_eq (w := w2) (hW i _ rfl)).trans HR.out.2.2.2.1
            have q4 : ∀ i, (W i).cell? ⟨g1, 4, none⟩ = some (.int .i64 a4) := fun i => (cell_of_heap_eq (w := w2) (hW i _ rfl)).trans HR.out.2.2.2.2
            have WS := hid Wsur; clear Wsur
            have HW := hid hW; clear hW
            have Hi0 := hid hi0; clear hi0
            refine region_anyL (S := fun w' => ∃ i, w' = W i) (last := 18) (by kernel_rfl) ?_
            refine anyL_seg 0 16 (by kernel_rfl) (fun _ _ _ _ _ h => h) ⟨i0, Hi0.out.symm⟩ (f := 2) rfl (by kernel_rfl) (by kernel_rfl) ?_
            simp only [List.drop_zero, List.take_succ_cons, List.take_zero]
            repeat go_big_quiet_step (fail)
            refine wpQuiet_nil ?_
            refine anyL_act (i := 16) (by kernel_rfl) rfl rfl ?_
            intro K hK
            go_wp2_with fail
            refine hK.out _ _ (fun _ => WS.out _ (fun g hg => by subst hg; exact Below.heap_alloc _ _ _ hg1lt)) ?_
            clear hK K
            refine anyL_act (i := 17) (by kernel_rfl) rfl rfl ?_
            intro K hK
            go_wp2_with fail
            refine hK.out _ _ (fun _ => WS.out _ (fun g hg => by subst hg; exact Below.heap_alloc _ _ _ hg1lt)) ?_
            clear hK K
            refine anyL_done (by kernel_rfl) ?_ _
            clear q0 q1 q2 q3 q4 WS HW Hi0 hne i0 W ι
            have hIa : I64 a0 ∧ I64 a1 ∧ I64 a2 ∧ I64 a3 ∧ I64 a4 := ⟨hall a0 (by simp), hall a1 (by simp), hall a2 (by simp), hall a3 (by simp), hall a4 (by simp)⟩
            have HIA := hid hIa
            have hgT : Below w1.heap.size w1 ((w2.alloc (.cells #[.int .i64 a0, .int .i64 a1, .int .i64 a2, .int .i64 a3, .int .i64 a4, .slice none 0 0] 76))).drew := (hb2.alloc hb2.size _).drew
            have hs12 := hb2.size
            clear hIa hall
            go_wp2_with fail
            go_loopw [1] (fun vi wq => ∃ (vp : Value) (ps : List Part) (k' : Nat), vi = .int .i64 k' ∧ wq.heap[w2.heap.size]? = some (.cells #[.int .i64 a0, .int .i64 a1, .int .i64 a2, .int .i64 a3, .int .i64 a4, vp] 76 (0, 0)) ∧ OwnP 88 wq w1.heap.size vp ps ∧
              k' ≤ s.size ∧ k ≤ k' ∧ PsAt (some (rest s k')) (partsF ((rest s k).length + 1) (rest s k)) ps ∧ Below w1.heap.size w1 wq ∧ w2.heap.size < wq.heap.size ∧ ps.length + (s.size - k') ≤ 70000) (fun vi _ => s.size - (intOf vi).toNat)
            case atStart =>
              refine ⟨_, [], k, rfl, heap_alloc_new w2 _, ⟨World.ownsRow_nil _ _ _ _, fun x hx => by cases hx⟩, hks, Nat.le_refl _, .inl ⟨_, _, rfl, Nat.lt_succ_self _, ?_⟩, hgT, by simp, by simp; omega⟩
              simp only [List.nil_append]
              cases partsF ((rest s k).length + 1) (rest s k) <;> rfl
            case round =>
              obtain ⟨wq, hwq'⟩ : ∃ wq, wq = wr := ⟨_, rfl⟩
              subst hwq'
              obtain ⟨vp, ps, k', rfl, hT5, hop, hk's, hkk, hatq, hbq, hszq, hpl⟩ := hrel
              have HT := hid hT5
              have HATQ := hid hatq
              obtain ⟨A3, cp3, rfl⟩ := row_form hop.1
              clear hT5 hatq
              go_wp2_with fail
              refine (rtext2 s k' ⟨#[59, 32]⟩ hk's hs (by decide) _).mono ?_
              rintro e w3 ⟨rfl, r, ok, rfl, hatsr, -, hr2⟩
              cases ok with
              | false =>
                have HFP := hid (HATQ.out.fin (by show (lit [59, 32] (rest s k')).isSome = false; rw [show lit [59, 32] (rest s k') = none from hatsr.none]; rfl))
                clear hatsr hr2
                go_wp2_with fail
                refine (rtext2 s k' ⟨#[41]⟩ hk's hs (by decide) _).mono ?_
                rintro e w4 ⟨rfl, z, okz, rfl, hatsz, hz1, hz2⟩
                have hzs := hatsz.1
                have HSTEP := hid (TsAt.step (s3 := lit [41] (rest s k')) HAT.out HL.out HFIN1.out HFP.out rfl)
                have HATSZ := hid hatsz
                have hkz : k' ≤ z := by cases okz with
                  | false => exact Nat.le_of_eq (hz1 rfl).symm
                  | true => have := hz2 rfl; omega
                have HT4 := HT
                have t0 : w4.cell? ⟨w2.heap.size, 0, none⟩ = some (.int .i64 a0) := by rw [Lib.cell_of_heap HT4.out]; rfl
                have t1 : w4.cell? ⟨w2.heap.size, 1, none⟩ = some (.int .i64 a1) := by rw [Lib.cell_of_heap HT4.out]; rfl
                have t2 : w4.cell? ⟨w2.heap.size, 2, none⟩ = some (.int .i64 a2) := by rw [Lib.cell_of_heap HT4.out]; rfl
                have t3 : w4.cell? ⟨w2.heap.size, 3, none⟩ = some (.int .i64 a3) := by rw [Lib.cell_of_heap HT4.out]; rfl
                have t4 : w4.cell? ⟨w2.heap.size, 4, none⟩ = some (.int .i64 a4) := by rw [Lib.cell_of_heap HT4.out]; rfl
                have t5 : w4.cell? ⟨w2.heap.size, 5, none⟩ = some (.slice A3 ps.length cp3) := by rw [Lib.cell_of_heap HT4.out]; rfl
                have hogr := OwnR.later hog hbq
                obtain ⟨css, hcl, hown, hel⟩ := hogr
                have HEL := hid hel
                have HCL := hid hcl
                clear hel hcl hatsz hz1 hz2
                go_wp2_with (at_builtin; refine Hid.out ?_)
                refine hid ?_
                refine wpList_append_own _ rfl _ _ 43 rfl w0.heap.size 76 infT _ 6 64 Tryd.underlying43 hiT ht0 ht1 ht2 rfl (by decide) _ _ _ rfl (hown.alloc _) ⟨w4.heap.size, 0, none⟩ 1 1 [.int .i64 a0, .int .i64 a1, .int .i64 a2, .int .i64 a3, .int .i64 a4, .slice A3 ps.length cp3] rfl rfl (news_at (w := w4) (cs := #[_, _, _, _, _, _]) rfl) (by simp [Value.oneCell']) (by unfold maxLen; omega) (by omega) (by simp; omega) ?_
                intro v' w6 hown6 hg6 hn6
                have hrow : ∀ g, (Value.slice A4 ts.length c4).ownBlock = some g → Tag 76 w4 g ∧ w0.heap.size ≤ g := fun g hg' => own_tag hown g hg'
                have hblk : ∀ g, g < w4.heap.size → ¬ Tag 76 w4 g → w6.heap[g]? = w4.heap[g]? := fun g hg' hnt =>
                  (hg6.block g (by simp; omega) (fun he => hnt (hrow g he.symm).1)).trans (Below.heap_alloc w4 _ g hg')
                have hsp : ∀ g, Tag 88 w4 g → w6.heap[g]? = w4.heap[g]? := fun g hg' => hblk g hg'.lt (fun ht => Tag.ne hg' ht (by decide) rfl)
                have hpsE : (listR partR).rel w6 (Tag 88 w6) [.slice A3 ps.length cp3] ps :=
                  (listR partR).mono (S := Tag 88 w4) (fun p hp => cell_of_heap_eq (hsp p.block hp)) (fun g hg' => hg'.keep (hsp g hg'))
                    (own_list (r := partR) (enc := Part.cells) hop.1 (fun g hg' => (own_tag hop.1 g hg').1) (fun x hx => ⟨rfl, rfl, hop.2 x hx⟩))
                have hogE : OwnR 76 termR w6 (Tag 88 w6) w0.heap.size v' (ts ++ [⟨a0, a1, a2, a3, a4, ps⟩]) :=
                  OwnR.push HCL.out hown6 (fun i x cs h1 h2 => termR.mono (fun p hp => cell_of_heap_eq (hsp p.block hp)) (fun g hg' => hg'.keep (hsp g hg')) (HEL.out i x cs h1 h2)) ⟨_, rfl, HIA.out, hpsE⟩
                have hbE : Below w0.heap.size w0 w6 := ((hb.trans (hbq.mono hszw)).alloc (by omega) _).grown hg6 (by simp; omega) (fun g hg' => (hrow g hg').2)
                clear hown6 hn6 hown hop hg6 hsp hblk hrow t0 t1 t2 t3 t4 t5
                go_wp2_with fail
                refine ⟨⟨_, _, z, okz, _, rfl, rfl, rfl, hogE, HATSZ.out, HSTEP.out.1, hbE, by simp; omega⟩, ?_⟩
                cases okz <;> simp [intOf, okN] <;> omega
              | true =>
                have HL2 := hid (show lit [59, 32] (rest s k') = some (rest s r) from lit_next hatsr)
                have hrs := hatsr.1
                have hkr : r = k' + 2 := hr2 rfl
                have hkr' : k' + 2 ≤ r := by omega
                clear hatsr hr2 hkr
                go_wp2_with fail
                refine (rlist_calls s r 4 hrs hs (by decide) _).mono ?_
                rintro e w5 ⟨hb5, v2, z, ok2, st2, ys, rfl, hfin2, hats2, hgood2, hbadv2⟩
                have hbE5 : Below w1.heap.size w1 w5 := hbq.trans (hb5.mono hbq.size)
                cases ok2 with
                | false =>
                  have HT : Hid (tailF (rest s i) = none) := hid (tail_of_none (HAT.out.bad2 HL.out HFIN1.out (by
                    have h1 := (PsAt.step HATQ.out HL2.out hfin2).1
                    rw [hats2.none] at h1
                    exact h1.bad)))
                  have hv1 := hbadv2 rfl
                  subst hv1
                  clear hgood2 hbadv2 hfin2 hats2
                  go_wp2_with fail
                  go_ret2
                  exact rterms_bad HT.out (hb.trans (hbE5.mono hszw))
                | true =>
                  obtain ⟨hown2, hyl, hall2⟩ := hgood2 rfl
                  obtain ⟨c0, c1', c2, c3, rfl⟩ := list4 hyl
                  obtain ⟨g2, cg2, rfl, hg2ge, hg2lt, hcells2⟩ := own_cells hown2 (by simp)
                  have hzs := hats2.1
                  have HS2 : Hid (Fin (some (rest s z)) (numsF 0 4 (rest s r)) [c0, c1', c2, c3]) := hid (by rw [hats2.some] at hfin2; exact hfin2)
                  have hzr : r ≤ z := by
                    rcases HS2.out with ⟨r', h1, h2⟩ | ⟨h1, _⟩
                    · cases h1
                      have := (numsF_some h2).2.2.2.2
                      rw [rest_len, rest_len] at this
                      omega
                    · cases h1
                  have r0 : w5.cell? ⟨g2, 0, none⟩ = some (.int .i64 c0) := hcells2 0 c0 rfl
                  have r1 : w5.cell? ⟨g2, 1, none⟩ = some (.int .i64 c1') := hcells2 1 c1' rfl
                  have r2 : w5.cell? ⟨g2, 2, none⟩ = some (.int .i64 c2) := hcells2 2 c2 rfl
                  have r3 : w5.cell? ⟨g2, 3, none⟩ = some (.int .i64 c3) := hcells2 3 c3 rfl
                  have HR2 := hid (And.intro r0 (And.intro r1 (And.intro r2 r3)))
                  have HTG2 : Hid (Tag 3 w5 g2) := hid (own_tag hown2 g2 rfl).1
                  have hop5 := ownP_keep hop (w' := w5) (fun g ht _ => hb5.block g ht.lt)
                  have HT5 := hid ((hb5.block _ hszq).trans HT.out)
                  have hsz5 := hbE5.size
                  have hp5lt : w2.heap.size < w5.heap.size := by have := hb5.size; omega
                  have HSTEP := hid (PsAt.step HATQ.out HL2.out HS2.out)
                  have HIC : Hid (Part.ok ⟨c0, c1', c2, c3⟩) := hid ⟨hall2 c0 (by simp), hall2 c1' (by simp), hall2 c2 (by simp), hall2 c3 (by simp)⟩
                  clear hgood2 hbadv2 hfin2 hats2 hown2 hyl hall2 hcells2 r0 r1 r2 r3 hop
                  go_wp2_with fail
                  obtain ⟨ι, W, ⟨i0, hi0⟩, hW, Wsur⟩ := held_class w5.drew (fun g => g = g2 ∨ g = w2.heap.size)
                  have hne : Nonempty ι := ⟨i0⟩
                  have q0 : ∀ i, (W i).cell? ⟨g2, 0, none⟩ = some (.int .i64 c0) := fun i => (cell_of_heap_eq (w := w5) (hW i _ (.inl rfl))).trans HR2.out.1
                  have q1 : ∀ i, (W i).cell? ⟨g2, 1, none⟩ = some (.int .i64 c1') := fun i => (cell_of_heap_eq (w := w5) (hW i _ (.inl rfl))).trans HR2.out.2.1
                  have q2 : ∀ i, (W i).cell? ⟨g2, 2, none⟩ = some (.int .i64 c2) := fun i => (cell_of_heap_eq (w := w5) (hW i _ (.inl rfl))).trans HR2.out.2.2.1
                  have q3 : ∀ i, (W i).cell? ⟨g2, 3, none⟩ = some (.int .i64 c3) := fun i => (cell_of_heap_eq (w := w5) (hW i _ (.inl rfl))).trans HR2.out.2.2.2
                  have q4 : ∀ i, (W i).cell? ⟨w2.heap.size, 5, none⟩ = some (.slice A3 ps.length cp3) := fun i => by rw [Lib.cell_of_heap ((hW i _ (.inr rfl)).trans HT5.out)]; rfl
                  have WS := hid Wsur; clear Wsur
                  have HW := hid hW; clear hW
                  have Hi0 := hid hi0; clear hi0
                  refine region_anyL (S := fun w' => ∃ i, w' = W i) (last := 18) (by kernel_rfl) ?_
                  refine anyL_seg 0 15 (by kernel_rfl) (fun _ _ _ _ _ h => h) ⟨i0, Hi0.out.symm⟩ (f := 4) rfl (by kernel_rfl) (by kernel_rfl) ?_
                  simp only [List.drop_zero, List.take_succ_cons, List.take_zero]
                  repeat go_big_quiet_step (fail)
                  refine wpQuiet_nil ?_
                  refine anyL_act (i := 15) (by kernel_rfl) rfl rfl ?_
                  intro K hK
                  go_wp2_with fail
                  refine hK.out _ _ (fun _ => WS.out _ (fun g hg => by rcases hg with rfl | rfl; exact Below.heap_alloc _ _ _ hg2lt; exact Below.heap_alloc _ _ _ hp5lt)) ?_
                  clear hK K
                  have howA : (w5.alloc (.cells #[.int .i64 c0, .int .i64 c1', .int .i64 c2, .int .i64 c3] 88)).drew.ownsRow w1.heap.size 88 4 (.slice A3 ps.length cp3) ps.length (ps.flatMap Part.cells) := hop5.1.alloc _
                  refine anyL_act (i := 16) (by kernel_rfl) rfl rfl ?_
                  intro K hK
                  refine act_append_at _ _ 74 rfl w1.heap.size 88 infP _ 4 32 Tryd.underlying74 hiP hp0 hp1 hp2 rfl (by decide) _ _ _ rfl howA ⟨w5.heap.size, 0, none⟩ 1 1 [.int .i64 c0, .int .i64 c1', .int .i64 c2, .int .i64 c3] rfl rfl (news_at (w := w5) (cs := #[_, _, _, _]) rfl) (by simp [Value.oneCell']) (by unfold maxLen; omega) (by omega) (by simp; omega) ?_
                  intro v' w6 hown6 hg6 _ _
                  go_simp
                  have htag6 : ∀ g, (Value.slice A3 ps.length cp3).ownBlock = some g → Tag 88 w5 g ∧ w1.heap.size ≤ g := fun g hg' => own_tag hop5.1 g hg'
                  have hkeep6 : ∀ g, g < w5.heap.size → ¬ Tag 88 w5 g → w6.heap[g]? = w5.heap[g]? := fun g hg' hnt =>
                    (hg6.block g (by simp; omega) (fun he => hnt (htag6 g he.symm).1)).trans (Below.heap_alloc w5 _ g hg')
                  have hk2 : w6.heap[g2]? = w5.heap[g2]? := hkeep6 g2 hg2lt (fun ht => Tag.ne HTG2.out ht (by decide) rfl)
                  have hk5 : w6.heap[w2.heap.size]? = w5.heap[w2.heap.size]? := hkeep6 _ hp5lt (fun ht => Tag.ne (t := 76) ⟨_, _, HT5.out⟩ ht (by decide) rfl)
                  refine hK.out _ _ (fun _ => WS.out _ (fun g hg => by rcases hg with rfl | rfl; exact hk2; exact hk5)) ?_
                  clear hK K
                  have hs6 : ∃ i, w6 = W i := WS.out _ (fun g hg => by rcases hg with rfl | rfl; exact hk2; exact hk5)
                  refine anyL_seg 17 1 (by kernel_rfl) (fun _ _ _ _ _ h => h) hs6 (f := 1) rfl (by kernel_rfl) (by kernel_rfl) ?_
                  simp only [List.drop_succ_cons, List.drop_zero, List.take_succ_cons, List.take_zero]
                  repeat go_big_quiet_step (fail)
                  refine wpQuiet_nil ?_
                  have HT6 := hid (hk5.trans HT5.out)
                  have z5 : w6.cell? ⟨w2.heap.size, 5, none⟩ = some (.slice A3 ps.length cp3) := by rw [Lib.cell_of_heap HT6.out]; rfl
                  have zf : w6.frozen? ⟨w2.heap.size, 5, none⟩ = false := Lib.frozen_of_heap HT6.out 5
                  obtain ⟨A6, cp6, rfl⟩ := row_form hown6
                  have HO6 := hid hown6
                  have HG6 := hid hg6
                  clear hown6 hg6
                  refine anyL_act (i := 18) (by kernel_rfl) rfl rfl ?_
                  intro K hK
                  go_wp2_with fail
                  refine hK.out _ _ (fun h => absurd rfl h) ?_
                  clear hK K
                  refine anyL_done (by kernel_rfl) ?_ _
                  clear q0 q1 q2 q3 q4 hs6 WS HW Hi0 hne i0 W ι
                  have hopE : OwnP 88 (w6.setCell ⟨w2.heap.size, 5, none⟩ (.slice A6 (ps.length + 1) cp6)) w1.heap.size (.slice A6 (ps.length + 1) cp6) (ps ++ [⟨c0, c1', c2, c3⟩]) := by
                    have h1 : OwnP 88 w6 w1.heap.size (.slice A6 (ps.length + 1) cp6) (ps ++ [⟨c0, c1', c2, c3⟩]) := OwnP.push (x := ⟨c0, c1', c2, c3⟩) HO6.out hop5.2 HIC.out
                    exact ownP_keep h1 (fun g ht _ => Below.heap_setCell _ _ _ _ (fun he => Tag.ne (t := 76) (g := w2.heap.size) ⟨_, _, HT6.out⟩ ht (by decide) he.symm))
                  have hTE := heap_set w6 w2.heap.size 5 (.slice A6 (ps.length + 1) cp6) HT6.out
                  have hgE : Below w1.heap.size w1 (w6.setCell ⟨w2.heap.size, 5, none⟩ (.slice A6 (ps.length + 1) cp6)) := ((hbE5.alloc hsz5 _).drew.grown HG6.out (by simp; omega) (fun g hg' => (htag6 g hg').2)).setCell (by show w1.heap.size ≤ w2.heap.size; omega) _
                  have hszE : w2.heap.size < (w6.setCell ⟨w2.heap.size, 5, none⟩ (.slice A6 (ps.length + 1) cp6)).heap.size := by have := HG6.out.size; simp [World.setCell] at this ⊢; omega
                  clear htag6 hkeep6 hk2 hk5 z5 zf howA
                  go_wp2_with fail
                  refine ⟨⟨_, _, z, rfl, hTE, hopE, hzs, by omega, HSTEP.out.1, hgE, hszE, by simp; omega⟩, ?_⟩
                  simp [intOf]; omega
      · have hps' : ¬ (p : Int) < s.size := by omega
        have HF : Hid (tailF (rest s i) = some ts) := hid (by
          rcases HAT.out.fin (by show (lit [32, 40] (rest s p)).isSome = false; rw [rest_end hps]; rfl) with ⟨r, h1, h2⟩ | ⟨h1, _⟩
          · cases h1
            rw [tail_of_some h2, if_pos (rest_end hps)]
          · cases h1)
        go_wp2_with fail
        go_ret2
        exact ⟨hb, _, true, ts, rfl, fun _ => ⟨HF.out, hog.rel (fun g hg' => .inr hg') (fun g hg' => .inl (hog.tag g hg').1)⟩, fun h => by cases h⟩
end Go.Proofs.YtcdnkmefcldfmaaDoor
