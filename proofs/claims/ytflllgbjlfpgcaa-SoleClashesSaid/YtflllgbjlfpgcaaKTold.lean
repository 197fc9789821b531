/-
  
-/
import Derived.Test.YtflllgbjlfpgcaaKHead
import Derived.Test.YtflllgbjlfpgcaaKPlain
import Derived.WalkKit
import Derived.ProofKit
import Derived.OpenShut
import Derived.ChangeOld
namespace Go.Proofs.Ytflllgbjlfpgcaa
open Go.RowKit Go.Um

theorem capped_sum {acc : Int} {l : List (List Span)} {M : Int} (h : sizeG acc l ≤ M) (ha : 0 ≤ acc) (hM : M < 4000) : ∀ g ∈ l, g.length ≤ 4000 := by
  induction l generalizing acc with
  | nil => simp
  | cons x xs ih =>
    intro g hg
    have hc := capped_bd x.length
    have hb := sizeG_bd (acc + capped x.length) xs
    simp only [sizeG] at h
    rcases List.mem_cons.1 hg with rfl | hg
    · unfold capped at hb h
      omega
    · exact ih h (by omega) g hg
theorem sizeF_mem {l : List (List Span)} {out : List Term} (h : sizeF l out ≤ 1500) : ∀ g ∈ l, g.length ≤ 4000 := by
  unfold sizeF at h
  split at h
  · omega
  · have := sizeT_bd (sizeG 1 l) out
    exact capped_sum (M := 1500) (acc := 1) (by omega) (by decide) (by decide)
theorem smallR_ge (acc : Int) (l : List Rule) : acc ≤ smallR acc l ∧ ∀ r ∈ l, sizeF r.guards r.out ≤ smallR acc l - acc := by
  induction l generalizing acc with
  | nil => simp [smallR]
  | cons x xs ih =>
    have hb := sizeF_bd x.guards x.out
    obtain ⟨h1, h2⟩ := ih (acc + sizeF x.guards x.out)
    refine ⟨by simp only [smallR]; omega, fun r hr => ?_⟩
    simp only [smallR]
    rcases List.mem_cons.1 hr with rfl | hr
    · omega
    · have := h2 r hr; omega
theorem smallE_ge (acc : Int) (l : List Final) : acc ≤ smallE acc l ∧ ∀ r ∈ l, sizeF r.guards r.out ≤ smallE acc l - acc := by
  induction l generalizing acc with
  | nil => simp [smallE]
  | cons x xs ih =>
    have hb := sizeF_bd x.guards x.out
    obtain ⟨h1, h2⟩ := ih (acc + sizeF x.guards x.out)
    refine ⟨by simp only [smallE]; omega, fun r hr => ?_⟩
    simp only [smallE]
    rcases List.mem_cons.1 hr with rfl | hr
    · omega
    · have := h2 r hr; omega
theorem small_bd {d : Desc} (h : smallF d = true) : d.rules.length ≤ 80 ∧ d.finals.length ≤ 80 ∧ ∀ o ∈ optsD d, ∀ g ∈ o.guards, g.length ≤ 4000 := by
  unfold smallF at h
  split at h
  · cases h
  · rename_i h0
    have h1 : smallE (smallR 0 d.rules) d.finals ≤ 1500 := by simpa using h
    have hr := smallR_ge 0 d.rules
    have he := smallE_ge (smallR 0 d.rules) d.finals
    refine ⟨by omega, by omega, fun o ho g hg => ?_⟩
    unfold optsD at ho
    rcases List.mem_append.1 ho with ho | ho
    · obtain ⟨r, hr1, rfl⟩ := List.mem_map.1 ho
      have := hr.2 r hr1
      exact sizeF_mem (l := r.guards) (out := r.out) (by omega) g hg
    · obtain ⟨r, hr1, rfl⟩ := List.mem_map.1 ho
      have := he.2 r hr1
      exact sizeF_mem (l := r.guards) (out := r.out) (by omega) g hg

theorem inner_spec {os : List Opt} {i : Nat} {o : Opt} {ks : List Int} {k : Int} (h : innerS os i o ks = some k) : pairF os i o k = true ∧ k ∈ ks := by
  induction ks with
  | nil => cases h
  | cons x xs ih =>
    unfold innerS at h
    split at h
    · cases h; rename_i h1; exact ⟨h1, List.mem_cons_self ..⟩
    · obtain ⟨h1, h2⟩ := ih h; exact ⟨h1, List.mem_cons_of_mem _ h2⟩
theorem outer_spec {os l : List Opt} {i : Nat} {a b : Int} (hl : os.drop i = l) (h : outerS os i l = some (a, b)) : ∃ (p q : Nat) (x y : Opt), a = p ∧ b = q ∧ p < q ∧ os[p]? = some x ∧ os[q]? = some y ∧ clashF x y = true := by
  induction l generalizing i with
  | nil => cases h
  | cons o r ih =>
    unfold outerS at h
    have ho : os[i]? = some o := by
      have := congrArg (·[0]?) hl
      simpa using this
    split at h
    · rename_i k hk
      obtain ⟨h1, h2⟩ := inner_spec hk
      obtain ⟨q, rfl, hq⟩ := mem_idxO h2
      simp at h
      obtain ⟨rfl, rfl⟩ := h
      obtain ⟨y, hy⟩ := at_lt hq
      simp [pairF, hy] at h1
      exact ⟨i, q, o, y, rfl, rfl, h1.1, ho, hy, h1.2⟩
    · refine ih (i := i + 1) ?_ h
      rw [drop_cons ho] at hl
      exact (List.cons.inj hl).2
theorem clashF_spec {a b : Opt} (h : clashF a b = true) : a.src = b.src ∧ (a.fin = true → a.guards.length = b.guards.length) ∧ (a.fin = false → b.fin = true → a.guards.length ≤ b.guards.length) ∧ meetG a.guards b.guards = true := by
  unfold clashF at h
  split at h
  · cases h
  · split at h
    · cases h
    · split at h
      · cases h
      · rename_i h1 h2 h3
        refine ⟨by simpa using h1, fun hf => ?_, fun hf hg => ?_, h⟩
        · simpa [hf] using h2
        · simpa [hf, hg] using h3

set_option maxHeartbeats 2000000 in
set_option maxRecDepth 100000 in
theorem told_calls (d : Desc) (v u : Value) (w : World) (hv : (listR ruleR).rel w (upto w.heap.size) [v] d.rules) (hu : (listR finalR).rel w (upto w.heap.size) [u] d.finals) :
    Calls Try.prog 4 #[.agg #[.int .i64 d.inn, .int .i64 d.out, .int .i64 d.states, .int .i64 d.start, v, u]] w fun e w' => e = .returned (.bool true) ∧ Below w.heap.size w w' := by
  have hsm := hid fun W (hW : Below w.heap.size w W) => small_calls d v u W ((listR ruleR).below hv hW hW.size) ((listR finalR).below hu hW hW.size) d.inn d.out d.states d.start
  have haw := hid awake_calls
  obtain ⟨A1, c1, rfl, hc1, hm1⟩ := list_form hv
  obtain ⟨A2, c2, rfl, hc2, hm2⟩ := list_form hu
  have hB0 : ∀ O W, Below (w.heap.size + 1) (w.alloc O) W → Below w.heap.size w W := fun O W h => ((Below.refl _ _).alloc (Nat.le_refl _) _).trans (low h (by omega))
  cases hs : smallF d with
  | false =>
    rw [hs] at hsm
    clear hv hu hs
    go_enter Try.func4, Try.ntmps4
    go_wp2_with fail
    refine (hsm.out _ ((Below.refl _ _).alloc (Nat.le_refl _) _)).mono ?_
    rintro e w1 ⟨rfl, hB⟩
    have hBw := hB0 _ _ (low hB (by simp))
    go_wp2_with fail
    refine (haw.out _).mono ?_
    rintro e w2 ⟨rfl, hB2⟩
    go_wp2_with fail
    go_ret
    exact ⟨rfl, hBw.trans (low hB2 hBw.size)⟩
  | true =>
    rw [hs] at hsm
    obtain ⟨hl1, hl2, hgl⟩ := small_bd hs
    have hcl := hid fun W (hW : Below w.heap.size w W) => Clash_calls d _ _ W ((listR ruleR).below hv hW hW.size) ((listR finalR).below hu hW hW.size) d.inn d.out d.states d.start (by omega) (by omega) (fun o ho g hg => Nat.le_trans (hgl o ho g hg) (by decide))
    cases hcs : outerS (optsD d) 0 (optsD d) with
    | none =>
      rw [show clashS (optsD d) = .tuple #[.int .i64 0, .int .i64 0, .bool false] by simp [clashS, hcs]] at hcl
      clear hv hu hs hcs hl1 hl2 hgl
      go_enter Try.func4, Try.ntmps4
      go_wp2_with fail
      refine (hsm.out _ ((Below.refl _ _).alloc (Nat.le_refl _) _)).mono ?_
      rintro e w1 ⟨rfl, hB⟩
      have hB1 : Below (w.heap.size + 1) (w.alloc (.cells #[.int .i64 d.inn, .int .i64 d.out, .int .i64 d.states, .int .i64 d.start, .slice A1 d.rules.length c1, .slice A2 d.finals.length c2] 26)) w1 := low hB (by simp)
      obtain ⟨p0, p1, p2, p3, p4, p5⟩ := box6 hB1
      have hz1 := hB1.size
      simp at hz1
      go_wp2_with fail
      refine (hcl.out _ (hB0 _ _ hB1)).mono ?_
      rintro e w2 ⟨rfl, hB2⟩
      have hBw := hB0 _ _ (hB1.trans (low hB2 hz1))
      go_wp2_with fail
      refine (haw.out _).mono ?_
      rintro e w3 ⟨rfl, hB3⟩
      go_wp2_with fail
      go_ret
      exact ⟨rfl, hBw.trans (low hB3 hBw.size)⟩
    | some r =>
      obtain ⟨ri, rk⟩ := r
      rw [show clashS (optsD d) = .tuple #[.int .i64 ri, .int .i64 rk, .bool true] by simp [clashS, hcs]] at hcl
      obtain ⟨i, k, ⟨sa, ga', fa⟩, ⟨sb, gb', fb⟩, rfl, rfl, hik, hoi, hok, hcf⟩ := outer_spec (i := 0) rfl hcs
      obtain ⟨hsrc, hlf, hlr, hmt⟩ := clashF_spec hcf
      dsimp only at hsrc hlf hlr hmt
      subst hsrc
      have hkn : k < d.rules.length + d.finals.length := by have := (List.getElem?_eq_some_iff.1 hok).1; simpa [optsD] using this
      have hop1 := hid fun W (hW : Below w.heap.size w W) => option_calls d _ _ W ((listR ruleR).below hv hW hW.size) ((listR finalR).below hu hW hW.size) d.inn d.out d.states d.start i _ hoi (by omega)
      have hop2 := hid fun W (hW : Below w.heap.size w W) => option_calls d _ _ W ((listR ruleR).below hv hW hW.size) ((listR finalR).below hu hW hW.size) d.inn d.out d.states d.start k _ hok (by omega)
      have hfa : fa = decide (d.rules.length ≤ i) := by
        by_cases h : i < d.rules.length
        · obtain ⟨r, _, h2⟩ := optsD_low hoi h; cases h2; simp; omega
        · obtain ⟨r, _, h2⟩ := optsD_high hoi (by omega); cases h2; simp; omega
      have hfb : fb = decide (d.rules.length ≤ k) := by
        by_cases h : k < d.rules.length
        · obtain ⟨r, _, h2⟩ := optsD_low hok h; cases h2; simp; omega
        · obtain ⟨r, _, h2⟩ := optsD_high hok (by omega); cases h2; simp; omega
      have hga := hgl _ (List.mem_of_getElem? hoi)
      have hgb := hgl _ (List.mem_of_getElem? hok)
      dsimp only at hga hgb
      have hL1 : d.rules.length ≤ i → ga'.length = gb'.length := fun h => hlf (by rw [hfa]; simpa using h)
      have hL2 : d.rules.length ≤ k → ga'.length ≤ gb'.length := fun h => by
        by_cases h2 : d.rules.length ≤ i
        · exact Nat.le_of_eq (hL1 h2)
        · exact hlr (by rw [hfa]; simpa using h2) (by rw [hfb]; simpa using h)
      have HL1 := hid hL1
      have HL2 := hid hL2
      have HGA := hid hga
      have HGB := hid hgb
      have HMT := hid hmt
      have f1 : ¬ (i : Int) < 0 := by omega
      have f2 : ¬ (k : Int) ≤ i := by omega
      have f3 : ¬ (d.rules.length : Int) + d.finals.length ≤ k := by omega
      have f4 : (i : Int) ≤ 200 := by omega
      have f5 : (k : Int) ≤ 200 := by omega
      clear hv hu hs hcs hgl hfa hfb hga hgb hmt hL1 hL2 hlf hlr hoi hok hcf hkn
      unfold maxLen at hm1 hm2
      go_enter Try.func4, Try.ntmps4
      go_wp2_with fail
      refine (hsm.out _ ((Below.refl _ _).alloc (Nat.le_refl _) _)).mono ?_
      rintro e w1 ⟨rfl, hB⟩
      have hB1 : Below (w.heap.size + 1) (w.alloc (.cells #[.int .i64 d.inn, .int .i64 d.out, .int .i64 d.states, .int .i64 d.start, .slice A1 d.rules.length c1, .slice A2 d.finals.length c2] 26)) w1 := low hB (by simp)
      obtain ⟨p0, p1, p2, p3, p4, p5⟩ := box6 hB1
      have hz1 := hB1.size
      simp at hz1
      go_wp2_with fail
      refine (hcl.out _ (hB0 _ _ hB1)).mono ?_
      rintro e w2 ⟨rfl, hB⟩
      clear p0 p1 p2 p3 p4 p5
      have hB2 := hB1.trans (low hB hz1)
      obtain ⟨p0, p1, p2, p3, p4, p5⟩ := box6 hB2
      have hz2 := hB2.size
      simp at hz2
      go_wp2_with fail
      refine (hop1.out _ (hB0 _ _ hB2)).mono ?_
      rintro e w3 ⟨y1, rfl, hy1, hB23⟩
      clear p0 p1 p2 p3 p4 p5
      have hB3 := hB2.trans (low hB23 hz2)
      obtain ⟨p0, p1, p2, p3, p4, p5⟩ := box6 hB3
      have hz3 := hB3.size
      simp at hz3
      go_wp2_with fail
      refine (hop2.out _ (hB0 _ _ hB3)).mono ?_
      rintro e w4 ⟨y2, rfl, hy2, hB34⟩
      clear p0 p1 p2 p3 p4 p5
      have hB4 := hB3.trans (low hB34 hz3)
      replace hy1 := (listR spansR).later ((listR spansR).later hy1 hB23) hB34
      replace hy2 := (listR spansR).later hy2 hB34
      have hBw := hB0 _ _ hB4
      obtain ⟨A3, c3, rfl, hc3, hm3⟩ := list_form hy1
      obtain ⟨A4, c4, rfl, hc4, hm4⟩ := list_form hy2
      unfold maxLen at hm3 hm4
      clear hB1 hB2 hB3 hB4 hz1 hz2 hz3
      go_wp2_with fail
      go_loopw [11] (fun vi wr => ∃ p : Nat, p ≤ ga'.length ∧ p ≤ gb'.length ∧ vi = .int .i64 p ∧ meetG (ga'.drop p) (gb'.drop p) = true ∧ Below w4.heap.size w4 wr) (fun vi _ => ga'.length - (intOf vi).toNat)
      case atStart => exact ⟨0, Nat.zero_le _, Nat.zero_le _, rfl, HMT.out, Below.refl _ _⟩
      case round =>
        obtain ⟨p, hp1, hp2, rfl, hmp, hB⟩ := hrel
        have HP := hid hmp; clear hmp
        have har := (listR spansR).mono (below_cells hB) (fun _ h => h) hy1
        have hbr := (listR spansR).mono (below_cells hB) (fun _ h => h) hy2
        by_cases hla : p < ga'.length
        · by_cases hlb : p < gb'.length
          · obtain ⟨x, hx⟩ := at_lt hla
            obtain ⟨y, hy⟩ := at_lt hlb
            obtain ⟨b1, o1, y1, rfl, hb1, hz1, h1⟩ := list_at1 rfl har hx
            obtain ⟨b2, o2, y2, rfl, hb2, hz2, h2⟩ := list_at1 rfl hbr hy
            have hka : (p : Int) < ga'.length := by omega
            have hkb : (p : Int) < gb'.length := by omega
            have hmm := HP.out
            rw [drop_cons hx, drop_cons hy] at hmm
            simp only [meetG, Bool.and_eq_true, Bool.not_eq_true'] at hmm
            obtain ⟨hme, hmr⟩ := hmm
            have HMR := hid hmr
            have hxl := Nat.le_trans (HGA.out x (List.mem_of_getElem? hx)) (by decide : 4000 ≤ 1073741824)
            have hyl := Nat.le_trans (HGB.out y (List.mem_of_getElem? hy)) (by decide : 4000 ≤ 1073741824)
            have hyw1 : spansR.rel wr.drew (upto wr.drew.heap.size) [y1] x := spansR.mono (fun _ _ => rfl) (fun b hb => Nat.lt_of_lt_of_le hb hB.size) hz1
            have hyw2 : spansR.rel wr.drew (upto wr.drew.heap.size) [y2] y := spansR.mono (fun _ _ => rfl) (fun b hb => Nat.lt_of_lt_of_le hb hB.size) hz2
            have hc' := Meets_calls x y y1 y2 wr.drew hyw1 hyw2 hxl hyl
            rw [hme] at hc'
            have hc := hid hc'
            have lb1 : b1 < wr.heap.size := Nat.lt_of_lt_of_le hb1 hB.size
            have lb2 : b2 < wr.heap.size := Nat.lt_of_lt_of_le hb2 hB.size
            clear hyw1 hyw2 hz1 hz2 hx hy har hbr HP hme hmr hc' hla hlb
            go_wp2_with fail
            obtain ⟨ι, W, ⟨i0, hi0⟩, hW, Wsur⟩ := ext_class wr.drew
            have hne : Nonempty ι := ⟨i0⟩
            have g1 : ∀ i, (W i).cell? ⟨b1, o1 + p, none⟩ = some y1 := fun i => ((hW i).cell lb1).trans h1
            have g2 : ∀ i, (W i).cell? ⟨b2, o2 + p, none⟩ = some y2 := fun i => ((hW i).cell lb2).trans h2
            have WS := hid Wsur; clear Wsur
            have HW := hid hW; clear hW
            have Hi0 := hid hi0; clear hi0
            refine region_anyL (S := fun w' => ∃ i, w' = W i) (last := 10) (by kernel_rfl) ?_
            refine anyL_seg 0 8 (by kernel_rfl) (fun _ _ _ _ _ h => h) ⟨i0, Hi0.out.symm⟩ (f := 2) rfl (by kernel_rfl) (by kernel_rfl) ?_
            simp only [List.drop_zero, List.take_succ_cons, List.take_zero]
            repeat go_big_quiet_step (fail)
            refine wpQuiet_nil ?_
            refine anyL_act (i := 8) (by kernel_rfl) rfl rfl ?_
            intro K hK
            go_wp2_with fail
            refine hc.out.mono ?_
            rintro e w5 ⟨rfl, hB5⟩
            go_wp2_with fail
            have hS3 := WS.out i0 w5 (by rw [Hi0.out]; exact hB5)
            refine hK.out _ _ (fun _ => hS3) ?_
            clear hK K
            have hBB : Below w4.heap.size w4 w5 := hB.trans (RowKit.Below.mono (w := wr) ⟨hB5.os, hB5.tape, hB5.output, hB5.size, hB5.block⟩ hB.size)
            refine anyL_act (i := 9) (by kernel_rfl) rfl rfl ?_
            intro K hK
            go_wp2_with fail
            refine hK.out _ _ (fun _ => hS3) ?_
            clear hK K
            refine anyL_done (by kernel_rfl) ?_ _
            clear hS3 g1 g2 WS HW Hi0 hne i0 W ι
            go_wp2_with fail
            refine ⟨⟨p + 1, by omega, by omega, by go_num, HMR.out, hBB⟩, ?_⟩
            simp [intOf]; omega
          · have hka : (p : Int) < ga'.length := by omega
            have hkb : ¬ (p : Int) < gb'.length := by omega
            clear har hbr HP
            by_cases q1 : (i : Int) < d.rules.length
            · by_cases q2 : (k : Int) < d.rules.length
              · go_wp2_with fail
                refine (haw.out _).mono ?_
                rintro e w6 ⟨rfl, hB6⟩
                go_wp2_with fail
                go_ret
                exact ⟨rfl, hBw.trans (low (hB.trans (low hB6 hB.size)) hBw.size)⟩
              · have l2 : (ga'.length : Int) ≤ gb'.length := by have := HL2.out (by omega); omega
                go_wp2_with fail
                refine (haw.out _).mono ?_
                rintro e w6 ⟨rfl, hB6⟩
                go_wp2_with fail
                go_ret
                exact ⟨rfl, hBw.trans (low (hB.trans (low hB6 hB.size)) hBw.size)⟩
            · have q2 : ¬ (k : Int) < d.rules.length := by omega
              have l0 : ga'.length = gb'.length := HL1.out (by omega)
              have l1 : ((ga'.length : Int) == gb'.length) = true := by simp [l0]
              have l2 : (ga'.length : Int) ≤ gb'.length := by omega
              have HL0 := hid l0; clear l0
              go_wp2_with fail
              refine (haw.out _).mono ?_
              rintro e w6 ⟨rfl, hB6⟩
              go_wp2_with fail
              go_ret
              exact ⟨rfl, hBw.trans (low (hB.trans (low hB6 hB.size)) hBw.size)⟩
        · have hka : ¬ (p : Int) < ga'.length := by omega
          clear har hbr HP
          by_cases q1 : (i : Int) < d.rules.length
          · by_cases q2 : (k : Int) < d.rules.length
            · go_wp2_with fail
              refine (haw.out _).mono ?_
              rintro e w6 ⟨rfl, hB6⟩
              go_wp2_with fail
              go_ret
              exact ⟨rfl, hBw.trans (low (hB.trans (low hB6 hB.size)) hBw.size)⟩
            · have l2 : (ga'.length : Int) ≤ gb'.length := by have := HL2.out (by omega); omega
              go_wp2_with fail
              refine (haw.out _).mono ?_
              rintro e w6 ⟨rfl, hB6⟩
              go_wp2_with fail
              go_ret
              exact ⟨rfl, hBw.trans (low (hB.trans (low hB6 hB.size)) hBw.size)⟩
          · have q2 : ¬ (k : Int) < d.rules.length := by omega
            have l0 : ga'.length = gb'.length := HL1.out (by omega)
            have l1 : ((ga'.length : Int) == gb'.length) = true := by simp [l0]
            have l2 : (ga'.length : Int) ≤ gb'.length := by omega
            have HL0 := hid l0; clear l0
            go_wp2_with fail
            refine (haw.out _).mono ?_
            rintro e w6 ⟨rfl, hB6⟩
            go_wp2_with fail
            go_ret
            exact ⟨rfl, hBw.trans (low (hB.trans (low hB6 hB.size)) hBw.size)⟩
end Go.Proofs.Ytflllgbjlfpgcaa
namespace Go.Proofs.Ytflllgbjlfpgcaa
open Go.RowKit Go.Um Go.ChangeShapes Go.WideShapes Go.ChangeAt Go.Deep

section
variable {H : Type} {enc : TypeId × Value → H} {w : World} {base : Nat} {spare : Nat → Bool} {held : Bool}
theorem rd_int {fuel : Nat} {v : Value} {x : DataW H × List MemPlace} {t : TypeId} (ht : Try.prog.underlying t = some (.int .i64)) (h : DataW.trod enc Try.prog w base spare held fuel t [v] = some x) : ∃ n : Int, v = .int .i64 n ∧ I64 n := by
  obtain ⟨n, h1, h2, h3⟩ := DataW.trod_int ht h
  simp at h1
  subst h1
  refine ⟨n, rfl, ?_⟩
  simp [Lit.wf] at h3
  exact ⟨h3.1, h3.2⟩
theorem rd_span {fuel : Nat} {cs : List Value} {x : DataW H × List MemPlace} (h : DataW.trod enc Try.prog w base spare held fuel 46 cs = some x) : ∃ y, spanR.rel w (upto w.heap.size) cs y := by
  obtain ⟨hl, n, hf⟩ := open_fields Try.underlying46 (by kernel_rfl) (by kernel_rfl) h
  obtain ⟨v0, y0, c0, t0⟩ := hf 0 _ rfl
  obtain ⟨v1, y1, c1, t1⟩ := hf 1 _ rfl
  obtain ⟨n0, rfl, i0⟩ := rd_int Try.underlying3 t0
  obtain ⟨n1, rfl, i1⟩ := rd_int Try.underlying3 t1
  match cs, hl with
  | [a, b], _ =>
    simp at c0 c1
    subst c0 c1
    exact ⟨⟨n0, n1⟩, rfl, i0, i1⟩
theorem rd_part {fuel : Nat} {cs : List Value} {x : DataW H × List MemPlace} (h : DataW.trod enc Try.prog w base spare held fuel 91 cs = some x) : ∃ y, partR.rel w (upto w.heap.size) cs y := by
  obtain ⟨hl, n, hf⟩ := open_fields Try.underlying91 (by kernel_rfl) (by kernel_rfl) h
  obtain ⟨v0, y0, c0, t0⟩ := hf 0 _ rfl
  obtain ⟨v1, y1, c1, t1⟩ := hf 1 _ rfl
  obtain ⟨v2, y2, c2, t2⟩ := hf 2 _ rfl
  obtain ⟨v3, y3, c3, t3⟩ := hf 3 _ rfl
  obtain ⟨n0, rfl, i0⟩ := rd_int Try.underlying3 t0
  obtain ⟨n1, rfl, i1⟩ := rd_int Try.underlying3 t1
  obtain ⟨n2, rfl, i2⟩ := rd_int Try.underlying3 t2
  obtain ⟨n3, rfl, i3⟩ := rd_int Try.underlying3 t3
  match cs, hl with
  | [a, b, c, d], _ =>
    simp at c0 c1 c2 c3
    subst c0 c1 c2 c3
    exact ⟨⟨n0, n1, n2, n3⟩, rfl, i0, i1, i2, i3⟩
theorem rd_spans {fuel : Nat} {cs : List Value} {x : DataW H × List MemPlace} (h : DataW.trod enc Try.prog w base spare held fuel 38 cs = some x) : ∃ ys, spansR.rel w (upto w.heap.size) cs ys :=
  open_rep (r := spanR) Try.underlying38 (by kernel_rfl) (by decide) (fun _ _ _ h => rd_span h) h
theorem rd_guards {fuel : Nat} {cs : List Value} {x : DataW H × List MemPlace} (h : DataW.trod enc Try.prog w base spare held fuel 34 cs = some x) : ∃ ys, (listR spansR).rel w (upto w.heap.size) cs ys :=
  open_rep (r := spansR) Try.underlying34 (by kernel_rfl) (by decide) (fun _ _ _ h => rd_spans h) h
theorem rd_parts {fuel : Nat} {cs : List Value} {x : DataW H × List MemPlace} (h : DataW.trod enc Try.prog w base spare held fuel 58 cs = some x) : ∃ ys, (listR partR).rel w (upto w.heap.size) cs ys :=
  open_rep (r := partR) Try.underlying58 (by kernel_rfl) (by decide) (fun _ _ _ h => rd_part h) h
theorem rd_term {fuel : Nat} {cs : List Value} {x : DataW H × List MemPlace} (h : DataW.trod enc Try.prog w base spare held fuel 60 cs = some x) : ∃ y, termR.rel w (upto w.heap.size) cs y := by
  obtain ⟨hl, n, hf⟩ := open_fields Try.underlying60 (by kernel_rfl) (by kernel_rfl) h
  obtain ⟨v0, y0, c0, t0⟩ := hf 0 _ rfl
  obtain ⟨v1, y1, c1, t1⟩ := hf 1 _ rfl
  obtain ⟨v2, y2, c2, t2⟩ := hf 2 _ rfl
  obtain ⟨v3, y3, c3, t3⟩ := hf 3 _ rfl
  obtain ⟨v4, y4, c4, t4⟩ := hf 4 _ rfl
  obtain ⟨v5, y5, c5, t5⟩ := hf 5 _ rfl
  obtain ⟨n0, rfl, i0⟩ := rd_int Try.underlying3 t0
  obtain ⟨n1, rfl, i1⟩ := rd_int Try.underlying3 t1
  obtain ⟨n2, rfl, i2⟩ := rd_int Try.underlying3 t2
  obtain ⟨n3, rfl, i3⟩ := rd_int Try.underlying3 t3
  obtain ⟨n4, rfl, i4⟩ := rd_int Try.underlying3 t4
  obtain ⟨ps, hp⟩ := rd_parts t5
  match cs, hl with
  | [a, b, c, d, e, f], _ =>
    simp at c0 c1 c2 c3 c4 c5
    subst c0 c1 c2 c3 c4 c5
    exact ⟨⟨n0, n1, n2, n3, n4, ps⟩, _, rfl, ⟨i0, i1, i2, i3, i4⟩, hp⟩
theorem rd_terms {fuel : Nat} {cs : List Value} {x : DataW H × List MemPlace} (h : DataW.trod enc Try.prog w base spare held fuel 40 cs = some x) : ∃ ys, (listR termR).rel w (upto w.heap.size) cs ys :=
  open_rep (r := termR) Try.underlying40 (by kernel_rfl) (by decide) (fun _ _ _ h => rd_term h) h
theorem rd_rule {fuel : Nat} {cs : List Value} {x : DataW H × List MemPlace} (h : DataW.trod enc Try.prog w base spare held fuel 42 cs = some x) : ∃ y, ruleR.rel w (upto w.heap.size) cs y := by
  obtain ⟨hl, n, hf⟩ := open_fields Try.underlying42 (by kernel_rfl) (by kernel_rfl) h
  obtain ⟨v0, y0, c0, t0⟩ := hf 0 _ rfl
  obtain ⟨v1, y1, c1, t1⟩ := hf 1 _ rfl
  obtain ⟨v2, y2, c2, t2⟩ := hf 2 _ rfl
  obtain ⟨v3, y3, c3, t3⟩ := hf 3 _ rfl
  obtain ⟨v4, y4, c4, t4⟩ := hf 4 _ rfl
  obtain ⟨n0, rfl, i0⟩ := rd_int Try.underlying3 t0
  obtain ⟨n1, rfl, i1⟩ := rd_int Try.underlying3 t1
  obtain ⟨gs, hg⟩ := rd_guards t2
  obtain ⟨n3, rfl, i3⟩ := rd_int Try.underlying3 t3
  obtain ⟨ts, ht⟩ := rd_terms t4
  match cs, hl with
  | [a, b, c, d, e], _ =>
    simp at c0 c1 c2 c3 c4
    subst c0 c1 c2 c3 c4
    exact ⟨⟨n0, n1, gs, n3, ts⟩, _, _, rfl, ⟨i0, i1, i3⟩, hg, ht⟩
theorem rd_final {fuel : Nat} {cs : List Value} {x : DataW H × List MemPlace} (h : DataW.trod enc Try.prog w base spare held fuel 44 cs = some x) : ∃ y, finalR.rel w (upto w.heap.size) cs y := by
  obtain ⟨hl, n, hf⟩ := open_fields Try.underlying44 (by kernel_rfl) (by kernel_rfl) h
  obtain ⟨v0, y0, c0, t0⟩ := hf 0 _ rfl
  obtain ⟨v1, y1, c1, t1⟩ := hf 1 _ rfl
  obtain ⟨v2, y2, c2, t2⟩ := hf 2 _ rfl
  obtain ⟨n0, rfl, i0⟩ := rd_int Try.underlying3 t0
  obtain ⟨gs, hg⟩ := rd_guards t1
  obtain ⟨ts, ht⟩ := rd_terms t2
  match cs, hl with
  | [a, b, c], _ =>
    simp at c0 c1 c2
    subst c0 c1 c2
    exact ⟨⟨n0, gs, ts⟩, _, _, rfl, i0, hg, ht⟩
theorem rd_rules {fuel : Nat} {cs : List Value} {x : DataW H × List MemPlace} (h : DataW.trod enc Try.prog w base spare held fuel 23 cs = some x) : ∃ ys, (listR ruleR).rel w (upto w.heap.size) cs ys :=
  open_rep (r := ruleR) Try.underlying23 (by kernel_rfl) (by decide) (fun _ _ _ h => rd_rule h) h
theorem rd_finals {fuel : Nat} {cs : List Value} {x : DataW H × List MemPlace} (h : DataW.trod enc Try.prog w base spare held fuel 24 cs = some x) : ∃ ys, (listR finalR).rel w (upto w.heap.size) cs ys :=
  open_rep (r := finalR) Try.underlying24 (by kernel_rfl) (by decide) (fun _ _ _ h => rd_final h) h
theorem rd_desc {fuel : Nat} {cs : List Value} {x : DataW H × List MemPlace} (h : DataW.trod enc Try.prog w base spare held fuel 26 cs = some x) : ∃ y, descR.rel w (upto w.heap.size) cs y := by
  obtain ⟨hl, n, hf⟩ := open_fields Try.underlying26 (by kernel_rfl) (by kernel_rfl) h
  obtain ⟨v0, y0, c0, t0⟩ := hf 0 _ rfl
  obtain ⟨v1, y1, c1, t1⟩ := hf 1 _ rfl
  obtain ⟨v2, y2, c2, t2⟩ := hf 2 _ rfl
  obtain ⟨v3, y3, c3, t3⟩ := hf 3 _ rfl
  obtain ⟨v4, y4, c4, t4⟩ := hf 4 _ rfl
  obtain ⟨v5, y5, c5, t5⟩ := hf 5 _ rfl
  obtain ⟨n0, rfl, i0⟩ := rd_int Try.underlying22 t0
  obtain ⟨n1, rfl, i1⟩ := rd_int Try.underlying22 t1
  obtain ⟨n2, rfl, i2⟩ := rd_int Try.underlying3 t2
  obtain ⟨n3, rfl, i3⟩ := rd_int Try.underlying3 t3
  obtain ⟨rs, hr⟩ := rd_rules t4
  obtain ⟨fs, hf'⟩ := rd_finals t5
  match cs, hl with
  | [a, b, c, d, e, f], _ =>
    simp at c0 c1 c2 c3 c4 c5
    subst c0 c1 c2 c3 c4 c5
    exact ⟨⟨n0, n1, n2, n3, rs, fs⟩, _, _, rfl, ⟨i0, i1, i2, i3⟩, hr, hf'⟩
end
end Go.Proofs.Ytflllgbjlfpgcaa
