/-
  
-/
import Derived.Test.YtmkmikacfilbpaaGreatKSole
namespace Go.Proofs.YtmkmikacfilbpaaGreat
open Go.RowKit Go.Um
def capped (n : Int) : Int := min n 4000
theorem capped_bd (n : Nat) : 0 ≤ capped n ∧ capped n ≤ 4000 := by unfold capped; omega
def sizeG (acc : Int) : List (List Span) → Int
  | [] => acc
  | g :: gs => sizeG (acc + capped g.length) gs
def sizeT (acc : Int) : List Term → Int
  | [] => acc
  | t :: ts => sizeT (acc + 1 + capped t.parts.length) ts
def sizeF (l : List (List Span)) (out : List Term) : Int := if 100 < l.length ∨ 200 < out.length then 4000 else sizeT (sizeG 1 l) out

set_option maxHeartbeats 400000 in
theorem size_calls (l : List (List Span)) (out : List Term) (v u : Value) (w : World) (S : Nat → Prop) (hl : (listR spansR).rel w S [v] l) (ho : (listR termR).rel w S [u] out) :
    Calls Tryz.prog 45 #[v, u] w fun e w' => e = .returned (.int .i64 (sizeF l out)) ∧ w = w' := by
  obtain ⟨A1, c1, rfl, hc1, hm1⟩ := list_form hl
  obtain ⟨A2, c2, rfl, hc2, hm2⟩ := list_form ho
  by_cases hbig : 100 < l.length ∨ 200 < out.length
  · have hF : sizeF l out = 4000 := by simp [sizeF, hbig]
    rw [hF]
    clear hF hl ho
    unfold maxLen at hm1 hm2
    by_cases h1 : 100 < l.length
    · have h1' : (100 : Int) < l.length := by omega
      clear hbig
      go_enter Tryz.func45, Tryz.ntmps45
      go_wp2
      go_ret
      exact ⟨rfl, rfl⟩
    · have h1' : ¬ (100 : Int) < l.length := by omega
      have h2' : (200 : Int) < out.length := by omega
      clear hbig
      go_enter Tryz.func45, Tryz.ntmps45
      go_wp2
      go_ret
      exact ⟨rfl, rfl⟩
  · have hF : sizeF l out = sizeT (sizeG 1 l) out := by simp [sizeF, hbig]
    rw [hF]
    clear hF
    unfold maxLen at hm1 hm2
    have q1 : ¬ (100 : Int) < l.length := by omega
    have q2 : ¬ (200 : Int) < out.length := by omega
    clear hbig
    go_enter Tryz.func45, Tryz.ntmps45
    go_wp2
    go_loop [5, 6] (fun n i => ∃ (k : Nat) (r : Int), k ≤ l.length ∧ i = .int .i64 k ∧ n = .int .i64 r ∧ 0 ≤ r ∧ r ≤ 1 + k * 4000 ∧ sizeG r (l.drop k) = sizeG 1 l) (fun _ i => l.length - (intOf i).toNat)
    case atStart => exact ⟨0, 1, by omega, rfl, rfl, by omega, by omega, rfl⟩
    case round =>
      obtain ⟨k, r, hk, rfl, rfl, hr1, hr2, hr3⟩ := hrel
      have H3 := hid hr3; clear hr3
      by_cases hlt : k < l.length
      · obtain ⟨x, hx⟩ := at_lt hlt
        obtain ⟨b, o, y, rfl, _, hy, hc⟩ := list_at1 rfl hl hx
        obtain ⟨A3, c3, rfl, _, _⟩ := list_form hy
        have hcb := capped_bd x.length
        have H4 : Hid (sizeG (r + capped x.length) (l.drop (k+1)) = sizeG 1 l) := by
          have := H3.out; rw [drop_cons hx] at this; exact hid this
        clear hx hy
        go_wp2
        refine ⟨⟨k + 1, r + capped x.length, by omega, by go_num, rfl, by omega, by omega, H4.out⟩, ?_⟩
        simp [intOf]; omega
      · have hke : k = l.length := by omega
        subst hke
        have hr4 : r = sizeG 1 l := by have := H3.out; simpa [sizeG] using this
        have hR : 0 ≤ r ∧ r ≤ 400001 := by omega
        clear H3
        have H5 := hid hr4; clear hr4 hr1 hr2
        obtain ⟨hR1, hR2⟩ := hR
        go_wp2
        go_loop [5, 7] (fun n i => ∃ (k : Nat) (s : Int), k ≤ out.length ∧ i = .int .i64 k ∧ n = .int .i64 s ∧ 0 ≤ s ∧ s ≤ 400001 + k * 4001 ∧ sizeT s (out.drop k) = sizeT r out) (fun _ i => out.length - (intOf i).toNat)
        case atStart => exact ⟨0, r, by omega, rfl, rfl, by omega, by omega, rfl⟩
        case round =>
          obtain ⟨k, s, hk, rfl, rfl, hs1, hs2, hs3⟩ := hrel
          have H3 := hid hs3; clear hs3
          by_cases hlt : k < out.length
          · obtain ⟨x, hx⟩ := at_lt hlt
            obtain ⟨b, o, y, rfl, _, _, _, _, _, _, hc, _, hy⟩ := term_at ho hx
            obtain ⟨A3, c3, rfl, _, _⟩ := list_form hy
            have hcb := capped_bd x.parts.length
            have H4 : Hid (sizeT (s + 1 + capped x.parts.length) (out.drop (k+1)) = sizeT r out) := by
              have := H3.out; rw [drop_cons hx] at this; exact hid this
            clear hx hy
            go_wp2
            refine ⟨⟨k + 1, s + 1 + capped x.parts.length, by omega, by go_num, rfl, by omega, by omega, H4.out⟩, ?_⟩
            simp [intOf]; omega
          · have hke : k = out.length := by omega
            subst hke
            have hr4 : s = sizeT r out := by have := H3.out; simpa [sizeT] using this
            have H6 := hid hr4
            clear H3 hr4
            go_wp2
            go_ret
            exact ⟨by rw [← H5.out, ← H6.out]; rfl, rfl⟩
def smallR (acc : Int) : List Rule → Int
  | [] => acc
  | r :: rs => smallR (acc + sizeF r.guards r.out) rs
def smallE (acc : Int) : List Final → Int
  | [] => acc
  | r :: rs => smallE (acc + sizeF r.guards r.out) rs
def smallF (d : Desc) : Bool := if 80 < d.rules.length ∨ 80 < d.finals.length then false else decide (smallE (smallR 0 d.rules) d.finals ≤ 1500)
theorem sizeG_bd (acc : Int) (l : List (List Span)) : acc ≤ sizeG acc l ∧ sizeG acc l ≤ acc + 4000 * l.length := by
  induction l generalizing acc with
  | nil => simp [sizeG]
  | cons g gs ih => have := ih (acc + capped g.length); have := capped_bd g.length; simp only [sizeG, List.length_cons]; omega
theorem sizeT_bd (acc : Int) (l : List Term) : acc ≤ sizeT acc l ∧ sizeT acc l ≤ acc + 4001 * l.length := by
  induction l generalizing acc with
  | nil => simp [sizeT]
  | cons g gs ih => have := ih (acc + 1 + capped g.parts.length); have := capped_bd g.parts.length; simp only [sizeT, List.length_cons]; omega
theorem sizeF_bd (l : List (List Span)) (out : List Term) : 0 ≤ sizeF l out ∧ sizeF l out ≤ 10000000 := by
  unfold sizeF
  have h1 := sizeG_bd 1 l
  have h2 := sizeT_bd (sizeG 1 l) out
  split <;> omega

set_option maxHeartbeats 1000000 in
theorem small_calls (d : Desc) (v u : Value) (w : World) (hv : (listR ruleR).rel w (upto w.heap.size) [v] d.rules) (hu : (listR finalR).rel w (upto w.heap.size) [u] d.finals) (a1 a2 a3 a4 : Int) :
    Calls Tryz.prog 14 #[.agg #[.int .i64 a1, .int .i64 a2, .int .i64 a3, .int .i64 a4, v, u]] w fun e w' => e = .returned (.bool (smallF d)) ∧ Below w.heap.size w w' := by
  obtain ⟨A1, c1, rfl, hc1, hm1⟩ := list_form hv
  obtain ⟨A2, c2, rfl, hc2, hm2⟩ := list_form hu
  unfold maxLen at hm1 hm2
  by_cases hbig : 80 < d.rules.length ∨ 80 < d.finals.length
  · have hF : smallF d = false := by simp [smallF, hbig]
    rw [hF]
    clear hF hv hu
    by_cases h1 : 80 < d.rules.length
    · have h1' : (80 : Int) < d.rules.length := by omega
      clear hbig
      go_enter Tryz.func14, Tryz.ntmps14
      go_wp2
      go_ret
      exact ⟨rfl, (Below.refl _ _).alloc (Nat.le_refl _) _⟩
    · have h1' : ¬ (80 : Int) < d.rules.length := by omega
      have h2' : (80 : Int) < d.finals.length := by omega
      clear hbig
      go_enter Tryz.func14, Tryz.ntmps14
      go_wp2
      go_ret
      exact ⟨rfl, (Below.refl _ _).alloc (Nat.le_refl _) _⟩
  · have hF : smallF d = decide (smallE (smallR 0 d.rules) d.finals ≤ 1500) := by simp [smallF, hbig]
    have HF := hid hF; clear hF
    have q1 : ¬ (80 : Int) < d.rules.length := by omega
    have q2 : ¬ (80 : Int) < d.finals.length := by omega
    clear hbig
    go_enter Tryz.func14, Tryz.ntmps14
    go_wp2
    go_loopw [3, 4] (fun n i wr => ∃ (k : Nat) (r : Int), k ≤ d.rules.length ∧ i = .int .i64 k ∧ n = .int .i64 r ∧ 0 ≤ r ∧ r ≤ k * 10000000 ∧ smallR r (d.rules.drop k) = smallR 0 d.rules ∧
        Below w.heap.size w wr ∧ wr.cell? ⟨w.heap.size, 4, none⟩ = some (.slice A1 d.rules.length c1) ∧ wr.cell? ⟨w.heap.size, 5, none⟩ = some (.slice A2 d.finals.length c2)) (fun _ i _ => d.rules.length - (intOf i).toNat)
    case atStart => exact ⟨0, 0, by omega, rfl, rfl, by omega, by omega, rfl, (Below.refl _ _).alloc (Nat.le_refl _) _, by go_simp, by go_simp⟩
    case round =>
      obtain ⟨k, r, hk, rfl, rfl, hr1, hr2, hr3, hB, hb1, hb2⟩ := hrel
      have H3 := hid hr3; clear hr3
      have hvr := (listR ruleR).mono (below_cells hB) (fun _ h => h) hv
      by_cases hlt : k < d.rules.length
      · obtain ⟨x, hx⟩ := at_lt hlt
        obtain ⟨b, o, y, z, rfl, hb, _, _, hcg, _, hco, _, hy, hz⟩ := rule_at hvr hx
        have hsb := sizeF_bd x.guards x.out
        have H4 : Hid (smallR (r + sizeF x.guards x.out) (d.rules.drop (k+1)) = smallR 0 d.rules) := by
          have := H3.out; rw [drop_cons hx] at this; exact hid this
        have hlt' : (k : Int) < d.rules.length := by omega
        have hsz : ∀ W : World, (∃ n, W = wr.drewN n) → Calls Tryz.prog 45 #[y, z] W fun e w' => e = .returned (.int .i64 (sizeF x.guards x.out)) ∧ W = w' := by
          rintro W ⟨n, rfl⟩
          exact size_calls _ _ _ _ _ _ hy hz
        have Hsz := hid hsz
        clear hx hlt hsz
        go_wp2_with fail
        go_quiet ((go_at_call 45; exact quiet_left (Hsz.out _ ⟨_, rfl⟩)))
        go_wp2
        refine ⟨⟨k + 1, r + sizeF x.guards x.out, by omega, by go_num, rfl, by omega, by omega, H4.out, below_drewN hB _, by go_simp, by go_simp⟩, ?_⟩
        simp [intOf]; omega
      · have hke : k = d.rules.length := by omega
        subst hke
        have hr4 : r = smallR 0 d.rules := by have := H3.out; simpa [smallR] using this
        have hR : 0 ≤ r ∧ r ≤ 800000000 := by omega
        clear H3 hvr
        have H5 := hid hr4; clear hr4 hr1 hr2
        obtain ⟨hR1, hR2⟩ := hR
        go_wp2
        go_loopw [3, 5] (fun n i wq => ∃ (k : Nat) (s : Int), k ≤ d.finals.length ∧ i = .int .i64 k ∧ n = .int .i64 s ∧ 0 ≤ s ∧ s ≤ 800000000 + k * 10000000 ∧ smallE s (d.finals.drop k) = smallE r d.finals ∧ Below w.heap.size w wq ∧ wq.cell? ⟨w.heap.size, 5, none⟩ = some (.slice A2 d.finals.length c2)) (fun _ i _ => d.finals.length - (intOf i).toNat)
        case atStart => exact ⟨0, r, by omega, rfl, rfl, by omega, by omega, rfl, hB, hb2⟩
        case round =>
          obtain ⟨k, s, hk, rfl, rfl, hs1, hs2, hs3, hB, hb2⟩ := hrel
          have H3 := hid hs3; clear hs3
          have hur := (listR finalR).mono (below_cells hB) (fun _ h => h) hu
          by_cases hlt : k < d.finals.length
          · obtain ⟨x, hx⟩ := at_lt hlt
            obtain ⟨b, o, y, z, rfl, hb, _, hcg, hco, _, hy, hz⟩ := final_at hur hx
            have hsb := sizeF_bd x.guards x.out
            have H4 : Hid (smallE (s + sizeF x.guards x.out) (d.finals.drop (k+1)) = smallE r d.finals) := by
              have := H3.out; rw [drop_cons hx] at this; exact hid this
            have hlt' : (k : Int) < d.finals.length := by omega
            have hsz : ∀ W : World, (∃ n, W = wr.drewN n) → Calls Tryz.prog 45 #[y, z] W fun e w' => e = .returned (.int .i64 (sizeF x.guards x.out)) ∧ W = w' := by
              rintro W ⟨n, rfl⟩
              exact size_calls _ _ _ _ _ _ hy hz
            have Hsz := hid hsz
            clear hx hlt hsz
            go_wp2_with fail
            go_quiet ((go_at_call 45; exact quiet_left (Hsz.out _ ⟨_, rfl⟩)))
            go_wp2
            refine ⟨⟨k + 1, s + sizeF x.guards x.out, by omega, by go_num, rfl, by omega, by omega, H4.out, below_drewN hB _, by go_simp⟩, ?_⟩
            simp [intOf]; omega
          · have hke : k = d.finals.length := by omega
            subst hke
            have hr4 : s = smallE r d.finals := by have := H3.out; simpa [smallE] using this
            have H6 := hid hr4
            clear H3 hr4 hur
            by_cases hs : s ≤ 1500
            · have hF : Hid (true = smallF d) := hid (by rw [HF.out, ← H5.out, ← H6.out]; simp [hs])
              clear HF
              go_wp2_with fail
              go_ret
              exact ⟨by rw [← hF.out]; rfl, hB⟩
            · have hF : Hid (false = smallF d) := hid (by rw [HF.out, ← H5.out, ← H6.out]; simp; omega)
              clear HF
              go_wp2_with fail
              go_ret
              exact ⟨by rw [← hF.out]; rfl, hB⟩
end Go.Proofs.YtmkmikacfilbpaaGreat
namespace Go.Proofs.YtmkmikacfilbpaaGreat
open Go.RowKit Go.Um

/-- sole's meet. -/
def meetG : List (List Span) → List (List Span) → Bool
  | x :: a, y :: b => !(meetF x y).isEmpty && meetG a b
  | _, _ => true
theorem meetG_end (a b : List (List Span)) (h : a = [] ∨ b = []) : meetG a b = true := by
  rcases h with rfl | rfl
  · simp [meetG]
  · cases a <;> simp [meetG]

set_option maxHeartbeats 1000000 in
set_option maxRecDepth 100000 in
theorem smeet_calls (a b : List (List Span)) (v u : Value) (w : World) (ha : (listR spansR).rel w (upto w.heap.size) [v] a) (hb : (listR spansR).rel w (upto w.heap.size) [u] b)
    (hla : ∀ g ∈ a, g.length ≤ 1073741824) (hlb : ∀ g ∈ b, g.length ≤ 1073741824) :
    Calls Tryz.prog 113 #[v, u] w fun e w' => e = .returned (.bool (meetG a b)) ∧ Below w.heap.size w w' := by
  obtain ⟨A1, c1, rfl, hc1, hm1⟩ := list_form ha
  obtain ⟨A2, c2, rfl, hc2, hm2⟩ := list_form hb
  unfold maxLen at hm1 hm2
  obtain ⟨m, hm⟩ : ∃ m : Nat, m = min a.length b.length := ⟨_, rfl⟩
  have e1 : min (a.length : Int) (b.length : Int) = m := by omega
  have e2 : (if (b.length : Int) < a.length then (b.length : Int) else a.length) = m := by omega
  have e3 : (if (a.length : Int) < b.length then (a.length : Int) else b.length) = m := by omega
  have hma : m ≤ a.length := by omega
  have hmb : m ≤ b.length := by omega
  have Hm := hid hm; clear hm
  go_enter Tryz.func113, Tryz.ntmps113
  go_wp2_with fail
  clear e1 e2 e3
  go_loopw [11] (fun vi wr => ∃ k : Nat, k ≤ m ∧ vi = .int .i64 k ∧ meetG (a.drop k) (b.drop k) = meetG a b ∧ Below w.heap.size w wr) (fun vi _ => m - (intOf vi).toNat)
  case atStart => exact ⟨0, Nat.zero_le _, rfl, rfl, Below.refl _ _⟩
  case round =>
    obtain ⟨k, hk, rfl, hp, hB⟩ := hrel
    have HP := hid hp; clear hp
    have har := (listR spansR).mono (below_cells hB) (fun _ h => h) ha
    have hbr := (listR spansR).mono (below_cells hB) (fun _ h => h) hb
    by_cases hlt : k < m
    · obtain ⟨x, hx⟩ := at_lt (xs := a) (i := k) (by omega)
      obtain ⟨y, hy⟩ := at_lt (xs := b) (i := k) (by omega)
      obtain ⟨b1, o1, y1, rfl, hb1, hy1, h1⟩ := list_at1 rfl har hx
      obtain ⟨b2, o2, y2, rfl, hb2, hy2, h2⟩ := list_at1 rfl hbr hy
      have hlt' : (k : Int) < m := by omega
      have hka : (k : Int) < a.length := by omega
      have hkb : (k : Int) < b.length := by omega
      have HP2 : Hid ((!(meetF x y).isEmpty && meetG (a.drop (k + 1)) (b.drop (k + 1))) = meetG a b) := hid (by have := HP.out; rw [drop_cons hx, drop_cons hy] at this; exact this)
      have hxl := hla x (List.mem_of_getElem? hx)
      have hyl := hlb y (List.mem_of_getElem? hy)
      have hyw1 : spansR.rel wr.drew (upto wr.drew.heap.size) [y1] x := spansR.mono (fun _ _ => rfl) (fun b hb => Nat.lt_of_lt_of_le hb hB.size) hy1
      have hyw2 : spansR.rel wr.drew (upto wr.drew.heap.size) [y2] y := spansR.mono (fun _ _ => rfl) (fun b hb => Nat.lt_of_lt_of_le hb hB.size) hy2
      have hc := hid (Meets_calls x y y1 y2 wr.drew hyw1 hyw2 hxl hyl)
      have lb1 : b1 < wr.heap.size := Nat.lt_of_lt_of_le hb1 hB.size
      have lb2 : b2 < wr.heap.size := Nat.lt_of_lt_of_le hb2 hB.size
      clear hyw1 hyw2 hy1 hy2 hx hy har hbr HP
      go_wp2_with fail
      obtain ⟨ι, W, ⟨i0, hi0⟩, hW, Wsur⟩ := ext_class wr.drew
      have hne : Nonempty ι := ⟨i0⟩
      have g1 : ∀ i, (W i).cell? ⟨b1, o1 + k, none⟩ = some y1 := fun i => ((hW i).cell lb1).trans h1
      have g2 : ∀ i, (W i).cell? ⟨b2, o2 + k, none⟩ = some y2 := fun i => ((hW i).cell lb2).trans h2
      have WS := hid Wsur; clear Wsur
      have HW := hid hW; clear hW
      have Hi0 := hid hi0; clear hi0
      refine region_anyL (S := fun w' => ∃ i, w' = W i) (last := 10) (by kernel_rfl) ?_
      refine anyL_seg 0 8 (by kernel_rfl) (fun _ _ _ _ _ h => h) ⟨i0, Hi0.out.symm⟩ (f := 2) rfl (by kernel_rfl) (by kernel_rfl) ?_
      simp only [List.drop_zero, List.take_succ_cons, List.take_zero]
      repeat go_big_quiet_step (fail)
      refine wpQuiet_nil ?_
      refine anyL_act (i := 8) (by kernel_rfl) rfl rfl ?_
      intro K hK
      go_wp2_with fail
      refine hc.out.mono ?_
      rintro e w3 ⟨rfl, hB3⟩
      go_wp2_with fail
      have hS3 := WS.out i0 w3 (by rw [Hi0.out]; exact hB3)
      refine hK.out _ _ (fun _ => hS3) ?_
      clear hK K
      have hBB : Below w.heap.size w w3 := hB.trans (RowKit.Below.mono (w := wr) ⟨hB3.os, hB3.tape, hB3.output, hB3.size, hB3.block⟩ hB.size)
      refine anyL_act (i := 9) (by kernel_rfl) rfl rfl ?_
      intro K hK
      go_wp2_with fail
      refine hK.out _ _ (fun _ => hS3) ?_
      clear hK K
      refine anyL_done (by kernel_rfl) ?_ _
      clear hS3 g1 g2 WS HW Hi0 hne i0 W ι
      cases hmf : (meetF x y).isEmpty with
      | true =>
        have hF : Hid (false = meetG a b) := hid (by have := HP2.out; rw [hmf] at this; exact this)
        clear hmf
        go_wp2_with fail
        go_ret
        exact ⟨by rw [← hF.out]; rfl, hBB⟩
      | false =>
        have hF : Hid (meetG (a.drop (k + 1)) (b.drop (k + 1)) = meetG a b) := hid (by have := HP2.out; rw [hmf] at this; exact this)
        clear hmf
        go_wp2_with fail
        refine ⟨⟨k + 1, by omega, by go_num, hF.out, hBB⟩, ?_⟩
        simp [intOf]; omega
    · have hke : k = m := by omega
      subst hke
      have hF : Hid (true = meetG a b) := hid (by have := HP.out; rw [meetG_end _ _ (by have := Hm.out; simp; omega)] at this; exact this)
      clear HP har hbr
      go_wp2_with fail
      go_ret
      exact ⟨by rw [← hF.out]; rfl, hB⟩

structure Opt where
  src : Int
  guards : List (List Span)
  fin : Bool
def clashF (a b : Opt) : Bool := if a.src ≠ b.src then false else if a.fin = true ∧ a.guards.length ≠ b.guards.length then false else if a.fin = false ∧ b.fin = true ∧ b.guards.length < a.guards.length then false else meetG a.guards b.guards

set_option maxHeartbeats 1000000 in
theorem clash_calls (a b : Opt) (v u : Value) (w : World) (ha : (listR spansR).rel w (upto w.heap.size) [v] a.guards) (hb : (listR spansR).rel w (upto w.heap.size) [u] b.guards)
    (hla : ∀ g ∈ a.guards, g.length ≤ 1073741824) (hlb : ∀ g ∈ b.guards, g.length ≤ 1073741824) :
    Calls Tryz.prog 87 #[.agg #[.int .i64 a.src, v, .bool a.fin], .agg #[.int .i64 b.src, u, .bool b.fin]] w fun e w' => e = .returned (.bool (clashF a b)) ∧ Below w.heap.size w w' := by
  obtain ⟨A1, c1, rfl, hc1, hm1⟩ := list_form ha
  obtain ⟨A2, c2, rfl, hc2, hm2⟩ := list_form hb
  unfold maxLen at hm1 hm2
  have HM : Hid (∀ W, Below w.heap.size w W → Calls Tryz.prog 113 #[.slice A1 a.guards.length c1, .slice A2 b.guards.length c2] W fun e w' => e = .returned (.bool (meetG a.guards b.guards)) ∧ Below W.heap.size W w') :=
    hid fun W hW => smeet_calls _ _ _ _ W ((listR spansR).below ha hW hW.size) ((listR spansR).below hb hW hW.size) hla hlb
  clear ha hb hla hlb
  obtain ⟨s1, G1, f1⟩ := a
  obtain ⟨s2, G2, f2⟩ := b
  simp only at *
  have hB : ∀ o1 o2, Below w.heap.size w ((w.alloc o1).alloc o2) := fun o1 o2 => ((Below.refl _ _).alloc (Nat.le_refl _) _).alloc (by simp) _
  by_cases hs : s1 = s2
  · subst hs
    cases f1 with
    | true =>
      by_cases hl : G1.length = G2.length
      · have hl1 : ((G1.length : Int) == G2.length) = true := by simp; exact_mod_cast hl
        have hl2 : ((G1.length : Int) != G2.length) = false := by simp; exact_mod_cast hl
        have HL := hid hl; clear hl
        cases f2 with
        | true =>
          have hF : Hid (meetG G1 G2 = clashF ⟨s1, G1, true⟩ ⟨s1, G2, true⟩) := hid (by simp [clashF, HL.out])
          go_enter Tryz.func87, Tryz.ntmps87
          go_wp2_with fail
          refine (HM.out _ (hB _ _)).mono ?_
          rintro e w1 ⟨rfl, hB1⟩
          go_wp2_with fail
          go_ret
          exact ⟨by rw [← hF.out]; rfl, (hB _ _).trans (hB1.mono (hB _ _).size)⟩
        | false =>
          have hF : Hid (meetG G1 G2 = clashF ⟨s1, G1, true⟩ ⟨s1, G2, false⟩) := hid (by simp [clashF, HL.out])
          go_enter Tryz.func87, Tryz.ntmps87
          go_wp2_with fail
          refine (HM.out _ (hB _ _)).mono ?_
          rintro e w1 ⟨rfl, hB1⟩
          go_wp2_with fail
          go_ret
          exact ⟨by rw [← hF.out]; rfl, (hB _ _).trans (hB1.mono (hB _ _).size)⟩
      · have hl1 : ((G1.length : Int) == G2.length) = false := by simp; exact_mod_cast hl
        have hl2 : ((G1.length : Int) != G2.length) = true := by simp; exact_mod_cast hl
        have HL := hid hl; clear hl
        cases f2 with
        | true =>
          have hF : Hid (false = clashF ⟨s1, G1, true⟩ ⟨s1, G2, true⟩) := hid (by simp [clashF, HL.out])
          go_enter Tryz.func87, Tryz.ntmps87
          go_wp2_with fail
          go_ret
          exact ⟨by rw [← hF.out]; rfl, hB _ _⟩
        | false =>
          have hF : Hid (false = clashF ⟨s1, G1, true⟩ ⟨s1, G2, false⟩) := hid (by simp [clashF, HL.out])
          go_enter Tryz.func87, Tryz.ntmps87
          go_wp2_with fail
          go_ret
          exact ⟨by rw [← hF.out]; rfl, hB _ _⟩
    | false =>
      cases f2 with
      | true =>
        by_cases hl : G2.length < G1.length
        · have hl1 : (G2.length : Int) < G1.length := by omega
          have hF : Hid (false = clashF ⟨s1, G1, false⟩ ⟨s1, G2, true⟩) := hid (by simp [clashF, hl])
          go_enter Tryz.func87, Tryz.ntmps87
          go_wp2_with fail
          go_ret
          exact ⟨by rw [← hF.out]; rfl, hB _ _⟩
        · have hl1 : ¬ (G2.length : Int) < G1.length := by omega
          have hF : Hid (meetG G1 G2 = clashF ⟨s1, G1, false⟩ ⟨s1, G2, true⟩) := hid (by simp [clashF, hl])
          go_enter Tryz.func87, Tryz.ntmps87
          go_wp2_with fail
          refine (HM.out _ (hB _ _)).mono ?_
          rintro e w1 ⟨rfl, hB1⟩
          go_wp2_with fail
          go_ret
          exact ⟨by rw [← hF.out]; rfl, (hB _ _).trans (hB1.mono (hB _ _).size)⟩
      | false =>
        have hF : Hid (meetG G1 G2 = clashF ⟨s1, G1, false⟩ ⟨s1, G2, false⟩) := hid (by simp [clashF])
        go_enter Tryz.func87, Tryz.ntmps87
        go_wp2_with fail
        refine (HM.out _ (hB _ _)).mono ?_
        rintro e w1 ⟨rfl, hB1⟩
        go_wp2_with fail
        go_ret
        exact ⟨by rw [← hF.out]; rfl, (hB _ _).trans (hB1.mono (hB _ _).size)⟩
  · have h1 : (s1 == s2) = false := by simpa using hs
    have h2 : (s1 != s2) = true := by simpa using hs
    have HS := hid hs; clear hs
    cases f1 <;> cases f2
    · have hF : Hid (false = clashF ⟨s1, G1, false⟩ ⟨s2, G2, false⟩) := hid (by simp [clashF, HS.out])
      go_enter Tryz.func87, Tryz.ntmps87
      go_wp2_with fail
      go_ret
      exact ⟨by rw [← hF.out]; rfl, hB _ _⟩
    · have hF : Hid (false = clashF ⟨s1, G1, false⟩ ⟨s2, G2, true⟩) := hid (by simp [clashF, HS.out])
      go_enter Tryz.func87, Tryz.ntmps87
      go_wp2_with fail
      go_ret
      exact ⟨by rw [← hF.out]; rfl, hB _ _⟩
    · have hF : Hid (false = clashF ⟨s1, G1, true⟩ ⟨s2, G2, false⟩) := hid (by simp [clashF, HS.out])
      go_enter Tryz.func87, Tryz.ntmps87
      go_wp2_with fail
      go_ret
      exact ⟨by rw [← hF.out]; rfl, hB _ _⟩
    · have hF : Hid (false = clashF ⟨s1, G1, true⟩ ⟨s2, G2, true⟩) := hid (by simp [clashF, HS.out])
      go_enter Tryz.func87, Tryz.ntmps87
      go_wp2_with fail
      go_ret
      exact ⟨by rw [← hF.out]; rfl, hB _ _⟩
end Go.Proofs.YtmkmikacfilbpaaGreat
