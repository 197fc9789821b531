import Derived.Test.YtcdnkmefcldfmaaDoorPgPa

namespace Go.Proofs.YtcdnkmefcldfmaaDoor
open Go.RowKit Go.Um
def capped (n : Int) : Int := min n 4000
theorem capped_bd (n : Nat) : 0 ≤ capped n ∧ capped n ≤ 4000 := by unfold capped; omega
def sizeG (acc : Int) : List (List Span) → Int
  | [] => acc
  | g :: gs => sizeG (acc + capped g.length) gs
def sizeT (acc : Int) : List Term → Int
  | [] => acc
  | t :: ts => sizeT (acc + 1 + capped t.parts.length) ts
def sizeF (l : List (List Span)) (out : List Term) : Int := if 100 < l.length ∨ 200 < out.length then 4000 else sizeT (sizeG 1 l) out

set_option maxHeartbeats 400000 in
theorem size_calls (l : List (List Span)) (out : List Term) (v u : Value) (w : World) (S : Nat → Prop) (hl : (listR spansR).rel w S [v] l) (ho : (listR termR).rel w S [u] out) :
    Calls Tryd.prog 15 #[v, u] w fun e w' => e = .returned (.int .i64 (sizeF l out)) ∧ w = w' := by
  obtain ⟨A1, c1, rfl, hc1, hm1⟩ := list_form hl
  obtain ⟨A2, c2, rfl, hc2, hm2⟩ := list_form ho
  by_cases hbig : 100 < l.length ∨ 200 < out.length
  · have hF : sizeF l out = 4000 := by simp [sizeF, hbig]
    rw [hF]
    clear hF hl ho
    unfold maxLen at hm1 hm2
    by_cases h1 : 100 < l.length
    · have h1' : (100 : Int) < l.length := by omega
      clear hbig
      go_enter Tryd.func15, Tryd.ntmps15
      go_wp2
      go_ret
      exact ⟨rfl, rfl⟩
    · have h1' : ¬ (100 : Int) < l.length := by omega
      have h2' : (200 : Int) < out.length := by omega
      clear hbig
      go_enter Tryd.func15, Tryd.ntmps15
      go_wp2
      go_ret
      exact ⟨rfl, rfl⟩
  · have hF : sizeF l out = sizeT (sizeG 1 l) out := by simp [sizeF, hbig]
    rw [hF]
    clear hF
    unfold maxLen at hm1 hm2
    have q1 : ¬ (100 : Int) < l.length := by omega
    have q2 : ¬ (200 : Int) < out.length := by omega
    clear hbig
    go_enter Tryd.func15, Tryd.ntmps15
    go_wp2
    go_loop [5, 6] (fun n i => ∃ (k : Nat) (r : Int), k ≤ l.length ∧ i = .int .i64 k ∧ n = .int .i64 r ∧ 0 ≤ r ∧ r ≤ 1 + k * 4000 ∧ sizeG r (l.drop k) = sizeG 1 l) (fun _ i => l.length - (intOf i).toNat)
    case atStart => exact ⟨0, 1, by omega, rfl, rfl, by omega, by omega, rfl⟩
    case round =>
      obtain ⟨k, r, hk, rfl, rfl, hr1, hr2, hr3⟩ := hrel
      have H3 := hid hr3; clear hr3
      by_cases hlt : k < l.length
      · obtain ⟨x, hx⟩ := at_lt hlt
        obtain ⟨b, o, y, rfl, _, hy, hc⟩ := list_at1 rfl hl hx
        obtain ⟨A3, c3, rfl, _, _⟩ := list_form hy
        have hcb := capped_bd x.length
        have H4 : Hid (sizeG (r + capped x.length) (l.drop (k+1)) = sizeG 1 l) := by
          have := H3.out; rw [drop_cons hx] at this; exact hid this
        clear hx hy
        go_wp2
        refine ⟨⟨k + 1, r + capped x.length, by omega, by go_num, rfl, by omega, by omega, H4.out⟩, ?_⟩
        simp [intOf]; omega
      · have hke : k = l.length := by omega
        subst hke
        have hr4 : r = sizeG 1 l := by have := H3.out; simpa [sizeG] using this
        have hR : 0 ≤ r ∧ r ≤ 400001 := by omega
        clear H3
        have H5 := hid hr4; clear hr4 hr1 hr2
        obtain ⟨hR1, hR2⟩ := hR
        go_wp2
        go_loop [5, 7] (fun n i => ∃ (k : Nat) (s : Int), k ≤ out.length ∧ i = .int .i64 k ∧ n = .int .i64 s ∧ 0 ≤ s ∧ s ≤ 400001 + k * 4001 ∧ sizeT s (out.drop k) = sizeT r out) (fun _ i => out.length - (intOf i).toNat)
        case atStart => exact ⟨0, r, by omega, rfl, rfl, by omega, by omega, rfl⟩
        case round =>
          obtain ⟨k, s, hk, rfl, rfl, hs1, hs2, hs3⟩ := hrel
          have H3 := hid hs3; clear hs3
          by_cases hlt : k < out.length
          · obtain ⟨x, hx⟩ := at_lt hlt
            obtain ⟨b, o, y, rfl, _, _, _, _, _, _, hc, _, hy⟩ := term_at ho hx
            obtain ⟨A3, c3, rfl, _, _⟩ := list_form hy
            have hcb := capped_bd x.parts.length
            have H4 : Hid (sizeT (s + 1 + capped x.parts.length) (out.drop (k+1)) = sizeT r out) := by
              have := H3.out; rw [drop_cons hx] at this; exact hid this
            clear hx hy
            go_wp2
            refine ⟨⟨k + 1, s + 1 + capped x.parts.length, by omega, by go_num, rfl, by omega, by omega, H4.out⟩, ?_⟩
            simp [intOf]; omega
          · have hke : k = out.length := by omega
            subst hke
            have hr4 : s = sizeT r out := by have := H3.out; simpa [sizeT] using this
            have H6 := hid hr4
            clear H3 hr4
            go_wp2
            go_ret
            exact ⟨by rw [← H5.out, ← H6.out]; rfl, rfl⟩
def smallR (acc : Int) : List Rule → Int
  | [] => acc
  | r :: rs => smallR (acc + sizeF r.guards r.out) rs
def smallE (acc : Int) : List Final → Int
  | [] => acc
  | r :: rs => smallE (acc + sizeF r.guards r.out) rs
def smallF (d : Desc) : Bool := if 80 < d.rules.length ∨ 80 < d.finals.length then false else decide (smallE (smallR 0 d.rules) d.finals ≤ 1500)
theorem sizeG_bd (acc : Int) (l : List (List Span)) : acc ≤ sizeG acc l ∧ sizeG acc l ≤ acc + 4000 * l.length := by
  induction l generalizing acc with
  | nil => simp [sizeG]
  | cons g gs ih => have := ih (acc + capped g.length); have := capped_bd g.length; simp only [sizeG, List.length_cons]; omega
theorem sizeT_bd (acc : Int) (l : List Term) : acc ≤ sizeT acc l ∧ sizeT acc l ≤ acc + 4001 * l.length := by
  induction l generalizing acc with
  | nil => simp [sizeT]
  | cons g gs ih => have := ih (acc + 1 + capped g.parts.length); have := capped_bd g.parts.length; simp only [sizeT, List.length_cons]; omega
theorem sizeF_bd (l : List (List Span)) (out : List Term) : 0 ≤ sizeF l out ∧ sizeF l out ≤ 10000000 := by
  unfold sizeF
  have h1 := sizeG_bd 1 l
  have h2 := sizeT_bd (sizeG 1 l) out
  split <;> omega

set_option maxHeartbeats 1000000 in
theorem small_calls (d : Desc) (v u : Value) (w : World) (hv : (listR ruleR).rel w (upto w.heap.size) [v] d.rules) (hu : (listR finalR).rel w (upto w.heap.size) [u] d.finals) (a1 a2 a3 a4 : Int) :
    Calls Tryd.prog 8 #[.agg #[.int .i64 a1, .int .i64 a2, .int .i64 a3, .int .i64 a4, v, u]] w fun e w' => e = .returned (.bool (smallF d)) ∧ Below w.heap.size w w' := by
  obtain ⟨A1, c1, rfl, hc1, hm1⟩ := list_form hv
  obtain ⟨A2, c2, rfl, hc2, hm2⟩ := list_form hu
  unfold maxLen at hm1 hm2
  by_cases hbig : 80 < d.rules.length ∨ 80 < d.finals.length
  · have hF : smallF d = false := by simp [smallF, hbig]
    rw [hF]
    clear hF hv hu
    by_cases h1 : 80 < d.rules.length
    · have h1' : (80 : Int) < d.rules.length := by omega
      clear hbig
      go_enter Tryd.func8, Tryd.ntmps8
      go_wp2
      go_ret
      exact ⟨rfl, (Below.refl _ _).alloc (Nat.le_refl _) _⟩
    · have h1' : ¬ (80 : Int) < d.rules.length := by omega
      have h2' : (80 : Int) < d.finals.length := by omega
      clear hbig
      go_enter Tryd.func8, Tryd.ntmps8
      go_wp2
      go_ret
      exact ⟨rfl, (Below.refl _ _).alloc (Nat.le_refl _) _⟩
  · have hF : smallF d = decide (smallE (smallR 0 d.rules) d.finals ≤ 1500) := by simp [smallF, hbig]
    have HF := hid hF; clear hF
    have q1 : ¬ (80 : Int) < d.rules.length := by omega
    have q2 : ¬ (80 : Int) < d.finals.length := by omega
    clear hbig
    go_enter Tryd.func8, Tryd.ntmps8
    go_wp2
    go_loopw [3, 4] (fun n i wr => ∃ (k : Nat) (r : Int), k ≤ d.rules.length ∧ i = .int .i64 k ∧ n = .int .i64 r ∧ 0 ≤ r ∧ r ≤ k * 10000000 ∧ smallR r (d.rules.drop k) = smallR 0 d.rules ∧
        Below w.heap.size w wr ∧ wr.cell? ⟨w.heap.size, 4, none⟩ = some (.slice A1 d.rules.length c1) ∧ wr.cell? ⟨w.heap.size, 5, none⟩ = some (.slice A2 d.finals.length c2)) (fun _ i _ => d.rules.length - (intOf i).toNat)
    case atStart => exact ⟨0, 0, by omega, rfl, rfl, by omega, by omega, rfl, (Below.refl _ _).alloc (Nat.le_refl _) _, by go_simp, by go_simp⟩
    case round =>
      obtain ⟨k, r, hk, rfl, rfl, hr1, hr2, hr3, hB, hb1, hb2⟩ := hrel
      have H3 := hid hr3; clear hr3
      have hvr := (listR ruleR).mono (below_cells hB) (fun _ h => h) hv
      by_cases hlt : k < d.rules.length
      · obtain ⟨x, hx⟩ := at_lt hlt
        obtain ⟨b, o, y, z, rfl, hb, _, _, hcg, _, hco, _, hy, hz⟩ := rule_at hvr hx
        have hsb := sizeF_bd x.guards x.out
        have H4 : Hid (smallR (r + sizeF x.guards x.out) (d.rules.drop (k+1)) = smallR 0 d.rules) := by
          have := H3.out; rw [drop_cons hx] at this; exact hid this
        have hlt' : (k : Int) < d.rules.length := by omega
        have hsz : ∀ W : World, (∃ n, W = wr.drewN n) → Calls Tryd.prog 15 #[y, z] W fun e w' => e = .returned (.int .i64 (sizeF x.guards x.out)) ∧ W = w' := by
          rintro W ⟨n, rfl⟩
          exact size_calls _ _ _ _ _ _ hy hz
        have Hsz := hid hsz
        clear hx hlt hsz
        go_wp2_with fail
        go_quiet ((go_at_call 15; exact quiet_left (Hsz.out _ ⟨_, rfl⟩)))
        go_wp2
        refine ⟨⟨k + 1, r + sizeF x.guards x.out, by omega, by go_num, rfl, by omega, by omega, H4.out, below_drewN hB _, by go_simp, by go_simp⟩, ?_⟩
        simp [intOf]; omega
      · have hke : k = d.rules.length := by omega
        subst hke
        have hr4 : r = smallR 0 d.rules := by have := H3.out; simpa [smallR] using this
        have hR : 0 ≤ r ∧ r ≤ 800000000 := by omega
        clear H3 hvr
        have H5 := hid hr4; clear hr4 hr1 hr2
        obtain ⟨hR1, hR2⟩ := hR
        go_wp2
        go_loopw [3, 5] (fun n i wq => ∃ (k : Nat) (s : Int), k ≤ d.finals.length ∧ i = .int .i64 k ∧ n = .int .i64 s ∧ 0 ≤ s ∧ s ≤ 800000000 + k * 10000000 ∧ smallE s (d.finals.drop k) = smallE r d.finals ∧ Below w.heap.size w wq ∧ wq.cell? ⟨w.heap.size, 5, none⟩ = some (.slice A2 d.finals.length c2)) (fun _ i _ => d.finals.length - (intOf i).toNat)
        case atStart => exact ⟨0, r, by omega, rfl, rfl, by omega, by omega, rfl, hB, hb2⟩
        case round =>
          obtain ⟨k, s, hk, rfl, rfl, hs1, hs2, hs3, hB, hb2⟩ := hrel
          have H3 := hid hs3; clear hs3
          have hur := (listR finalR).mono (below_cells hB) (fun _ h => h) hu
          by_cases hlt : k < d.finals.length
          · obtain ⟨x, hx⟩ := at_lt hlt
            obtain ⟨b, o, y, z, rfl, hb, _, hcg, hco, _, hy, hz⟩ := final_at hur hx
            have hsb := sizeF_bd x.guards x.out
            have H4 : Hid (smallE (s + sizeF x.guards x.out) (d.finals.drop (k+1)) = smallE r d.finals) := by
              have := H3.out; rw [drop_cons hx] at this; exact hid this
            have hlt' : (k : Int) < d.finals.length := by omega
            have hsz : ∀ W : World, (∃ n, W = wr.drewN n) → Calls Tryd.prog 15 #[y, z] W fun e w' => e = .returned (.int .i64 (sizeF x.guards x.out)) ∧ W = w' := by
              rintro W ⟨n, rfl⟩
              exact size_calls _ _ _ _ _ _ hy hz
            have Hsz := hid hsz
            clear hx hlt hsz
            go_wp2_with fail
            go_quiet ((go_at_call 15; exact quiet_left (Hsz.out _ ⟨_, rfl⟩)))
            go_wp2
            refine ⟨⟨k + 1, s + sizeF x.guards x.out, by omega, by go_num, rfl, by omega, by omega, H4.out, below_drewN hB _, by go_simp⟩, ?_⟩
            simp [intOf]; omega
          · have hke : k = d.finals.length := by omega
            subst hke
            have hr4 : s = smallE r d.finals := by have := H3.out; simpa [smallE] using this
            have H6 := hid hr4
            clear H3 hr4 hur
            by_cases hs : s ≤ 1500
            · have hF : Hid (true = smallF d) := hid (by rw [HF.out, ← H5.out, ← H6.out]; simp [hs])
              clear HF
              go_wp2_with fail
              go_ret
              exact ⟨by rw [← hF.out]; rfl, hB⟩
            · have hF : Hid (false = smallF d) := hid (by rw [HF.out, ← H5.out, ← H6.out]; simp; omega)
              clear HF
              go_wp2_with fail
              go_ret
              exact ⟨by rw [← hF.out]; rfl, hB⟩
end Go.Proofs.YtcdnkmefcldfmaaDoor
