/-
  Guards copied: desc.copied, codec.fresh.
-/
import Derived.Test.YthfcbbdghggefaaGreatRMkF
namespace Go.Proofs.YthfcbbdghggefaaGreat
open Go.RowKit Go.Um Go.Proofs
def CopI (w wr : World) (gs : List (List Span)) (vo : Value) (k : Nat) : Prop := FL 76 spansR wr w.heap.size w.heap.size vo (gs.take k) ∧ Below w.heap.size w wr
set_option maxHeartbeats 2000000 in
set_option maxRecDepth 100000 in
theorem fresh_calls (gs : List (List Span)) (v : Value) (w : World) (h : (listR spansR).rel w (upto w.heap.size) [v] gs) (hne : ∀ g ∈ gs, g ≠ [] ∧ g.length ≤ 1000000) (hl : gs.length ≤ 1000000) :
    Calls Tryz.prog 59 #[v] w fun e w' => ∃ u, e = .returned u ∧ FL 76 spansR w' w.heap.size w.heap.size u gs ∧ Below w.heap.size w w' := by
  obtain ⟨A, c, rfl, hc, hm⟩ := list_form h
  unfold maxLen at hm
  obtain ⟨inf, hi0, hz0, hz1, hz2⟩ := info_parts infoSs
  obtain ⟨inf6, hj0, hy0, hy1, hy2⟩ := info_parts info46
  have HNE := hid hne
  clear hne
  go_enter Tryz.func59, Tryz.ntmps59
  go_wp2_with fail
  go_loopw [3, 8] (fun vo vi wr => ∃ k : Nat, k ≤ gs.length ∧ vi = .int .i64 k ∧ CopI w wr gs vo k) (fun _ vi _ => gs.length - (intOf vi).toNat)
  case atStart => exact ⟨0, Nat.zero_le _, rfl, OwnR.nil, Below.refl _ _⟩
  case round =>
    obtain ⟨k, hk, rfl, hF, hB⟩ := hrel
    obtain ⟨wo, hwo⟩ : ∃ wo, wo = wr := ⟨_, rfl⟩
    subst hwo
    obtain ⟨L, hL⟩ : ∃ L, L = gs.take k := ⟨_, rfl⟩
    rw [← hL] at hF
    have HF := hid hF
    have HB := hid hB
    have hs := hB.size
    have hLl : L.length ≤ 1000000 := by rw [hL, List.length_take]; omega
    obtain ⟨Ao, co, rfl⟩ := hF.len
    by_cases hlt : k < gs.length
    · obtain ⟨g, hg⟩ := at_lt hlt
      have hlt' : (k : Int) < gs.length := by omega
      obtain ⟨hg1, hg2⟩ := HNE.out g (List.mem_of_getElem? hg)
      have hr := (listR spansR).mono (below_cells hB) (fun _ h => h) h
      obtain ⟨b1, o1, y1, rfl, hb1, hy, hcg⟩ := list_at1 rfl hr hg
      have hyw : spansR.rel wo (upto wo.heap.size) [y1] g := spansR.mono (fun _ _ => rfl) (fun b hb => Nat.lt_of_lt_of_le hb hs) hy
      obtain ⟨A3, c3, rfl, _, _⟩ := list_form hy
      have hSN : Hid (gs.take (k + 1) = L ++ [g]) := hid (by rw [List.take_add_one, hg, hL]; rfl)
      have hb1l : b1 < wo.heap.size := Nat.lt_of_lt_of_le hb1 hs
      have HLe := hid hL
      obtain ⟨x0, hx0⟩ := at_lt (xs := g) (i := 0) (List.length_pos_iff.2 hg1)
      obtain ⟨b2, o2, _, rfl, hb2, _⟩ := list_at hyw hx0
      obtain ⟨css, hcr, hcl, hnews, hone⟩ := append_all_cloneS hyw (fun _ h => h)
      have hown : (wo.alloc (.cells #[] 75)).ownsRow wo.heap.size 75 2 (.slice (some ⟨wo.heap.size, 0, none⟩) 0 0) 0 [] := World.ownsRow_lit wo #[] 0 (Nat.le_refl _) (Nat.zero_le _) rfl
      have hB0 : Below wo.heap.size wo (wo.alloc (.cells #[] 75)) := (Below.refl _ wo).alloc (Nat.le_refl _) _
      clear hF hB hlt hr hy hyw hg hL hx0
      go_wp2_with (at_builtin; refine Hid.out ?_)
      refine hid ?_
      show wpList _ _ _ _ _ _
      refine wpList_append_own _ (by rfl) _ _ 76 (by rfl) wo.heap.size 75 inf6 _ 2 16 Tryz.underlying76 hj0 hy0 hy1 hy2 rfl (by decide) (.slice (some ⟨wo.heap.size, 0, none⟩) 0 0) _ _ (by rfl) hown ⟨b2, o2, none⟩ g.length c3 css.flatten (by rfl) hcl hnews hone (by unfold maxLen; omega) (by omega) (by simp) ?_
      intro v2 w2 hown3 hg3 hn3
      rw [Nat.zero_add, List.nil_append] at hown3
      have hFc := FL.cloned (e := 75) (base := wo.heap.size) span_flat hcr hown3
      have hB2 : Below wo.heap.size wo w2 := hB0.trans (below_grown hown hg3 (Nat.le_refl _) hB0.size)
      have h2 : spansR.rel w2 (Fresh wo.heap.size w2) [v2] g := hFc.rel (Nat.le_refl _)
      clear hown3 hg3 hn3 hFc hnews hone hcr
      have hsz2 := hB2.size
      obtain ⟨A9, c9, rfl, _, _⟩ := list_form h2
      go_wp2_with (at_builtin; refine Hid.out ?_)
      refine hid ?_
      have hB2a : Below wo.heap.size wo (w2.alloc (.cells #[.slice A9 g.length c9] 76)) := hB2.alloc hsz2 _
      have hel := rel_els (rel_fresh h2 ((Below.refl _ w2).alloc (Nat.le_refl _) (.cells #[.slice A9 g.length c9] 76))) HF.out.own_lt hs
      show wpList _ _ _ _ _ _
      refine wpList_append_fl (r := spansR) (v := .slice Ao L.length co) (xs := L) (by rfl) _ _ 43 (by rfl) inf _ 24 Tryz.underlying43 hi0 hz0 hz1 hz2 rfl (by decide) (by rfl) HF.out hB2a (Nat.le_trans hs hB2a.size) ⟨w2.heap.size, 0, none⟩ 1 g [.slice A9 g.length c9] (by rfl) hel
        (news_at (w := w2) (cs := #[_]) rfl) (by simp [Value.oneCell']) (by unfold maxLen; omega) (by omega) ?_
      intro v' w3 hF3 hB3
      have HF3 := hid hF3
      have HB3 := hid ((HB.out.trans (hB2a.mono hs)).trans hB3)
      clear hF3 hB3
      have HE : Hid (∃ j' : Nat, j' ≤ gs.length ∧ Value.int .i64 ((k : Int) + 1) = .int .i64 j' ∧ CopI w w3 gs v' j') := hid ⟨k + 1, by omega, by push_cast; rfl, by rw [hSN.out]; exact HF3.out, HB3.out⟩
      go_wp2_with fail
      first
        | (refine ⟨HE.out, ?_⟩; simp [intOf]; omega)
        | (go_simp; refine ⟨by simpa using HE.out, ?_⟩; simp [intOf]; omega)
    · obtain rfl : k = gs.length := by omega
      rw [List.take_length] at hL
      have HL := hid hL
      clear hF hB hlt hL
      go_wp2_with fail
      go_ret
      exact ⟨_, rfl, by rw [← HL.out]; exact HF.out, HB.out⟩
end Go.Proofs.YthfcbbdghggefaaGreat
