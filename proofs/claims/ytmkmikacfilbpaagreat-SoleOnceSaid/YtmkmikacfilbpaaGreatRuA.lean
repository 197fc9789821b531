/-
  A runner's parts: run.fits, run.ends.
-/
import Derived.Test.YtmkmikacfilbpaaGreatRunQ
import Derived.Test.YtmkmikacfilbpaaGreatRwG
namespace Go.Proofs.YtmkmikacfilbpaaGreat
open Go.RowKit Go.Um Go.Proofs
set_option maxHeartbeats 2000000 in
set_option maxRecDepth 100000 in
theorem rfits_calls (RB : Nat) (vx gv : Value) (x : List Int) (gs : List (List Span)) (a : Nat) (w : World) (hc : w.cell? ⟨RB, 6, none⟩ = some vx) (hx : wordR.rel w (upto w.heap.size) [vx] x) (hg : (listR spansR).rel w (upto w.heap.size) [gv] gs) (ha : a ≤ x.length) :
    Calls Tryz.prog 53 #[.pointer (some ⟨RB, 0, none⟩), gv, .int .i64 a] w fun e w' => e = .returned (.bool (fitsB x gs a)) ∧ Below w.heap.size w w' := by
  have HH := hid fun l z v W h => Has_calls l z v W h
  obtain ⟨A, c, rfl, hc1, hm⟩ := list_form hg
  obtain ⟨B, d, rfl, hd1, hm2⟩ := list_form hx
  unfold maxLen at hm hm2
  have hRB : RB < w.heap.size := block_lt_of_cell hc
  by_cases hle : (gs.length : Int) ≤ (x.length : Int) - a
  · have hle' : ¬ ((x.length : Int) - a < gs.length) := by omega
    have HX := hid hx
    have HG := hid hg
    clear hx hg
    go_enter Tryz.func53, Tryz.ntmps53
    go_wp2_with fail
    go_loopw [21] (fun vi wr => ∃ k : Nat, k ≤ gs.length ∧ vi = .int .i64 k ∧ fitsL (gs.drop k) (x.drop (a + k)) = fitsB x gs a ∧ Below w.heap.size w wr) (fun vi _ => gs.length - (intOf vi).toNat)
    case atStart => exact ⟨0, Nat.zero_le _, rfl, rfl, Below.refl _ _⟩
    case round =>
      obtain ⟨k, hk, rfl, hp, hB⟩ := hrel
      obtain ⟨wo, hwo⟩ : ∃ wo, wo = wr := ⟨_, rfl⟩
      subst hwo
      have HP := hid hp; clear hp
      have hcw := (hB.cell (p := ⟨RB, 6, none⟩) hRB).trans hc
      by_cases hlt : k < gs.length
      · obtain ⟨g, hgk⟩ := at_lt hlt
        obtain ⟨z, hz⟩ := at_lt (xs := x) (i := a + k) (by omega)
        obtain ⟨b1, o1, y, rfl, hb1, hy, hcg⟩ := list_at1 rfl ((listR spansR).mono (below_cells hB) (fun _ h => h) HG.out) hgk
        obtain ⟨b2, o2, rfl, hb2, hcz, hz32⟩ := rune_at (wordR.mono (below_cells hB) (fun _ h => h) HX.out) hz
        have HHx := hid (HH.out g z y wo (spansR.mono (fun _ _ => rfl) (fun b hb => Nat.lt_of_lt_of_le hb hB.size) hy))
        have HP2 := hid (HP.out.symm.trans (fitsL_cons hgk hz))
        obtain ⟨A3, c3, rfl, _, _⟩ := list_form hy
        have hlt' : (k : Int) < gs.length := by omega
        have hlx : (a : Int) + k < x.length := by omega
        have hbs := hB.size
        have HB := hid hB
        obtain ⟨z1, z2⟩ := hz32
        clear hgk hz hy hB hlt
        obtain ⟨t, ht⟩ : ∃ t, t = hasI g z := ⟨_, rfl⟩
        rw [← ht] at HHx HP2
        clear ht
        cases t with
        | true =>
          have hF : Hid (fitsL (gs.drop (k + 1)) (x.drop (a + (k + 1))) = fitsB x gs a) := hid (by rw [HP2.out, Bool.true_and]; rfl)
          go_wp2_with fail
          refine HHx.out.mono ?_
          rintro e w1 ⟨rfl, hB1⟩
          have HB1 := hid (HB.out.trans (hB1.mono hbs))
          clear hB1
          go_wp2_with fail
          refine ⟨⟨k + 1, by omega, by go_num, hF.out, HB1.out⟩, ?_⟩
          simp [intOf]; omega
        | false =>
          have hF : Hid (false = fitsB x gs a) := hid (by rw [HP2.out, Bool.false_and])
          go_wp2_with fail
          refine HHx.out.mono ?_
          rintro e w1 ⟨rfl, hB1⟩
          have HB1 := hid (HB.out.trans (hB1.mono hbs))
          clear hB1
          go_wp2_with fail
          go_ret
          exact ⟨by rw [← hF.out]; rfl, HB1.out⟩
      · have hke : k = gs.length := by omega
        subst hke
        have hF : Hid (true = fitsB x gs a) := hid (by rw [← HP.out]; simp [fitsL])
        clear HP
        go_wp2_with fail
        go_ret
        exact ⟨by rw [← hF.out]; rfl, hB⟩
  · have hle' : (x.length : Int) - a < gs.length := by omega
    have hF : Hid (false = fitsB x gs a) := hid (by
      cases hb : fitsB x gs a with
      | false => rfl
      | true =>
        have := (fitsB_iff.1 hb).1
        omega)
    clear hx hg
    go_enter Tryz.func53, Tryz.ntmps53
    go_wp2_with fail
    go_ret
    exact ⟨by rw [← hF.out]; rfl, Below.refl _ _⟩
end Go.Proofs.YtmkmikacfilbpaaGreat
