/-
  The law CodecRepairs: its walk.
-/
import Derived.Test.YtmkmikacfilbpaaGreatQCdL
import Derived.Test.YtmkmikacfilbpaaGreatQCdO
import Derived.Test.YtmkmikacfilbpaaGreatQCdS
namespace Go.Proofs.YtmkmikacfilbpaaGreat
open Go.Proofs Go.Um Go.RowKit
theorem bytes_bd {w : World} {S : Nat → Prop} {v : Value} {b : List Int} (h : bytesR.rel w S [v] b) : byteL b := fun z hz => by
  obtain ⟨A, c, rfl, _, _⟩ := list_form h
  obtain ⟨i, hi⟩ := List.mem_iff_getElem?.1 hz
  obtain ⟨_, _, _, _, _, h0, h1⟩ := byte_at h hi
  exact ⟨h0, h1⟩
set_option maxHeartbeats 2000000 in
set_option maxRecDepth 100000 in
theorem repairs_calls (b : List Int) (v : Value) (w : World) (h : bytesR.rel w (upto w.heap.size) [v] b) :
    Calls Tryz.prog 5 #[v] w fun e w' => e = .returned (.bool true) ∧ Below w.heap.size w w' := by
  have hy := bytes_bd h
  have HAW := hid fun W => cawake_calls W
  by_cases hl : b.length ≤ 60
  · have HRP := hid fun W (hW : Below w.heap.size w W) => rrepair_calls b (by omega) v W (bytesR.below h hW hW.size)
    have HSY := hid fun W (hW : Below w.heap.size w W) => bsym_calls b v W (bytesR.below h hW hW.size) (by omega)
    have HRE := hid fun W => repair_post W
    obtain ⟨A, c, rfl, hc, hm⟩ := list_form h
    unfold maxLen at hm
    have hl' : ¬ (60 : Int) < b.length := by omega
    have HYb := hid hy
    clear h
    go_enter Tryz.func5, Tryz.ntmps5
    go_wp2_with fail
    refine (HRP.out _ (Below.refl _ _)).mono ?_
    rintro e w1 ⟨u1, ws, whole, rfl, ho1, hrep, hB1⟩
    obtain ⟨A1, c1, rfl, hc1, hm1⟩ := list_form (ho1.rel (S := fun _ => True) (fun _ _ => trivial)).1
    have HO1 := hid ho1
    have HRep := hid hrep
    have HB1 := hid hB1
    clear ho1 hrep hB1
    go_wp2_with fail
    refine (HRE.out _).mono ?_
    rintro e w2 ⟨v2, u2, rfl, hv2, hu2, hB2⟩
    have HV2 := hid (rel_up hv2)
    have HU2 := hid (rel_up hu2)
    have HB2 := hid hB2
    have HBw2 := hid (low' HB1.out hB2)
    clear hv2 hu2 hB2
    go_wp2_with fail
    refine (HSY.out _ HBw2.out).mono ?_
    rintro e w3 ⟨u3, rfl, ho3, hB3⟩
    have HV3 := hid ((listR ruleR).below HV2.out hB3 hB3.size)
    have HU3 := hid ((listR finalR).below HU2.out hB3 hB3.size)
    have HW3 := hid (rel_up (ho3.fresh (Nat.le_refl _))).1
    have HB3 := hid hB3
    have HBw3 := hid (low' HBw2.out hB3)
    clear ho3 hB3
    go_wp2_with fail
    refine (repair_out HYb.out HRep.out (by omega) 3 ⟨by omega, by omega⟩ _ _ _ _ HV3.out HU3.out HW3.out).mono ?_
    rintro e w4 ⟨hB4, A4, c4, rfl, hr⟩
    obtain ⟨G, O, y, rfl, hG, hy4, hcy⟩ := list_at1 (i := 0) (x := ws) rfl hr rfl
    obtain ⟨A5, c5, rfl, hc5, hm5⟩ := list_form hy4.1
    have HBw4 := hid (low' HBw3.out hB4)
    have HX4 := hid (rel_up hy4).1
    have hB14 : Below w1.heap.size w1 w4 := (HB2.out.trans (HB3.out.mono HB2.out.size)).trans (hB4.mono (Nat.le_trans HB2.out.size HB3.out.size))
    have HY4 := hid (wordR.below (rel_up (HO1.out.fresh (Nat.le_refl _))).1 hB14 hB14.size)
    clear hB4 hr hy4 hB14
    simp only [List.length_cons, List.length_nil, Nat.zero_add, Nat.add_zero] at hcy ⊢
    go_wp2_with fail
    refine (rsame_calls ws ws _ _ _ HX4.out HY4.out).mono ?_
    rintro e w5 ⟨rfl, hB5⟩
    have HBw5 := hid (low' HBw4.out hB5)
    rw [decide_eq_true rfl]
    clear hB5
    go_wp2_with fail
    refine (HAW.out _).mono ?_
    rintro e w6 ⟨rfl, hB6⟩
    have HBw6 := hid (low' HBw5.out hB6)
    clear hB6
    go_wp2_with fail
    go_ret
    exact ⟨rfl, HBw6.out⟩
  · obtain ⟨A, c, rfl, hc, hm⟩ := list_form h
    have hl' : (60 : Int) < b.length := by omega
    clear h
    go_enter Tryz.func5, Tryz.ntmps5
    go_wp2_with fail
    refine (HAW.out _).mono ?_
    rintro e w1 ⟨rfl, hB1⟩
    have HB1 := hid hB1
    clear hB1
    go_wp2_with fail
    go_ret
    exact ⟨rfl, HB1.out⟩
end Go.Proofs.YtmkmikacfilbpaaGreat
