/-
  What is written of symbols, as the reference has it: Html.
-/
import Derived.Test.YtmkmikacfilbpaaGreatTEsG
namespace Go.Proofs.YtmkmikacfilbpaaGreat
open Go.RowKit Go.Um Go.Proofs
theorem htmlF_len (x : List Int) : (htmlF x).length ≤ 6 * x.length := by
  unfold htmlF
  induction x with
  | nil => simp
  | cons z x ih =>
    have := esc_len z
    rw [List.flatMap_cons, List.length_append, List.length_cons]
    omega
theorem own_belowW {e : TypeId} {w w' : World} {base : Nat} {v : Value} {l : List Int} (h : OwnW e w base v l) (hb : Below w.heap.size w w') : OwnW e w' base v l := ⟨by
  refine ⟨h.1.1, ?_⟩
  rcases h.1.2 with h2 | ⟨g, cap, cur, h2, h3, h4, h5⟩
  · exact .inl h2
  · exact .inr ⟨g, cap, cur, h2, h3, (hb.block g (h.1.lt g (by rw [h2]; rfl)).2).trans h4, h5⟩, h.2⟩
set_option maxHeartbeats 1000000 in
set_option maxRecDepth 100000 in
theorem rhtml_calls (x : List Int) (hl : x.length ≤ 1000000) (v : Value) (w : World) (h : wordR.rel w (upto w.heap.size) [v] x) :
    Calls Tryz.prog 43 #[v] w fun e w' => ∃ u, e = .returned u ∧ OwnW 21 w' w.heap.size u (htmlF x) ∧ Below w.heap.size w w' := by
  obtain ⟨inf, hi0, hz0, hz1, hz2⟩ := info_parts infoRn
  obtain ⟨A, c, rfl, hc, hm⟩ := list_form h
  unfold maxLen at hm
  have HA := hid h
  have HI := hid (word_i32 h)
  have HR := hid fun z hz W => resc_calls z hz W
  clear h
  go_enter Tryz.func43, Tryz.ntmps43
  go_wp2_with fail
  go_loopw [3, 4] (fun vo vi wr => ∃ k : Nat, k ≤ x.length ∧ vi = .int .i64 k ∧ (∃ vo', vo' = vo ∧ OwnW 21 wr w.heap.size vo' (htmlF (x.take k))) ∧ Below w.heap.size w wr) (fun _ vi _ => x.length - (intOf vi).toNat)
  case atStart => exact ⟨0, Nat.zero_le _, rfl, ⟨_, rfl, OwnW.nil⟩, Below.refl _ _⟩
  case round =>
    obtain ⟨wo, hwo⟩ : ∃ wo, wo = wr := ⟨_, rfl⟩
    subst hwo
    obtain ⟨k, hk, rfl, ⟨vo, rfl, ho⟩, hB⟩ := hrel
    obtain ⟨acc, hacc⟩ : ∃ acc, acc = htmlF (x.take k) := ⟨_, rfl⟩
    have hal : acc.length ≤ 6000000 := by have := htmlF_len (x.take k); rw [hacc]; rw [List.length_take] at this; omega
    rw [← hacc] at ho
    have HAC := hid hacc
    obtain ⟨Ao, co, rfl, hco, hmo⟩ := list_form (ho.rel (S := fun _ => True) (fun _ _ => trivial)).1
    unfold maxLen at hmo
    have hs1 := hB.size
    by_cases hlt : k < x.length
    · obtain ⟨z, hz⟩ := at_lt hlt
      have hlt' : (k : Int) < x.length := by omega
      obtain ⟨G, O, rfl, hG, c0, _⟩ := rune_at HA.out hz
      have c0w := (hB.cell (p := ⟨G, O + k, none⟩) hG).trans c0
      have HO := hid ho
      have HB := hid hB
      have HRZ := hid (HR.out z (HI.out z (List.mem_of_getElem? hz)))
      have HS : Hid (htmlF (x.take (k + 1)) = acc ++ escF z) := hid (by rw [List.take_add_one, hz, hacc]; unfold htmlF; rw [List.flatMap_append]; simp)
      clear ho hB hz c0 hacc
      go_wp2_with fail
      refine (HRZ.out _).mono ?_
      rintro e w1 ⟨u1, rfl, ho1, hB1⟩
      have HO1 := hid (own_belowW HO.out hB1)
      have HB1 := hid (HB.out.trans (hB1.mono hs1))
      have HN1 := hid (ho1.fresh (Nat.le_refl _))
      obtain ⟨A1, c1, rfl, _, _⟩ := list_form HN1.out.1
      have hs2 := HB1.out.size
      clear ho1 hB1
      go_wp2_with (at_builtin; refine Hid.out ?_)
      refine hid ?_
      refine wpList_append_word rfl _ _ 27 rfl w.heap.size 21 inf _ Tryz.underlying27 hi0 hz0 hz1 hz2 rfl _ _ acc (escF z) rfl HO1.out rfl HN1.out (by have := esc_len z; omega) hs2 ?_
      intro v' w6 hown6 hB6
      have HN : Hid (OwnW 21 w6 w.heap.size v' (htmlF (x.take (k + 1)))) := hid (by rw [HS.out]; exact hown6)
      have HBE := hid (HB1.out.trans hB6)
      clear hown6 hB6
      go_wp2_with fail
      refine ⟨⟨k + 1, by omega, by push_cast; rfl, ⟨v', rfl, HN.out⟩, HBE.out⟩, ?_⟩
      simp [intOf]
      omega
    · have hke : k = x.length := by omega
      subst hke
      have HO : Hid (OwnW 21 wo w.heap.size (.slice Ao acc.length co) (htmlF x)) := hid (by have := ho; rw [hacc, List.take_length] at this ⊢; exact this)
      have HB := hid hB
      have hlt' : ¬ (x.length : Int) < x.length := by omega
      clear ho hB hacc HAC
      go_wp2_with fail
      go_ret
      exact ⟨_, rfl, HO.out, HB.out⟩
end Go.Proofs.YtmkmikacfilbpaaGreat
