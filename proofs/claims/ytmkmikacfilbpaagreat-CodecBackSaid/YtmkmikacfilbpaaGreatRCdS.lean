/-
  Bytes as symbols.
-/
import Derived.Test.YtmkmikacfilbpaaGreatPj
import Derived.Test.YtmkmikacfilbpaaGreatPm
namespace Go.Proofs.YtmkmikacfilbpaaGreat
open Go.RowKit Go.Um Go.Proofs
set_option maxHeartbeats 1000000 in
set_option maxRecDepth 100000 in
theorem bsym_calls (b : List Int) (v : Value) (w : World) (h : bytesR.rel w (upto w.heap.size) [v] b) (hl : b.length ≤ 1000000) :
    Calls Tryz.prog 21 #[v] w fun e w' => ∃ u, e = .returned u ∧ OwnW 21 w' w.heap.size u b ∧ Below w.heap.size w w' := by
  obtain ⟨inf, hi0, hz0, hz1, hz2⟩ := info_parts infoRn
  obtain ⟨A, c, rfl, hc, hm⟩ := list_form h
  unfold maxLen at hm
  have HA := hid h
  clear h
  go_enter Tryz.func21, Tryz.ntmps21
  go_wp2_with fail
  go_loopw [3, 4] (fun vo vi wr => ∃ k : Nat, k ≤ b.length ∧ vi = .int .i64 k ∧ (∃ vo', vo' = vo ∧ OwnW 21 wr w.heap.size vo' (b.take k)) ∧ Below w.heap.size w wr) (fun _ vi _ => b.length - (intOf vi).toNat)
  case atStart => exact ⟨0, Nat.zero_le _, rfl, ⟨_, rfl, OwnW.nil⟩, Below.refl _ _⟩
  case round =>
    obtain ⟨wo, hwo⟩ : ∃ wo, wo = wr := ⟨_, rfl⟩
    subst hwo
    obtain ⟨k, hk, rfl, ⟨vo, rfl, ho⟩, hB⟩ := hrel
    obtain ⟨Ao, co, rfl, hco, hmo⟩ := list_form (ho.rel (S := fun _ => True) (fun _ _ => trivial)).1
    unfold maxLen at hmo
    have hs1 := hB.size
    by_cases hlt : k < b.length
    · obtain ⟨x, hx⟩ := at_lt hlt
      have hlt' : (k : Int) < b.length := by omega
      obtain ⟨b3, o3, y3, rfl, hb3, ⟨hv1, hv2, hv3⟩, hcz3⟩ := list_at1 rfl HA.out hx
      simp only [List.cons.injEq, and_true] at hv1
      subst hv1
      have c3d := (hB.cell (p := ⟨b3, o3 + k, none⟩) hb3).trans (by simpa [byteR] using hcz3)
      have hHO := hid ho
      have HB := hid hB
      have HX := hid hx
      clear ho hB hx hcz3
      go_wp2_with (at_builtin; refine Hid.out ?_)
      refine hid ?_
      have hdl : (b.take k).length ≤ 1000000 := by rw [List.length_take]; omega
      refine wpList_append_own _ rfl _ _ 27 rfl w.heap.size 21 inf _ 1 4 Tryz.underlying27 hi0 hz0 hz1 hz2 rfl (by decide) _ _ _ rfl (hHO.out.1.alloc _) ⟨wo.heap.size, 0, none⟩ 1 1 [.int .i32 x] rfl rfl (news_at (w := wo) (cs := #[_]) rfl) (by simp [Value.oneCell']) (by unfold maxLen; omega) (by omega) (by simp; omega) ?_
      intro v' w6 hown6 hg6 hn6
      have hrow : ∀ g, (Value.slice Ao (b.take k).length co).ownBlock = some g → w.heap.size ≤ g := fun g hg' => (hHO.out.1.lt g hg').1
      have hbE : Below w.heap.size w w6 := (HB.out.alloc hs1 _).grown hg6 (by simp; omega) (fun g hg' => hrow g hg')
      have hE : b.take (k + 1) = b.take k ++ [x] := by rw [List.take_add_one, HX.out]; rfl
      have HN : Hid (OwnW 21 w6 w.heap.size v' (b.take (k + 1))) := hid ⟨by rw [hE, List.length_append, encW_append]; exact hown6, fun y hy => by
        rw [hE] at hy
        rcases List.mem_append.1 hy with hy | hy
        · exact hHO.out.2 y hy
        · simp at hy
          subst hy
          exact ⟨by omega, by omega⟩⟩
      have HBE := hid hbE
      clear hown6 hg6 hn6 hrow hbE hE
      go_wp2_with fail
      refine ⟨⟨k + 1, by omega, by push_cast; rfl, ⟨v', rfl, HN.out⟩, HBE.out⟩, ?_⟩
      simp [intOf]
      omega
    · have hke : k = b.length := by omega
      subst hke
      have HO : Hid (OwnW 21 wo w.heap.size (.slice Ao b.length co) b) := hid (by simpa using ho)
      have HB := hid hB
      have hlt' : ¬ (b.length : Int) < b.length := by omega
      clear ho hB
      go_wp2_with fail
      go_ret
      exact ⟨_, rfl, by simpa using HO.out, HB.out⟩
end Go.Proofs.YtmkmikacfilbpaaGreat
