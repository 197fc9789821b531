/-
  What any bytes are repaired to, as the program finds it: scalars: utf.Repair.
-/
import Derived.Test.YtmkmikacfilbpaaGreatRCbD
import Derived.Test.YtmkmikacfilbpaaGreatPj
import Derived.Test.YtmkmikacfilbpaaGreatPm
namespace Go.Proofs.YtmkmikacfilbpaaGreat
open Go.RowKit Go.Um Go.Proofs
theorem own_belowV {e : TypeId} {w w' : World} {base : Nat} {v : Value} {l : List Int} (h : OwnW e w base v l) (hb : Below w.heap.size w w') : OwnW e w' base v l := ⟨by
  refine ⟨h.1.1, ?_⟩
  rcases h.1.2 with h2 | ⟨g, cap, cur, h2, h3, h4, h5⟩
  · exact .inl h2
  · exact .inr ⟨g, cap, cur, h2, h3, (hb.block g (h.1.lt g (by rw [h2]; rfl)).2).trans h4, h5⟩, h.2⟩
set_option maxHeartbeats 1000000 in
set_option maxRecDepth 100000 in
theorem urepair_calls (b : List Int) (v : Value) (w : World) (h : bytesR.rel w (upto w.heap.size) [v] b) (hl : b.length ≤ 1000000) :
    Calls Tryz.prog 44 #[v] w fun e w' => ∃ u ls, e = .returned u ∧ OwnW 21 w' w.heap.size u ls ∧ (∀ z ∈ ls, scalP z) ∧ ls.length ≤ b.length + 4 ∧ Below w.heap.size w w' := by
  obtain ⟨inf, hi0, hz0, hz1, hz2⟩ := info_parts infoRn
  obtain ⟨A, c, rfl, hc, hm⟩ := list_form h
  unfold maxLen at hm
  have HSC := hid fun (k : Nat) (hk : k < b.length) W (hW : Below w.heap.size w W) => scan_calls b k hk hl _ W (bytesR.below h hW hW.size)
  clear h
  go_enter Tryz.func44, Tryz.ntmps44
  go_wp2_with fail
  go_loopw [3, 4] (fun vo vi wr => ∃ (k : Nat) (ls : List Int), k ≤ b.length + 4 ∧ vi = .int .i64 k ∧ (∃ vo', vo' = vo ∧ OwnW 21 wr w.heap.size vo' ls) ∧ (∀ z ∈ ls, scalP z) ∧ ls.length ≤ k ∧ Below w.heap.size w wr) (fun _ vi _ => b.length + 4 - (intOf vi).toNat)
  case atStart => exact ⟨0, [], by omega, rfl, ⟨_, rfl, OwnW.nil⟩, fun z hz => by simp at hz, Nat.le_refl _, Below.refl _ _⟩
  case round =>
    obtain ⟨wo, hwo⟩ : ∃ wo, wo = wr := ⟨_, rfl⟩
    subst hwo
    obtain ⟨k, ls, hk, rfl, ⟨vo, rfl, ho⟩, hsc, hlk, hB⟩ := hrel
    obtain ⟨Ao, co, rfl, hco, hmo⟩ := list_form (ho.rel (S := fun _ => True) (fun _ _ => trivial)).1
    unfold maxLen at hmo
    have hs1 := hB.size
    have HLS := hid hsc
    clear hsc
    by_cases hlt : k < b.length
    · have hlt' : (k : Int) < b.length := by omega
      have hHO := hid ho
      have HB := hid hB
      have HS1 := hid (HSC.out k hlt wo hB)
      clear ho hB
      go_wp2_with fail
      refine HS1.out.mono ?_
      rintro e w3 ⟨x, n, ok, rfl, hx, hn1, hn4, hB3⟩
      have HO3 := hid (own_belowV hHO.out hB3)
      have HB3 := hid (HB.out.trans (hB3.mono hs1))
      have hs3 := HB3.out.size
      have HX := hid hx
      have hxb : 0 ≤ x ∧ x < 1114112 := ⟨hx.1, hx.2.1⟩
      clear hB3 hx
      go_wp2_with (at_builtin; refine Hid.out ?_)
      refine hid ?_
      refine wpList_append_own _ rfl _ _ 27 rfl w.heap.size 21 inf _ 1 4 Tryz.underlying27 hi0 hz0 hz1 hz2 rfl (by decide) _ _ _ rfl (HO3.out.1.alloc _) ⟨w3.heap.size, 0, none⟩ 1 1 [.int .i32 x] rfl rfl (news_at (w := w3) (cs := #[_]) rfl) (by simp [Value.oneCell']) (by unfold maxLen; omega) (by omega) (by simp; omega) ?_
      intro v' w6 hown6 hg6 hn6
      have hrow : ∀ g, (Value.slice Ao ls.length co).ownBlock = some g → w.heap.size ≤ g := fun g hg' => (HO3.out.1.lt g hg').1
      have hbE : Below w.heap.size w w6 := (HB3.out.alloc hs3 _).grown hg6 (by simp; omega) (fun g hg' => hrow g hg')
      have HN : Hid (OwnW 21 w6 w.heap.size v' (ls ++ [x])) := hid ⟨by rw [List.length_append, encW_append]; exact hown6, fun y hy => by
        rcases List.mem_append.1 hy with hy | hy
        · exact HO3.out.2 y hy
        · simp at hy
          subst hy
          exact ⟨by omega, by omega⟩⟩
      have HBE := hid hbE
      clear hown6 hg6 hn6 hrow hbE
      go_wp2_with fail
      refine ⟨⟨k + n, ls ++ [x], by omega, by push_cast; rfl, ⟨v', rfl, HN.out⟩, fun z hz => ?_, by simp; omega, HBE.out⟩, ?_⟩
      · rcases List.mem_append.1 hz with hz | hz
        · exact HLS.out z hz
        · simp at hz
          subst hz
          exact HX.out
      · simp [intOf]
        omega
    · have HO := hid ho
      have HB := hid hB
      have hlt' : ¬ (k : Int) < b.length := by omega
      clear ho hB
      go_wp2_with fail
      go_ret
      exact ⟨_, rfl, ls, HO.out, HLS.out, by omega, HB.out⟩
end Go.Proofs.YtmkmikacfilbpaaGreat
