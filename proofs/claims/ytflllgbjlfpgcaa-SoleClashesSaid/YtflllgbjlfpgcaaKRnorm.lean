/-
  The reference's Norm and Move of a set.
-/
import Derived.Test.YtflllgbjlfpgcaaKMakeY
namespace Go.Proofs.Ytflllgbjlfpgcaa
open Go.RowKit Go.Um Go.Proofs
theorem gOf_zero : gOf 0 = fun x y => x || y := by funext x y; rfl
set_option maxHeartbeats 1000000 in
set_option maxRecDepth 100000 in
theorem RNorm_calls (a : List Span) (v : Value) (w : World) (ha : spansR.rel w (upto w.heap.size) [v] a) (hl : a.length ≤ 1000000) :
    Calls Try.prog 35 #[v] w fun e w' => ∃ z, e = .returned z ∧ OwnS 46 w' w.heap.size z (normF a) ∧ Below w.heap.size w w' := by
  have h1 := RMake0_calls 0 rfl a [] v (.slice none 0 0) w ha (list_nil _ _ _) (by simp; omega)
  rw [gOf_zero, refMake_norm] at h1
  have H := hid h1
  clear h1
  obtain ⟨A, c, rfl, hc, hm⟩ := list_form ha
  go_enter Try.func35, Try.ntmps35
  go_wp2_with fail
  refine H.out.mono ?_
  rintro e w1 ⟨z, rfl, ho, hB⟩
  go_wp2_with fail
  go_ret
  exact ⟨_, rfl, ho, hB⟩
def MoveI (w1 wr : World) (m : List Span) (b : Int) (vo : Value) (k : Nat) : Prop := OwnS 46 wr w1.heap.size vo ((m.take k).map (addN b)) ∧ Below w1.heap.size w1 wr
theorem move_snoc {m : List Span} {b : Int} {k : Nat} {x : Span} (h : m[k]? = some x) : (m.take (k + 1)).map (addN b) = (m.take k).map (addN b) ++ [⟨x.lo + b, x.hi + b⟩] := by
  rw [List.take_add_one, h, List.map_append]; rfl
set_option maxHeartbeats 4000000 in
set_option maxRecDepth 100000 in
theorem RMove_calls (l : List Span) (b : Int) (v : Value) (w : World) (h : spansR.rel w (upto w.heap.size) [v] l) (hl : l.length ≤ 1000000) (hb : -1114111 ≤ b ∧ b ≤ 1114111) :
    Calls Try.prog 59 #[v, .int .i64 b] w fun e w' => ∃ u, e = .returned u ∧ OwnS 46 w' w.heap.size u (moveF l b) ∧ Below w.heap.size w w' := by
  have hnl := normF_length l
  have hF : Hid (moveF l b = normF ((normF l).map (addN b))) := hid (by unfold moveF; rw [if_neg (by omega)])
  have b1 : ¬ b < -2147483648 := by omega
  have b2 : ¬ 2147483648 < b := by omega
  have hok := plainFrom_ok (normF_plain l)
  have HN := hid (RNorm_calls l v w h hl)
  obtain ⟨inf, hi0', hz0, hz1, hz2⟩ := info_parts info46
  obtain ⟨m, hM⟩ : ∃ m, m = normF l := ⟨_, rfl⟩
  rw [← hM] at HN hok hnl hF
  clear hM
  go_enter Try.func59, Try.ntmps59
  go_wp2_with fail
  refine HN.out.mono ?_
  rintro e w1 ⟨x, rfl, ho1, hB1⟩
  have hrow := ho1.rel
  obtain ⟨A, c, rfl, hc, hm⟩ := list_form hrow
  unfold maxLen at hm
  clear ho1 HN
  go_wp2_with fail
  go_loopw [6, 7] (fun vo vi wr => ∃ k : Nat, k ≤ m.length ∧ vi = .int .i64 k ∧ MoveI w1 wr m b vo k) (fun _ vi _ => m.length - (intOf vi).toNat)
  case atStart => exact ⟨0, Nat.zero_le _, rfl, ⟨World.ownsRow_nil _ _ _ _, by simp⟩, Below.refl _ _⟩
  case round =>
    obtain ⟨k, hk, rfl, ho, hB⟩ := hrel
    obtain ⟨wo, hwo⟩ : ∃ wo, wo = wr := ⟨_, rfl⟩
    subst hwo
    obtain ⟨out, hout⟩ : ∃ out, out = (m.take k).map (addN b) := ⟨_, rfl⟩
    have hol : out.length ≤ m.length := by rw [hout]; simp; omega
    rw [← hout] at ho
    have HOd := hid ho
    have HBd := hid hB
    have hs1 := hB.size
    obtain ⟨Ao, co, rfl, hco, hmo⟩ := list_form ho.rel
    unfold maxLen at hmo
    by_cases hlt : k < m.length
    · obtain ⟨x, hx⟩ := at_lt hlt
      have hlt' : (k : Int) < m.length := by omega
      have hxo := hok x (List.mem_of_getElem? hx)
      unfold okS at hxo
      obtain ⟨bb, oo, rfl, hbb, c1, c2, _, _⟩ := span_at hrow hx
      have d1 := (hB.cell (p := ⟨bb, oo + k * 2, none⟩) hbb).trans c1
      have d2 := (hB.cell (p := ⟨bb, oo + k * 2 + 1, none⟩) hbb).trans c2
      have HSN : Hid ((m.take (k + 1)).map (addN b) = out ++ [⟨x.lo + b, x.hi + b⟩]) := hid (by rw [move_snoc hx, hout])
      have W1 : Hid (wrap64 (x.lo + b) = x.lo + b) := hid (IntWalk.wrap64_in _ ⟨by omega, by omega⟩)
      have W2 : Hid (wrap64 (x.hi + b) = x.hi + b) := hid (IntWalk.wrap64_in _ ⟨by omega, by omega⟩)
      clear c1 c2 hx ho hB hlt hout
      go_wp2_with fail
      obtain ⟨ι, Wc, ⟨i0, hi0⟩, hWc, Wsur⟩ := held_class wo.drew (fun g => g < w1.heap.size)
      have hne : Nonempty ι := ⟨i0⟩
      have WS := hid Wsur; clear Wsur
      have HWc := hid hWc; clear hWc
      have Hi0 := hid hi0; clear hi0
      have g1 : ∀ i, (Wc i).cell? ⟨bb, oo + k * 2, none⟩ = some (.int .i64 x.lo) := fun i => (cell_of_heap_eq (p := ⟨bb, oo + k * 2, none⟩) (HWc.out i _ hbb)).trans d1
      have g2 : ∀ i, (Wc i).cell? ⟨bb, oo + k * 2 + 1, none⟩ = some (.int .i64 x.hi) := fun i => (cell_of_heap_eq (p := ⟨bb, oo + k * 2 + 1, none⟩) (HWc.out i _ hbb)).trans d2
      refine region_anyL (S := fun w' => ∃ i, w' = Wc i) (last := 19) (by kernel_rfl) ?_
      refine anyL_seg 0 16 (by kernel_rfl) (fun _ _ _ _ _ h => h) ⟨i0, Hi0.out.symm⟩ (f := 3) rfl (by kernel_rfl) (by kernel_rfl) ?_
      simp only [List.drop_zero, List.take_succ_cons, List.take_zero]
      repeat go_big_quiet_step (fail)
      refine wpQuiet_nil ?_
      refine anyL_act (i := 16) (by kernel_rfl) rfl rfl ?_
      intro K hK
      go_wp2_with fail
      have hS1 : ∃ i, (wo.alloc (.cells #[.int .i64 (x.lo + b), .int .i64 (x.hi + b)] 46)).drew = Wc i := WS.out _ (fun g hg => Below.heap_alloc _ _ _ (by omega))
      refine hK.out _ _ (fun _ => hS1) ?_
      clear hK K
      refine anyL_act (i := 17) (by kernel_rfl) rfl rfl ?_
      intro K hK
      have hv1 : ((wo.alloc (.cells #[.int .i64 (x.lo + b), .int .i64 (x.hi + b)] 46)).drew).ownsRow w1.heap.size 46 2 (.slice Ao out.length co) out.length (out.flatMap Span.cells) := HOd.out.1.alloc _
      refine act_append_at _ _ 38 rfl w1.heap.size 46 inf _ 2 16 Try.underlying38 hi0' hz0 hz1 hz2 rfl (by decide) (.slice Ao out.length co) out.length _ rfl hv1 ⟨wo.heap.size, 0, none⟩ 1 1 [.int .i64 (x.lo + b), .int .i64 (x.hi + b)] rfl rfl (news_at (w := wo) (cs := #[_, _]) rfl) (by simp [Value.oneCell']) (by unfold maxLen; omega) (by omega) (by simp; omega) ?_
      intro v' w6 hown' hgrow _ hloc
      have hw6 : wo.heap.size + 1 ≤ w6.heap.size := by have := hgrow.size; simpa using this
      have hnB : ∀ g, g < w1.heap.size → w6.heap[g]? = wo.heap[g]? := fun g hg => by
        rw [hgrow.block g (by simp; omega) (fun h => ?_)]
        · exact Below.heap_alloc _ _ _ (by omega)
        · have := (hv1.lt g h.symm).1; omega
      have hS2 : ∃ i, w6 = Wc i := WS.out _ (fun g hg => hnB g hg)
      refine hK.out _ _ (fun _ => hS2) ?_
      clear hK K
      have hB3 : Below w1.heap.size wo w6 := ((Below.refl _ wo).alloc HBd.out.size _).trans (below_grown hv1 (show (wo.alloc (.cells #[.int .i64 (x.lo + b), .int .i64 (x.hi + b)] 46)).grownBy w6 _ from ⟨hgrow.os, hgrow.tape, hgrow.output, hgrow.size, hgrow.block⟩) (Nat.le_refl _) (by simp; omega))
      go_simp
      refine anyL_act (i := 18) (by kernel_rfl) rfl rfl ?_
      intro K hK
      go_wp2_with fail
      refine hK.out _ _ (fun _ => hS2) ?_
      clear hK K
      refine anyL_done (by kernel_rfl) ?_ 0
      have HO3 : Hid (OwnS 46 w6 w1.heap.size v' (out ++ [⟨x.lo + b, x.hi + b⟩])) := hid (OwnS.push (x := ⟨x.lo + b, x.hi + b⟩) hown' HOd.out.2 ⟨(⟨by omega, by omega⟩ : I64 (x.lo + b)), (⟨by omega, by omega⟩ : I64 (x.hi + b))⟩)
      have HB3 := hid (HBd.out.trans hB3)
      clear hown' hgrow hloc hv1 hS1 hS2 hnB hB3 WS HWc Hi0 hne i0 Wc ι g1 g2
      go_wp2_with fail
      have HE : Hid (∃ j' : Nat, j' ≤ m.length ∧ Value.int .i64 ((k : Int) + 1) = .int .i64 j' ∧ MoveI w1 w6 m b v' j') := hid ⟨k + 1, by omega, by push_cast; rfl, by rw [HSN.out]; exact HO3.out, HB3.out⟩
      first
        | (refine ⟨HE.out, ?_⟩; simp [intOf]; omega)
        | (go_simp; refine ⟨by simpa using HE.out, ?_⟩; simp [intOf]; omega)
    · obtain rfl : k = m.length := by omega
      rw [List.take_length] at hout
      have hrel := HOd.out.rel
      have HN2 := hid (RNorm_calls out _ wo hrel (by omega))
      have HF2 : Hid (normF out = moveF l b) := hid (by rw [hF.out, hout])
      clear hout ho hB hrel
      go_wp2_with fail
      refine HN2.out.mono ?_
      rintro e w3 ⟨y, rfl, ho3, hB3⟩
      go_wp2_with fail
      go_ret
      exact ⟨_, rfl, by rw [← HF2.out]; exact ho3.base (Nat.le_trans hB1.size hs1), hB1.trans ((HBd.out.mono hB1.size).trans (hB3.mono (Nat.le_trans hB1.size hs1)))⟩
end Go.Proofs.Ytflllgbjlfpgcaa
