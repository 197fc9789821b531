/-
  What the reference escapes bytes to, and turns back.
-/
import Derived.Test.YthfcbbdghggefaaGreatQEsC
import Derived.Test.YthfcbbdghggefaaGreatQEsO
import Derived.Test.YthfcbbdghggefaaGreatQEsR
import Derived.Test.YthfcbbdghggefaaGreatPe
namespace Go.Proofs.YthfcbbdghggefaaGreat
open Go.RowKit Go.Um Go.Proofs
def hexD : ByteArray := ⟨#[48, 49, 50, 51, 52, 53, 54, 55, 56, 57, 65, 66, 67, 68, 69, 70]⟩
theorem hexD_at (k : Nat) (h : k < 16) : ((hexD[k]'(h : k < hexD.size)).toNat : Int) = digF k := by
  rw [lett_at hexD k h]
  have : (List.range 16).all (fun k => lett hexD k == digF k) = true := by decide +kernel
  simpa using List.all_eq_true.1 this k (List.mem_range.2 h)
set_option maxHeartbeats 1000000 in
set_option maxRecDepth 100000 in
theorem rurl_calls (b : List Int) (hl : b.length ≤ 1000000) (v : Value) (w : World) (h : bytesR.rel w (upto w.heap.size) [v] b) :
    Calls Tryz.prog 33 #[v] w fun e w' => ∃ u, e = .returned u ∧ OwnB 5 w' w.heap.size u (urlF b) ∧ Below w.heap.size w w' := by
  obtain ⟨inf, hi0, hz0, hz1, hz2⟩ := info_parts infoBy
  obtain ⟨A, c, rfl, hc, hm⟩ := list_form h
  unfold maxLen at hm
  have HA := hid h
  have HU := hid fun z (hz : 0 ≤ z ∧ z ≤ 255) W => runres_calls z hz W
  clear h
  go_enter Tryz.func33, Tryz.ntmps33
  go_wp2_with fail
  go_loopw [3, 4] (fun vo vi wr => ∃ k : Nat, k ≤ b.length ∧ vi = .int .i64 k ∧ (∃ vo', vo' = vo ∧ OwnB 5 wr w.heap.size vo' (urlF (b.take k))) ∧ Below w.heap.size w wr) (fun _ vi _ => b.length - (intOf vi).toNat)
  case atStart => exact ⟨0, Nat.zero_le _, rfl, ⟨_, rfl, OwnB.nil⟩, Below.refl _ _⟩
  case round =>
    obtain ⟨wo, hwo⟩ : ∃ wo, wo = wr := ⟨_, rfl⟩
    subst hwo
    obtain ⟨k, hk, rfl, ⟨vo, rfl, ho⟩, hB⟩ := hrel
    obtain ⟨acc, hacc⟩ : ∃ acc, acc = urlF (b.take k) := ⟨_, rfl⟩
    have hal : acc.length ≤ 3000000 := by have := urlF_len (b.take k); rw [hacc]; rw [List.length_take] at this; omega
    rw [← hacc] at ho
    have HAC := hid hacc
    obtain ⟨Ao, co, rfl, hco, hmo⟩ := list_form (ho.rel (S := fun _ => True) (fun _ _ => trivial))
    unfold maxLen at hmo
    have hs1 := hB.size
    by_cases hlt : k < b.length
    · obtain ⟨x, hx⟩ := at_lt hlt
      have hlt' : (k : Int) < b.length := by omega
      obtain ⟨G, O, rfl, hG, c0, hx0, hx1⟩ := byte_at HA.out hx
      have c0w := (hB.cell (p := ⟨G, O + k, none⟩) hG).trans c0
      have hGw : G < wo.heap.size := Nat.lt_of_lt_of_le hG hs1
      have HO := hid ho
      have HB := hid hB
      have HUX := hid (HU.out x ⟨hx0, hx1⟩)
      have hS : urlF (b.take (k + 1)) = acc ++ urlB x := by rw [List.take_add_one, hx, hacc]; unfold urlF; rw [List.flatMap_append]; simp
      by_cases hp : plainB x = true
      · rw [hp] at HUX
        have HS : Hid (urlF (b.take (k + 1)) = acc ++ [x]) := hid (by rw [hS]; unfold urlB; rw [if_pos hp])
        clear ho hB hx c0 hS hp hacc
        go_wp2_with fail
        refine (HUX.out _).mono ?_
        rintro e w1 ⟨rfl, rfl⟩
        go_wp2_with (at_builtin; refine Hid.out ?_)
        refine hid ?_
        refine wpList_append_lits rfl _ _ 31 rfl w.heap.size 5 inf _ Tryz.underlying31 hi0 hz0 hz1 hz2 rfl _ acc [x] rfl (HO.out.alloc _) ⟨w1.heap.size, 0, none⟩ 1 rfl (fun j u hu => bytes_cells [x] j u _ rfl hu) (fun y hy => by simp at hy; subst hy; exact ⟨hx0, hx1⟩) (by simp; omega) (by simp; omega) ?_
        intro v' w6 hown6 hB6
        have HN : Hid (OwnB 5 w6 w.heap.size v' (urlF (b.take (k + 1)))) := hid (by rw [HS.out]; exact hown6)
        have HBE := hid ((HB.out.alloc hs1 (.cells #[.int .u8 x] 5)).trans hB6)
        clear hown6 hB6
        go_wp2_with fail
        refine ⟨⟨k + 1, by omega, by push_cast; rfl, ⟨v', rfl, HN.out⟩, HBE.out⟩, ?_⟩
        simp [intOf]
        omega
      · rw [Bool.eq_false_iff.2 hp] at HUX
        have HS : Hid (urlF (b.take (k + 1)) = acc ++ [37, digF (x / 16), digF (x % 16)]) := hid (by rw [hS]; unfold urlB; rw [if_neg hp])
        clear ho hB hx c0 hS hp hacc
        go_wp2_with fail
        refine (HUX.out _).mono ?_
        rintro e w1 ⟨rfl, rfl⟩
        go_wp2_with fail
        obtain ⟨ι, Wc, ⟨i0, hi0'⟩, hWc, Wsur⟩ := held_class w1.drew (fun g => g = G)
        have hne : Nonempty ι := ⟨i0⟩
        have WS := hid Wsur; clear Wsur
        have HWc := hid hWc; clear hWc
        have Hi0 := hid hi0'; clear hi0'
        have g1 : ∀ i, (Wc i).cell? ⟨G, O + k, none⟩ = some (.int .u8 x) := fun i => (World.cell?_of_block (a := ⟨G, O + k, none⟩) (HWc.out i _ rfl)).trans c0w
        have q1 : 0 ≤ x / 16 ∧ x / 16 < 16 := by omega
        have q2 : 0 ≤ x % 16 ∧ x % 16 < 16 := by omega
        refine region_anyL (S := fun w' => ∃ i, w' = Wc i) (last := 16) (by kernel_rfl) ?_
        refine anyL_seg 0 13 (by kernel_rfl) (fun _ _ _ _ _ h => h) ⟨i0, Hi0.out.symm⟩ (f := 3) rfl (by kernel_rfl) (by kernel_rfl) ?_
        simp only [List.drop_zero, List.take_succ_cons, List.take_zero]
        repeat go_big_quiet_step (fail)
        refine wpQuiet_nil ?_
        refine anyL_act (i := 13) (by kernel_rfl) rfl rfl ?_
        intro K hK
        go_wp2_with fail
        have hS1 : ∃ i, (w1.drew.alloc (.cells #[.int .u8 37, .int .u8 (((hexD[(x / 16).toNat]'(show (x / 16).toNat < 16 by omega)).toNat : Nat) : Int), .int .u8 (((hexD[(x % 16).toNat]'(show (x % 16).toNat < 16 by omega)).toNat : Nat) : Int)] 5)) = Wc i := WS.out _ (fun q hq => by subst hq; exact Below.heap_alloc _ _ _ hGw)
        refine hK.out _ _ (fun _ => hS1) ?_
        clear hK K hS1
        refine anyL_act (i := 14) (by kernel_rfl) rfl rfl ?_
        intro K hK
        have hd1 := hexD_at (x / 16).toNat (by omega)
        have hd2 := hexD_at (x % 16).toNat (by omega)
        rw [show (((x / 16).toNat : Nat) : Int) = x / 16 by omega] at hd1
        rw [show (((x % 16).toNat : Nat) : Int) = x % 16 by omega] at hd2
        have hdb : (0 ≤ digF (x / 16) ∧ digF (x / 16) ≤ 255) ∧ 0 ≤ digF (x % 16) ∧ digF (x % 16) ≤ 255 := by unfold digF; constructor <;> split <;> omega
        have hOd : OwnB 5 w1.drew w.heap.size (.slice Ao acc.length co) acc := HO.out
        refine act_append_bytes _ _ 31 rfl w.heap.size 5 inf _ Tryz.underlying31 hi0 hz0 hz1 hz2 rfl _ acc [37, digF (x / 16), digF (x % 16)] rfl (hOd.alloc _) ⟨w1.heap.size, 0, none⟩ 3 rfl (fun j u hu => bytes_cells (w := w1.drew) [37, digF (x / 16), digF (x % 16)] j u _ (by
          show [Value.int .u8 37, .int .u8 (((hexD[(x / 16).toNat]'(show (x / 16).toNat < 16 by omega)).toNat : Nat) : Int), .int .u8 (((hexD[(x % 16).toNat]'(show (x % 16).toNat < 16 by omega)).toNat : Nat) : Int)] = _
          rw [hd1, hd2]
          rfl) hu) (fun y hy => by simp at hy; omega) (by simp; omega) (by simp; omega) ?_
        intro v' w6 hown6 hB6
        have HN : Hid (OwnB 5 w6 w.heap.size v' (urlF (b.take (k + 1)))) := hid (by rw [HS.out]; exact hown6)
        have HBE := hid ((RowKit.Below.alloc (w := w1.drew) ⟨HB.out.os, HB.out.tape, HB.out.output, HB.out.size, HB.out.block⟩ hs1 (.cells #[.int .u8 37, .int .u8 (((hexD[(x / 16).toNat]'(show (x / 16).toNat < 16 by omega)).toNat : Nat) : Int), .int .u8 (((hexD[(x % 16).toNat]'(show (x % 16).toNat < 16 by omega)).toNat : Nat) : Int)] 5)).trans hB6)
        clear hown6 hd1 hd2 hdb hOd
        have hS2 : ∃ i, w6 = Wc i := WS.out _ (fun q hq => by subst hq; exact (hB6.block _ hG).trans (Below.heap_alloc _ _ _ hGw))
        refine hK.out _ _ (fun _ => hS2) ?_
        clear hK K
        go_simp
        refine anyL_seg 15 1 (by kernel_rfl) (fun _ _ _ _ _ h => h) hS2 (f := 0) rfl (by kernel_rfl) (by kernel_rfl) ?_
        simp only [List.drop_succ_cons, List.drop_zero, List.take_succ_cons, List.take_zero]
        repeat go_big_quiet_step (fail)
        refine wpQuiet_nil ?_
        refine anyL_done (by kernel_rfl) ?_ 0
        clear hS2 hB6 WS HWc Hi0 hne i0 Wc ι g1
        go_wp2_with fail
        refine ⟨⟨k + 1, by omega, by push_cast; rfl, ⟨v', rfl, HN.out⟩, HBE.out⟩, ?_⟩
        simp [intOf]
        omega
    · have hke : k = b.length := by omega
      subst hke
      have HO : Hid (OwnB 5 wo w.heap.size (.slice Ao acc.length co) (urlF b)) := hid (by have := ho; rw [hacc, List.take_length] at this ⊢; exact this)
      have HB := hid hB
      have hlt' : ¬ (b.length : Int) < b.length := by omega
      clear ho hB hacc HAC
      go_wp2_with fail
      go_ret
      exact ⟨_, rfl, HO.out, HB.out⟩
end Go.Proofs.YthfcbbdghggefaaGreat
