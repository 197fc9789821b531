/-
  The reference's Number.
-/
import Derived.Test.YtcdnkmefcldfmaaDoorPgReg
import Derived.Test.YtcdnkmefcldfmaaDoorPgLib
import Derived.Laws.BytesArg
import Derived.IntWalk
import Derived.Lib.ItoaLen

namespace Go.Um
theorem dec_step {u : Nat} (h : ¬ u < 10) : Lib.decDigits u = Lib.decDigits (u / 10) ++ [UInt8.ofNat (48 + u % 10)] := by
  conv => lhs; rw [Lib.decDigits, dif_neg h]
theorem itoa_pos {x : Int} (h : 9 < x) : Lib.itoa x = Lib.itoa (x.tdiv 10) ++ [UInt8.ofNat (48 + (x.tmod 10).toNat)] := by
  obtain ⟨u, rfl⟩ := Int.eq_ofNat_of_zero_le (show 0 ≤ x by omega)
  have h1 : ((u : Int).tdiv 10) = ((u / 10 : Nat) : Int) := rfl
  have h2 : ((u : Int).tmod 10) = ((u % 10 : Nat) : Int) := rfl
  rw [h1, h2]
  unfold Lib.itoa
  rw [if_neg (by omega), if_neg (by omega)]
  exact dec_step (by omega)
theorem itoa_neg {x : Int} (h : x < -9) : Lib.itoa x = Lib.itoa (x.tdiv 10) ++ [UInt8.ofNat (48 + (- x.tmod 10).toNat)] := by
  obtain ⟨u, rfl⟩ : ∃ u : Nat, x = -(u : Int) := ⟨x.natAbs, by omega⟩
  have h1 : ((-(u : Int)).tdiv 10) = -((u / 10 : Nat) : Int) := by rw [Int.neg_tdiv]; rfl
  have h2 : ((-(u : Int)).tmod 10) = -((u % 10 : Nat) : Int) := by rw [Int.neg_tmod]; rfl
  rw [h1, h2]
  unfold Lib.itoa
  rw [if_pos (by omega), if_pos (by omega), Int.neg_neg, Int.toNat_natCast]
  have e1 : (-(u : Int)).natAbs = u := by omega
  have e2 : (-((u / 10 : Nat) : Int)).natAbs = u / 10 := by omega
  rw [e1, e2, dec_step (by omega)]
  rfl
theorem itoa_one {x : Int} (h0 : 0 ≤ x) (h : x ≤ 9) : Lib.itoa x = [UInt8.ofNat (48 + x.toNat)] := by
  unfold Lib.itoa
  rw [if_neg (by omega), Lib.decDigits, dif_pos (by omega)]
theorem itoa_mone {x : Int} (h0 : x < 0) (h : -9 ≤ x) : Lib.itoa x = [45, UInt8.ofNat (48 + (-x).toNat)] := by
  unfold Lib.itoa
  rw [if_pos (by omega), Lib.decDigits, dif_pos (by omega)]
  congr 2
  congr 1
  omega
/-- the bytes as a string. -/
def bs (l : By) : ByteArray := ⟨l.toArray⟩
theorem bs_app (a b : By) : bs a ++ bs b = bs (a ++ b) := by
  apply ByteArray.ext
  simp [bs]
end Go.Um
namespace Go.Proofs.YtcdnkmefcldfmaaDoor
open Go.RowKit Go.Um

theorem strOf1 (n : Int) : strOfNums [n] = bs [UInt8.ofNat n.toNat] := by simp [strOfNums, bs]
/-- the one byte of a new row, as a string. -/
theorem conv1 (w : World) (g : Nat) (n : Int) (h : w.cell? ⟨g, 0, none⟩ = some (.int .u8 n)) : (convert 51 9 (.slice (some ⟨g, 0, none⟩) 1 1)).run Tryd.prog w = .ok (.string (bs [UInt8.ofNat n.toNat])) w := by
  rw [← strOf1]
  refine run_convert_bytes_arg w 51 5 Tryd.underlying51 Tryd.underlying5 g 0 1 1 [n] rfl (fun i hi => ?_) 9 Tryd.underlying9
  obtain rfl : i = 0 := by omega
  exact h
theorem conv1n (w : World) (n : Int) : (convert 51 9 (.slice (some ⟨w.heap.size, 0, none⟩) 1 1)).run Tryd.prog (w.alloc (.cells #[.int .u8 n] 5)) = .ok (.string (bs [UInt8.ofNat n.toNat])) (w.alloc (.cells #[.int .u8 n] 5)) :=
  conv1 _ _ _ (by rw [Lib.cell_of_heap (heap_alloc_new w _)]; rfl)

theorem itoaB_le {x : Int} (h : I64 x) : (bs (Lib.itoa x)).size ≤ 21 := by have := Lib.itoa_length_le x h.1 h.2; simpa [bs, ByteArray.size] using this
set_option maxHeartbeats 2000000 in
set_option maxRecDepth 100000 in
theorem Number_one (x : Int) (h0 : 0 ≤ x) (h9 : x ≤ 9) (w : World) : Calls Tryd.prog 24 #[.int .i64 x] w fun e w' => e = .returned (.string (bs (Lib.itoa x))) ∧ Below w.heap.size w w' := by
  have kc := conv1n
  have n0 : ¬ x < 0 := by omega
  have n9 : ¬ 9 < x := by omega
  go_enter Tryd.func24, Tryd.ntmps24
  go_wp2_with fail
  go_ret
  exact ⟨congrArg (fun s => Ending.returned (.string s)) (by rw [itoa_one h0 h9]; congr 3; omega), (Below.refl _ _).alloc (Nat.le_refl _) _⟩
set_option maxHeartbeats 2000000 in
set_option maxRecDepth 100000 in
theorem Number_mone (x : Int) (h0 : x < 0) (h9 : -9 ≤ x) (w : World) : Calls Tryd.prog 24 #[.int .i64 x] w fun e w' => e = .returned (.string (bs (Lib.itoa x))) ∧ Below w.heap.size w w' := by
  have kc := conv1n
  have n9 : ¬ x < -9 := by omega
  go_enter Tryd.func24, Tryd.ntmps24
  go_wp2_with fail
  go_ret
  exact ⟨congrArg (fun s => Ending.returned (.string s)) (by rw [itoa_mone h0 h9, show (48 - x).toNat = 48 + (-x).toNat by omega]; exact bs_app [45] _), (Below.refl _ _).alloc (Nat.le_refl _) _⟩

set_option maxHeartbeats 1000000 in
set_option maxRecDepth 100000 in
theorem Number_all (n : Nat) : ∀ (x : Int), x.natAbs ≤ n → I64 x → ∀ w : World, Calls Tryd.prog 24 #[.int .i64 x] w fun e w' => e = .returned (.string (bs (Lib.itoa x))) ∧ Below w.heap.size w w' := by
  have kc := conv1n
  induction n with
  | zero => exact fun x hx _ w => Number_one x (by omega) (by omega) w
  | succ n ih =>
    intro x hx hI w
    by_cases h9 : x < -9
    · have h0 : x < 0 := by omega
      have hm : x = 10 * x.tdiv 10 + x.tmod 10 := (Int.mul_tdiv_add_tmod x 10).symm
      have hm1 : -9 ≤ x.tmod 10 ∧ x.tmod 10 ≤ 0 := by
        have h1 := Int.tmod_eq_emod_of_nonneg (show 0 ≤ -x by omega) (b := 10)
        rw [Int.neg_tmod] at h1
        have h2 := Int.emod_nonneg (-x) (show (10 : Int) ≠ 0 by decide)
        have h3 := Int.emod_lt_of_pos (-x) (show (0 : Int) < 10 by decide)
        omega
      have hle : (bs (Lib.itoa (x.tdiv 10))).size ≤ 21 := itoaB_le ⟨by have := hI.1; have := hI.2; omega, by have := hI.1; have := hI.2; omega⟩
      have h1s : ∀ c : UInt8, (bs [c]).size = 1 := fun _ => rfl
      have hq : RowKit.wrap64 (x.tdiv 10) = x.tdiv 10 := IntWalk.wrap64_in _ (by have := hI.1; have := hI.2; omega)
      have hd : RowKit.wrap64 (48 - x.tmod 10) % 256 = 48 - x.tmod 10 := by rw [IntWalk.wrap64_in _ (by omega)]; omega
      have HQ := hid hq
      have HD := hid hd
      have HE : Hid (bs (Lib.itoa (x.tdiv 10)) ++ bs [UInt8.ofNat (48 - x.tmod 10).toNat] = bs (Lib.itoa x)) := hid (by rw [bs_app, itoa_neg h9]; congr 3; congr 1; omega)
      have IH := hid (ih (x.tdiv 10) (by omega) ⟨by have := hI.1; have := hI.2; omega, by have := hI.1; have := hI.2; omega⟩)
      clear hq hd ih hm hm1
      go_enter Tryd.func24, Tryd.ntmps24
      go_wp2_with fail
      obtain ⟨ι, W, ⟨i0, hi0⟩, hW, Wsur⟩ := ext_class w.drew
      have hne : Nonempty ι := ⟨i0⟩
      have WS := hid Wsur; clear Wsur
      have HW := hid hW; clear hW
      have Hi0 := hid hi0; clear hi0
      refine region_anyL (S := fun w' => ∃ i, w' = W i) (last := 11) (by kernel_rfl) ?_
      refine anyL_seg 0 2 (by kernel_rfl) (fun _ _ _ _ _ h => h) ⟨i0, Hi0.out.symm⟩ (f := 9) rfl (by kernel_rfl) (by kernel_rfl) ?_
      simp only [List.drop_zero, List.take_succ_cons, List.take_zero]
      repeat go_big_quiet_step (fail)
      refine wpQuiet_nil ?_
      refine anyL_seg 3 4 (by kernel_rfl) (fun _ _ _ _ _ h => h) ⟨i0, Hi0.out.symm⟩ (f := 5) rfl (by kernel_rfl) (by kernel_rfl) ?_
      simp only [List.drop_succ_cons, List.drop_zero, List.take_succ_cons, List.take_zero]
      repeat go_big_quiet_step (fail)
      refine wpQuiet_nil ?_
      rw [HQ.out, HD.out]
      refine anyL_two (i := 2) (j := 7) (by kernel_rfl) rfl rfl rfl rfl ?_ ?_
      · intro K hK
        go_wp2_with fail
        refine (IH.out w.drew).mono ?_
        rintro e w5 ⟨rfl, hb5⟩
        go_wp2_with fail
        refine hK.out _ _ (fun _ => WS.out i0 _ (by rw [Hi0.out]; exact hb5)) ?_
        clear hK K
        refine anyL_act (i := 7) (by kernel_rfl) rfl rfl ?_
        intro K hK
        go_wp2_with fail
        have hb6 : Below w.drew.heap.size w.drew (w5.alloc (.cells #[.int .u8 (48 - x.tmod 10)] 5)) := hb5.alloc hb5.size _
        have hS6 : ∃ i, (w5.alloc (.cells #[.int .u8 (48 - x.tmod 10)] 5)) = W i := WS.out i0 _ (by rw [Hi0.out]; exact hb6)
        refine hK.out _ _ (fun _ => hS6) ?_
        clear hK K
        refine anyL_act (i := 8) (by kernel_rfl) rfl rfl ?_
        intro K hK
        go_wp2_with fail
        refine hK.out _ _ (fun _ => hS6) ?_
        clear hK K
        refine anyL_act (i := 9) (by kernel_rfl) rfl rfl ?_
        intro K hK
        go_wp2_with fail
        refine hK.out _ _ (fun _ => hS6) ?_
        clear hK K
        refine anyL_act (i := 10) (by kernel_rfl) rfl rfl ?_
        intro K hK
        go_wp2_with fail
        refine hK.out _ _ (fun _ => hS6) ?_
        clear hK K
        refine anyL_done (by kernel_rfl) ?_ 0
        go_wp2_with fail
        go_ret
        exact ⟨congrArg (fun s => Ending.returned (.string s)) HE.out, ((Below.refl w.heap.size w).drew).trans hb6⟩
      · intro K hK
        go_wp2_with fail
        have hb5 : Below w.drew.heap.size w.drew (w.alloc (.cells #[.int .u8 (48 - x.tmod 10)] 5)).drew := ((Below.refl _ _).alloc (Nat.le_refl _) _)
        have hS5 : ∃ i, (w.alloc (.cells #[.int .u8 (48 - x.tmod 10)] 5)).drew = W i := WS.out i0 _ (by rw [Hi0.out]; exact hb5)
        refine hK.out _ _ (fun _ => hS5) ?_
        clear hK K
        have hz5 : (w.alloc (.cells #[.int .u8 (48 - x.tmod 10)] 5)).drew.heap[w.heap.size]? = some (.cells #[.int .u8 (48 - x.tmod 10)] 5 (0, 0)) := heap_alloc_new w _
        have hs5 : w.heap.size < (w.alloc (.cells #[.int .u8 (48 - x.tmod 10)] 5)).drew.heap.size := by
          show w.heap.size < (w.alloc (.cells #[.int .u8 (48 - x.tmod 10)] 5)).heap.size
          simp
        have k5 := conv1 _ _ _ (show (w.alloc (.cells #[.int .u8 (48 - x.tmod 10)] 5)).drew.cell? ⟨w.heap.size, 0, none⟩ = some (.int .u8 (48 - x.tmod 10)) by rw [Lib.cell_of_heap hz5]; rfl)
        generalize (w.alloc (.cells #[.int .u8 (48 - x.tmod 10)] 5)).drew = w5 at hb5 hS5 hz5 hs5 k5 ⊢
        refine anyL_two (i := 2) (j := 8) (by kernel_rfl) rfl rfl rfl rfl ?_ ?_
        · intro K hK
          go_wp2_with fail
          refine (IH.out w5).mono ?_
          rintro e w6 ⟨rfl, hb6⟩
          have hb7 := hb5.trans (hb6.mono hb5.size)
          have k6 := conv1 w6 _ _ (show w6.cell? ⟨w.heap.size, 0, none⟩ = some (.int .u8 (48 - x.tmod 10)) by rw [Lib.cell_of_heap ((hb6.block _ hs5).trans hz5)]; rfl)
          go_wp2_with fail
          have hS6 : ∃ i, w6 = W i := WS.out i0 _ (by rw [Hi0.out]; exact hb7)
          refine hK.out _ _ (fun _ => hS6) ?_
          clear hK K
          refine anyL_act (i := 8) (by kernel_rfl) rfl rfl ?_
          intro K hK
          go_wp2_with fail
          refine hK.out _ _ (fun _ => hS6) ?_
          clear hK K
          refine anyL_act (i := 9) (by kernel_rfl) rfl rfl ?_
          intro K hK
          go_wp2_with fail
          refine hK.out _ _ (fun _ => hS6) ?_
          clear hK K
          refine anyL_act (i := 10) (by kernel_rfl) rfl rfl ?_
          intro K hK
          go_wp2_with fail
          refine hK.out _ _ (fun _ => hS6) ?_
          clear hK K
          refine anyL_done (by kernel_rfl) ?_ 0
          go_wp2_with fail
          go_ret
          exact ⟨congrArg (fun s => Ending.returned (.string s)) HE.out, ((Below.refl w.heap.size w).drew).trans hb7⟩
        · intro K hK
          go_wp2_with fail
          refine hK.out _ _ (fun _ => hS5) ?_
          clear hK K
          refine anyL_act (i := 2) (by kernel_rfl) rfl rfl ?_
          intro K hK
          go_wp2_with fail
          refine (IH.out w5).mono ?_
          rintro e w6 ⟨rfl, hb6⟩
          have hb7 := hb5.trans (hb6.mono hb5.size)
          go_wp2_with fail
          have hS6 : ∃ i, w6 = W i := WS.out i0 _ (by rw [Hi0.out]; exact hb7)
          refine hK.out _ _ (fun _ => hS6) ?_
          clear hK K
          refine anyL_act (i := 9) (by kernel_rfl) rfl rfl ?_
          intro K hK
          go_wp2_with fail
          refine hK.out _ _ (fun _ => hS6) ?_
          clear hK K
          refine anyL_act (i := 10) (by kernel_rfl) rfl rfl ?_
          intro K hK
          go_wp2_with fail
          refine hK.out _ _ (fun _ => hS6) ?_
          clear hK K
          refine anyL_done (by kernel_rfl) ?_ 0
          go_wp2_with fail
          go_ret
          exact ⟨congrArg (fun s => Ending.returned (.string s)) HE.out, ((Below.refl w.heap.size w).drew).trans hb7⟩
    · by_cases h0 : x < 0
      · exact Number_mone x h0 (by omega) w
      · by_cases h8 : 9 < x
        · have hm : x = 10 * x.tdiv 10 + x.tmod 10 := (Int.mul_tdiv_add_tmod x 10).symm
          have hm1 : 0 ≤ x.tmod 10 ∧ x.tmod 10 ≤ 9 := by
            have h1 := Int.tmod_eq_emod_of_nonneg (show 0 ≤ x by omega) (b := 10)
            have h2 := Int.emod_nonneg x (show (10 : Int) ≠ 0 by decide)
            have h3 := Int.emod_lt_of_pos x (show (0 : Int) < 10 by decide)
            omega
          have HT := hid (Int.tdiv_eq_ediv_of_nonneg (show 0 ≤ x by omega) (b := 10))
          have HM := hid (Int.tmod_eq_emod_of_nonneg (show 0 ≤ x by omega) (b := 10))
          have hI2 : I64 (x / 10) := ⟨by have := hI.1; have := hI.2; omega, by have := hI.1; have := hI.2; omega⟩
          have HQ := hid (show RowKit.wrap64 (x / 10) = x / 10 from IntWalk.wrap64_in _ (by have := hI.1; have := hI.2; omega))
          have hle : (bs (Lib.itoa (x / 10))).size ≤ 21 := itoaB_le hI2
          have h1s : ∀ c : UInt8, (bs [c]).size = 1 := fun _ => rfl
          have HE : Hid (bs (Lib.itoa (x / 10)) ++ bs [UInt8.ofNat (48 + x % 10).toNat] = bs (Lib.itoa x)) := hid (by rw [bs_app, itoa_pos h8, HM.out, HT.out]; congr 3; congr 1; omega)
          have IH := hid (ih (x / 10) (by omega) hI2)
          clear ih hm hm1 hI2
          go_enter Tryd.func24, Tryd.ntmps24
          go_wp2_with fail
          obtain ⟨ι, W, ⟨i0, hi0⟩, hW, Wsur⟩ := ext_class w.drew
          have hne : Nonempty ι := ⟨i0⟩
          have WS := hid Wsur; clear Wsur
          have HW := hid hW; clear hW
          have Hi0 := hid hi0; clear hi0
          refine region_anyL (S := fun w' => ∃ i, w' = W i) (last := 11) (by kernel_rfl) ?_
          refine anyL_seg 0 2 (by kernel_rfl) (fun _ _ _ _ _ h => h) ⟨i0, Hi0.out.symm⟩ (f := 9) rfl (by kernel_rfl) (by kernel_rfl) ?_
          simp only [List.drop_zero, List.take_succ_cons, List.take_zero]
          repeat go_big_quiet_step (fail)
          refine wpQuiet_nil ?_
          refine anyL_seg 3 4 (by kernel_rfl) (fun _ _ _ _ _ h => h) ⟨i0, Hi0.out.symm⟩ (f := 5) rfl (by kernel_rfl) (by kernel_rfl) ?_
          simp only [List.drop_succ_cons, List.drop_zero, List.take_succ_cons, List.take_zero]
          repeat go_big_quiet_step (fail)
          refine wpQuiet_nil ?_
          rw [HT.out, HQ.out]
          refine anyL_two (i := 2) (j := 7) (by kernel_rfl) rfl rfl rfl rfl ?_ ?_
          · intro K hK
            go_wp2_with fail
            refine (IH.out w.drew).mono ?_
            rintro e w5 ⟨rfl, hb5⟩
            go_wp2_with fail
            refine hK.out _ _ (fun _ => WS.out i0 _ (by rw [Hi0.out]; exact hb5)) ?_
            clear hK K
            refine anyL_act (i := 7) (by kernel_rfl) rfl rfl ?_
            intro K hK
            go_wp2_with fail
            have hb6 : Below w.drew.heap.size w.drew (w5.alloc (.cells #[.int .u8 (48 + x % 10)] 5)) := hb5.alloc hb5.size _
            have hS6 : ∃ i, (w5.alloc (.cells #[.int .u8 (48 + x % 10)] 5)) = W i := WS.out i0 _ (by rw [Hi0.out]; exact hb6)
            refine hK.out _ _ (fun _ => hS6) ?_
            clear hK K
            refine anyL_act (i := 8) (by kernel_rfl) rfl rfl ?_
            intro K hK
            go_wp2_with fail
            refine hK.out _ _ (fun _ => hS6) ?_
            clear hK K
            refine anyL_act (i := 9) (by kernel_rfl) rfl rfl ?_
            intro K hK
            go_wp2_with fail
            refine hK.out _ _ (fun _ => hS6) ?_
            clear hK K
            refine anyL_act (i := 10) (by kernel_rfl) rfl rfl ?_
            intro K hK
            go_wp2_with fail
            refine hK.out _ _ (fun _ => hS6) ?_
            clear hK K
            refine anyL_done (by kernel_rfl) ?_ 0
            go_wp2_with fail
            go_ret
            exact ⟨congrArg (fun s => Ending.returned (.string s)) HE.out, ((Below.refl w.heap.size w).drew).trans hb6⟩
          · intro K hK
            go_wp2_with fail
            have hb5 : Below w.drew.heap.size w.drew (w.alloc (.cells #[.int .u8 (48 + x % 10)] 5)).drew := ((Below.refl _ _).alloc (Nat.le_refl _) _)
            have hS5 : ∃ i, (w.alloc (.cells #[.int .u8 (48 + x % 10)] 5)).drew = W i := WS.out i0 _ (by rw [Hi0.out]; exact hb5)
            refine hK.out _ _ (fun _ => hS5) ?_
            clear hK K
            have hz5 : (w.alloc (.cells #[.int .u8 (48 + x % 10)] 5)).drew.heap[w.heap.size]? = some (.cells #[.int .u8 (48 + x % 10)] 5 (0, 0)) := heap_alloc_new w _
            have hs5 : w.heap.size < (w.alloc (.cells #[.int .u8 (48 + x % 10)] 5)).drew.heap.size := by
              show w.heap.size < (w.alloc (.cells #[.int .u8 (48 + x % 10)] 5)).heap.size
              simp
            have k5 := conv1 _ _ _ (show (w.alloc (.cells #[.int .u8 (48 + x % 10)] 5)).drew.cell? ⟨w.heap.size, 0, none⟩ = some (.int .u8 (48 + x % 10)) by rw [Lib.cell_of_heap hz5]; rfl)
            generalize (w.alloc (.cells #[.int .u8 (48 + x % 10)] 5)).drew = w5 at hb5 hS5 hz5 hs5 k5 ⊢
            refine anyL_two (i := 2) (j := 8) (by kernel_rfl) rfl rfl rfl rfl ?_ ?_
            · intro K hK
              go_wp2_with fail
              refine (IH.out w5).mono ?_
              rintro e w6 ⟨rfl, hb6⟩
              have hb7 := hb5.trans (hb6.mono hb5.size)
              have k6 := conv1 w6 _ _ (show w6.cell? ⟨w.heap.size, 0, none⟩ = some (.int .u8 (48 + x % 10)) by rw [Lib.cell_of_heap ((hb6.block _ hs5).trans hz5)]; rfl)
              go_wp2_with fail
              have hS6 : ∃ i, w6 = W i := WS.out i0 _ (by rw [Hi0.out]; exact hb7)
              refine hK.out _ _ (fun _ => hS6) ?_
              clear hK K
              refine anyL_act (i := 8) (by kernel_rfl) rfl rfl ?_
              intro K hK
              go_wp2_with fail
              refine hK.out _ _ (fun _ => hS6) ?_
              clear hK K
              refine anyL_act (i := 9) (by kernel_rfl) rfl rfl ?_
              intro K hK
              go_wp2_with fail
              refine hK.out _ _ (fun _ => hS6) ?_
              clear hK K
              refine anyL_act (i := 10) (by kernel_rfl) rfl rfl ?_
              intro K hK
              go_wp2_with fail
              refine hK.out _ _ (fun _ => hS6) ?_
              clear hK K
              refine anyL_done (by kernel_rfl) ?_ 0
              go_wp2_with fail
              go_ret
              exact ⟨congrArg (fun s => Ending.returned (.string s)) HE.out, ((Below.refl w.heap.size w).drew).trans hb7⟩
            · intro K hK
              go_wp2_with fail
              refine hK.out _ _ (fun _ => hS5) ?_
              clear hK K
              refine anyL_act (i := 2) (by kernel_rfl) rfl rfl ?_
              intro K hK
              go_wp2_with fail
              refine (IH.out w5).mono ?_
              rintro e w6 ⟨rfl, hb6⟩
              have hb7 := hb5.trans (hb6.mono hb5.size)
              go_wp2_with fail
              have hS6 : ∃ i, w6 = W i := WS.out i0 _ (by rw [Hi0.out]; exact hb7)
              refine hK.out _ _ (fun _ => hS6) ?_
              clear hK K
              refine anyL_act (i := 9) (by kernel_rfl) rfl rfl ?_
              intro K hK
              go_wp2_with fail
              refine hK.out _ _ (fun _ => hS6) ?_
              clear hK K
              refine anyL_act (i := 10) (by kernel_rfl) rfl rfl ?_
              intro K hK
              go_wp2_with fail
              refine hK.out _ _ (fun _ => hS6) ?_
              clear hK K
              refine anyL_done (by kernel_rfl) ?_ 0
              go_wp2_with fail
              go_ret
              exact ⟨congrArg (fun s => Ending.returned (.string s)) HE.out, ((Below.refl w.heap.size w).drew).trans hb7⟩
        · exact Number_one x (by omega) (by omega) w
theorem Number_calls (x : Int) (hI : I64 x) (w : World) : Calls Tryd.prog 24 #[.int .i64 x] w fun e w' => e = .returned (.string (bs (Lib.itoa x))) ∧ Below w.heap.size w w' := Number_all _ x (Nat.le_refl _) hI w
end Go.Proofs.YtcdnkmefcldfmaaDoor
