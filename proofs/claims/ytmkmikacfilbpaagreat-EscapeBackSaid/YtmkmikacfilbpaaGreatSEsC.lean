/-
  What the reference escapes bytes to: which are unreserved, a digit's number.
-/
import Derived.Test.YtmkmikacfilbpaaGreatSEsP
import Derived.Test.YtmkmikacfilbpaaGreatProg
import Derived.WalkKit
namespace Go.Proofs.YtmkmikacfilbpaaGreat
open Go.RowKit Go.Um Go.Proofs
def allU : ByteArray := ⟨#[65, 66, 67, 68, 69, 70, 71, 72, 73, 74, 75, 76, 77, 78, 79, 80, 81, 82, 83, 84, 85, 86, 87, 88, 89, 90, 97, 98, 99, 100, 101, 102, 103, 104, 105, 106, 107, 108, 109, 110, 111, 112, 113, 114, 115, 116, 117, 118, 119, 120, 121, 122, 48, 49, 50, 51, 52, 53, 54, 55, 56, 57, 45, 46, 95, 126]⟩
def allH : ByteArray := ⟨#[48, 49, 50, 51, 52, 53, 54, 55, 56, 57, 65, 66, 67, 68, 69, 70, 97, 98, 99, 100, 101, 102]⟩
def lett (s : ByteArray) (j : Nat) : Int := ((s.data.toList.map UInt8.toNat).getD j 0 : Nat)
theorem lett_at (s : ByteArray) (k : Nat) (h : k < s.size) : ((s[k]'h).toNat : Int) = lett s k := by
  unfold lett
  rw [List.getD_eq_getElem?_getD, List.getElem?_map, Array.getElem?_toList, Array.getElem?_eq_getElem (show k < s.data.size from h)]
  rfl
theorem plainB_iff (b : Int) (hb : 0 ≤ b ∧ b ≤ 255) : plainB b = (List.range 66).any fun j => lett allU j == b := by
  have := all_bytes (p := fun b => plainB b == (List.range 66).any fun j => lett allU j == b) (by decide +kernel) b hb
  simpa using this
theorem hexV_iff (b : Int) (hb : 0 ≤ b ∧ b ≤ 255) : (∀ k, k < 22 → lett allH k = b → hexV b = if 15 < k then (k : Int) - 6 else k) ∧ ((∀ k, k < 22 → lett allH k ≠ b) → hexV b = -1) := by
  have := all_bytes (p := fun b => ((List.range 22).all fun k => lett allH k != b || decide (hexV b = if 15 < k then (k : Int) - 6 else k)) && (((List.range 22).any fun k => lett allH k == b) || decide (hexV b = -1))) (by decide +kernel) b hb
  rw [Bool.and_eq_true, List.all_eq_true] at this
  refine ⟨fun k hk he => ?_, fun h => ?_⟩
  · have h2 := this.1 k (List.mem_range.2 hk)
    rw [Bool.or_eq_true] at h2
    rcases h2 with h2 | h2
    · rw [he] at h2
      simp at h2
    · exact of_decide_eq_true h2
  · have h2 := this.2
    rw [Bool.or_eq_true] at h2
    rcases h2 with h2 | h2
    · obtain ⟨k, hk, he⟩ := List.any_eq_true.1 h2
      exact absurd (by simpa using he) (h k (List.mem_range.1 hk))
    · exact of_decide_eq_true h2
set_option maxHeartbeats 1000000 in
set_option maxRecDepth 100000 in
theorem runres_calls (b : Int) (hb : 0 ≤ b ∧ b ≤ 255) (w : World) : Calls Tryz.prog 69 #[.int .u8 b] w fun e w' => e = .returned (.bool (plainB b)) ∧ w' = w := by
  have HP := hid (plainB_iff b hb)
  obtain ⟨pb, hpb⟩ : ∃ pb, pb = plainB b := ⟨_, rfl⟩
  rw [← hpb] at HP ⊢
  clear hpb
  go_enter Tryz.func69, Tryz.ntmps69
  go_wp2_with fail
  go_loopw [3] (fun vi wr => ∃ k : Nat, k ≤ 66 ∧ vi = .int .i64 k ∧ wr = w ∧ ∀ j, j < k → lett allU j ≠ b) (fun vi _ => 66 - (intOf vi).toNat)
  case atStart => exact ⟨0, Nat.zero_le _, rfl, rfl, fun j hj => absurd hj (Nat.not_lt_zero _)⟩
  case round =>
    obtain ⟨k, hk, rfl, rfl, hj⟩ := hrel
    have HJ := hid hj
    clear hj
    by_cases hlt : k < 66
    · have hlt' : (k : Int) < 66 := by omega
      have HL := hid (lett_at allU k hlt)
      by_cases he : lett allU k = b
      · have HE : Hid (pb = true) := hid (by rw [HP.out]; exact List.any_eq_true.2 ⟨k, List.mem_range.2 hlt, by simpa using he⟩)
        have HK := hid (HL.out.trans he)
        clear HP HL he
        go_wp2_with fail
        · go_ret
          exact ⟨by rw [HE.out]; rfl, rfl⟩
        · rename_i h
          exact absurd (show (((allU[k]'hlt).toNat : Int) == b) = false from h) (by rw [HK.out]; simp)
      · have HK : Hid (¬ ((allU[k]'hlt).toNat : Int) = b) := hid (by rw [HL.out]; exact he)
        have HE := hid he
        clear HL he
        have HN : Hid (∃ k1 : Nat, k1 ≤ 66 ∧ Value.int .i64 ((k : Int) + 1) = .int .i64 k1 ∧ ∀ j, j < k1 → lett allU j ≠ b) := hid ⟨k + 1, by omega, by push_cast; rfl, fun j hj => by
          rcases Nat.lt_succ_iff_lt_or_eq.1 hj with h | rfl
          · exact HJ.out j h
          · exact HE.out⟩
        go_wp2_with fail
        · rename_i h
          exact absurd (by simpa using (show (((allU[k]'hlt).toNat : Int) == b) = true from h)) HK.out
        · refine ⟨by simpa using HN.out, ?_⟩
          simp [intOf]
          omega
    · obtain rfl : k = 66 := by omega
      have HE : Hid (pb = false) := hid (by
        rw [HP.out, Bool.eq_false_iff]
        intro h
        obtain ⟨j, hj, he⟩ := List.any_eq_true.1 h
        exact HJ.out j (List.mem_range.1 hj) (by simpa using he))
      clear hlt HP
      go_wp2_with fail
      go_ret
      exact ⟨by rw [HE.out]; rfl, rfl⟩
set_option maxHeartbeats 1000000 in
set_option maxRecDepth 100000 in
theorem rhex_calls (b : Int) (hb : 0 ≤ b ∧ b ≤ 255) (w : World) : Calls Tryz.prog 73 #[.int .u8 b] w fun e w' => e = .returned (.int .i64 (hexV b)) ∧ w' = w := by
  have HP := hid (hexV_iff b hb)
  obtain ⟨pb, hpb⟩ : ∃ pb, pb = hexV b := ⟨_, rfl⟩
  rw [← hpb] at HP ⊢
  clear hpb
  go_enter Tryz.func73, Tryz.ntmps73
  go_wp2_with fail
  go_loopw [3] (fun vi wr => ∃ k : Nat, k ≤ 22 ∧ vi = .int .i64 k ∧ wr = w ∧ ∀ j, j < k → lett allH j ≠ b) (fun vi _ => 22 - (intOf vi).toNat)
  case atStart => exact ⟨0, Nat.zero_le _, rfl, rfl, fun j hj => absurd hj (Nat.not_lt_zero _)⟩
  case round =>
    obtain ⟨k, hk, rfl, rfl, hj⟩ := hrel
    have HJ := hid hj
    clear hj
    by_cases hlt : k < 22
    · have hlt' : (k : Int) < 22 := by omega
      have HL := hid (lett_at allH k hlt)
      by_cases he : lett allH k = b
      · have HE := hid (HP.out.1 k hlt he)
        have HK := hid (HL.out.trans he)
        clear HP HL he
        by_cases h15 : 15 < k
        · have h15' : (15 : Int) < k := by omega
          rw [if_pos h15] at HE
          go_wp2_with fail
          · go_ret
            exact ⟨by rw [HE.out]; rfl, rfl⟩
          · rename_i h
            exact absurd (show (((allH[k]'hlt).toNat : Int) == b) = false from h) (by rw [HK.out]; simp)
        · have h15' : ¬ (15 : Int) < k := by omega
          rw [if_neg h15] at HE
          go_wp2_with fail
          · go_ret
            exact ⟨by rw [HE.out]; rfl, rfl⟩
          · rename_i h
            exact absurd (show (((allH[k]'hlt).toNat : Int) == b) = false from h) (by rw [HK.out]; simp)
      · have HK : Hid (¬ ((allH[k]'hlt).toNat : Int) = b) := hid (by rw [HL.out]; exact he)
        have HE := hid he
        clear HL he
        have HN : Hid (∃ k1 : Nat, k1 ≤ 22 ∧ Value.int .i64 ((k : Int) + 1) = .int .i64 k1 ∧ ∀ j, j < k1 → lett allH j ≠ b) := hid ⟨k + 1, by omega, by push_cast; rfl, fun j hj => by
          rcases Nat.lt_succ_iff_lt_or_eq.1 hj with h | rfl
          · exact HJ.out j h
          · exact HE.out⟩
        go_wp2_with fail
        · first
            | (rename_i h; exact absurd (by simpa using (show (((allH[k]'hlt).toNat : Int) == b) = true from h)) HK.out)
            | (rename_i h _; exact absurd (by simpa using (show (((allH[k]'hlt).toNat : Int) == b) = true from h)) HK.out)
            | (rename_i h _ _; exact absurd (by simpa using (show (((allH[k]'hlt).toNat : Int) == b) = true from h)) HK.out)
            | (rename_i h _ _ _; exact absurd (by simpa using (show (((allH[k]'hlt).toNat : Int) == b) = true from h)) HK.out)
            | (rename_i h _ _ _ _; exact absurd (by simpa using (show (((allH[k]'hlt).toNat : Int) == b) = true from h)) HK.out)
        · first
            | (rename_i h; exact absurd (by simpa using (show (((allH[k]'hlt).toNat : Int) == b) = true from h)) HK.out)
            | (rename_i h _; exact absurd (by simpa using (show (((allH[k]'hlt).toNat : Int) == b) = true from h)) HK.out)
            | (rename_i h _ _; exact absurd (by simpa using (show (((allH[k]'hlt).toNat : Int) == b) = true from h)) HK.out)
            | (rename_i h _ _ _; exact absurd (by simpa using (show (((allH[k]'hlt).toNat : Int) == b) = true from h)) HK.out)
            | (rename_i h _ _ _ _; exact absurd (by simpa using (show (((allH[k]'hlt).toNat : Int) == b) = true from h)) HK.out)
        · refine ⟨by simpa using HN.out, ?_⟩
          simp [intOf]
          omega
    · obtain rfl : k = 22 := by omega
      have HE : Hid (pb = -1) := hid (HP.out.2 HJ.out)
      clear hlt HP
      go_wp2_with fail
      go_ret
      exact ⟨by rw [HE.out]; rfl, rfl⟩
end Go.Proofs.YtmkmikacfilbpaaGreat
