/-
  What the reference escapes bytes to: which are unreserved, a digit's number.
-/
import Derived.Test.YthfcbbdghggefaaGreatQEsP
import Derived.Test.YthfcbbdghggefaaGreatProg
import Derived.WalkKit
namespace Go.Proofs.YthfcbbdghggefaaGreat
open Go.RowKit Go.Um Go.Proofs
def allU : ByteArray := ⟨#[65, 66, 67, 68, 69, 70, 71, 72, 73, 74, 75, 76, 77, 78, 79, 80, 81, 82, 83, 84, 85, 86, 87, 88, 89, 90, 97, 98, 99, 100, 101, 102, 103, 104, 105, 106, 107, 108, 109, 110, 111, 112, 113, 114, 115, 116, 117, 118, 119, 120, 121, 122, 48, 49, 50, 51, 52, 53, 54, 55, 56, 57, 45, 46, 95, 126]⟩
def lett (s : ByteArray) (j : Nat) : Int := ((s.data.toList.map UInt8.toNat).getD j 0 : Nat)
theorem lett_at (s : ByteArray) (k : Nat) (h : k < s.size) : ((s[k]'h).toNat : Int) = lett s k := by
  unfold lett
  rw [List.getD_eq_getElem?_getD, List.getElem?_map, Array.getElem?_toList, Array.getElem?_eq_getElem (show k < s.data.size from h)]
  rfl
theorem plainB_iff (b : Int) (hb : 0 ≤ b ∧ b ≤ 255) : plainB b = (List.range 66).any fun j => lett allU j == b := by
  have := all_bytes (p := fun b => plainB b == (List.range 66).any fun j => lett allU j == b) (by decide +kernel) b hb
  simpa using this
set_option maxHeartbeats 1000000 in
set_option maxRecDepth 100000 in
theorem runres_calls (b : Int) (hb : 0 ≤ b ∧ b ≤ 255) (w : World) : Calls Tryz.prog 31 #[.int .u8 b] w fun e w' => e = .returned (.bool (plainB b)) ∧ w' = w := by
  have HP := hid (plainB_iff b hb)
  obtain ⟨pb, hpb⟩ : ∃ pb, pb = plainB b := ⟨_, rfl⟩
  rw [← hpb] at HP ⊢
  clear hpb
  go_enter Tryz.func31, Tryz.ntmps31
  go_wp2_with fail
  go_loopw [3] (fun vi wr => ∃ k : Nat, k ≤ 66 ∧ vi = .int .i64 k ∧ wr = w ∧ ∀ j, j < k → lett allU j ≠ b) (fun vi _ => 66 - (intOf vi).toNat)
  case atStart => exact ⟨0, Nat.zero_le _, rfl, rfl, fun j hj => absurd hj (Nat.not_lt_zero _)⟩
  case round =>
    obtain ⟨k, hk, rfl, rfl, hj⟩ := hrel
    have HJ := hid hj
    clear hj
    by_cases hlt : k < 66
    · have hlt' : (k : Int) < 66 := by omega
      have HL := hid (lett_at allU k hlt)
      by_cases he : lett allU k = b
      · have HE : Hid (pb = true) := hid (by rw [HP.out]; exact List.any_eq_true.2 ⟨k, List.mem_range.2 hlt, by simpa using he⟩)
        have HK := hid (HL.out.trans he)
        clear HP HL he
        go_wp2_with fail
        · go_ret
          exact ⟨by rw [HE.out]; rfl, rfl⟩
        · rename_i h
          exact absurd (show (((allU[k]'hlt).toNat : Int) == b) = false from h) (by rw [HK.out]; simp)
      · have HK : Hid (¬ ((allU[k]'hlt).toNat : Int) = b) := hid (by rw [HL.out]; exact he)
        have HE := hid he
        clear HL he
        have HN : Hid (∃ k1 : Nat, k1 ≤ 66 ∧ Value.int .i64 ((k : Int) + 1) = .int .i64 k1 ∧ ∀ j, j < k1 → lett allU j ≠ b) := hid ⟨k + 1, by omega, by push_cast; rfl, fun j hj => by
          rcases Nat.lt_succ_iff_lt_or_eq.1 hj with h | rfl
          · exact HJ.out j h
          · exact HE.out⟩
        go_wp2_with fail
        · rename_i h
          exact absurd (by simpa using (show (((allU[k]'hlt).toNat : Int) == b) = true from h)) HK.out
        · refine ⟨by simpa using HN.out, ?_⟩
          simp [intOf]
          omega
    · obtain rfl : k = 66 := by omega
      have HE : Hid (pb = false) := hid (by
        rw [HP.out, Bool.eq_false_iff]
        intro h
        obtain ⟨j, hj, he⟩ := List.any_eq_true.1 h
        exact HJ.out j (List.mem_range.1 hj) (by simpa using he))
      clear hlt HP
      go_wp2_with fail
      go_ret
      exact ⟨by rw [HE.out]; rfl, rfl⟩
end Go.Proofs.YthfcbbdghggefaaGreat
