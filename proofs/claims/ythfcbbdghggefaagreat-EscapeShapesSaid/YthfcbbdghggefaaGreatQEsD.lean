/-
  Bytes of which four bits are a digit, or a letter: escape.nibble.
-/
import Derived.Test.YthfcbbdghggefaaGreatQEsB
namespace Go.Proofs.YthfcbbdghggefaaGreat
open Go.RowKit Go.Um Go.Proofs
set_option maxHeartbeats 1000000 in
set_option maxRecDepth 100000 in
theorem nibble048 (w : World) : Calls Tryz.prog 71 #[.int .i64 0, .int .i64 48] w (SetPost (nibL 0 48) w) := by
  obtain ⟨wa, hwa⟩ : ∃ wa, wa = w := ⟨_, rfl⟩
  have hBa : Below w.heap.size w wa := by rw [hwa]; exact Below.refl _ w
  have h1 := own_new (w := wa) (e := 75) (x := ⟨0, 9⟩) ⟨okI (by simp), okI (by simp)⟩
  dsimp only at h1
  have h2 := own_new (w := wa.alloc (.cells #[.int .i64 0, .int .i64 9] 75)) (e := 75) (x := ⟨0, 255⟩) ⟨okI (by simp), okI (by simp)⟩
  dsimp only at h2
  have hB1 : Below wa.heap.size wa (wa.alloc (.cells #[.int .i64 0, .int .i64 9] 75)) := (Below.refl _ wa).alloc (Nat.le_refl _) _
  have hB2 : Below (wa.alloc (.cells #[.int .i64 0, .int .i64 9] 75)).heap.size (wa.alloc (.cells #[.int .i64 0, .int .i64 9] 75)) ((wa.alloc (.cells #[.int .i64 0, .int .i64 9] 75)).alloc (.cells #[.int .i64 0, .int .i64 255] 75)) := (Below.refl _ _).alloc (Nat.le_refl _) _
  have HP := hid (Pre0_calls 0 9 (by omega) (by decide +kernel) _ _ _ h2.rel (spansR.below h1.rel hB2 hB2.size))
  have hn : normF (preL 0 0 9) = nibL 0 48 := by decide +kernel
  rw [hn] at HP
  have HBT := hid (hBa.trans ((hB1.trans (hB2.mono hB1.size)).mono hBa.size))
  rw [hwa] at HP HBT
  simp only [World.size_alloc] at HP
  clear hn h1 h2 hB1 hB2 hBa hwa wa
  go_enter Tryz.func71, Tryz.ntmps71
  go_wp2_with fail
  refine HP.out.mono ?_
  rintro e w1 ⟨u, rfl, ho, hB⟩
  have HO := hid (ho.base HBT.out.size)
  have HBF := hid (HBT.out.trans (hB.mono HBT.out.size))
  clear ho hB
  go_wp2_with fail
  go_ret
  exact ⟨_, rfl, HO.out, HBF.out⟩
set_option maxHeartbeats 1000000 in
set_option maxRecDepth 100000 in
theorem nibble055 (w : World) : Calls Tryz.prog 71 #[.int .i64 0, .int .i64 55] w (SetPost (nibL 0 55) w) := by
  obtain ⟨wa, hwa⟩ : ∃ wa, wa = (w.alloc (.cells #[.int .i64 0, .int .i64 9] 75)) := ⟨_, rfl⟩
  have hBa : Below w.heap.size w wa := by rw [hwa]; exact (Below.refl _ w).alloc (Nat.le_refl _) _
  have h1 := own_new (w := wa) (e := 75) (x := ⟨10, 15⟩) ⟨okI (by simp), okI (by simp)⟩
  dsimp only at h1
  have h2 := own_new (w := wa.alloc (.cells #[.int .i64 10, .int .i64 15] 75)) (e := 75) (x := ⟨0, 255⟩) ⟨okI (by simp), okI (by simp)⟩
  dsimp only at h2
  have hB1 : Below wa.heap.size wa (wa.alloc (.cells #[.int .i64 10, .int .i64 15] 75)) := (Below.refl _ wa).alloc (Nat.le_refl _) _
  have hB2 : Below (wa.alloc (.cells #[.int .i64 10, .int .i64 15] 75)).heap.size (wa.alloc (.cells #[.int .i64 10, .int .i64 15] 75)) ((wa.alloc (.cells #[.int .i64 10, .int .i64 15] 75)).alloc (.cells #[.int .i64 0, .int .i64 255] 75)) := (Below.refl _ _).alloc (Nat.le_refl _) _
  have HP := hid (Pre0_calls 10 15 (by omega) (by decide +kernel) _ _ _ h2.rel (spansR.below h1.rel hB2 hB2.size))
  have hn : normF (preL 0 10 15) = nibL 0 55 := by decide +kernel
  rw [hn] at HP
  have HBT := hid (hBa.trans ((hB1.trans (hB2.mono hB1.size)).mono hBa.size))
  rw [hwa] at HP HBT
  simp only [World.size_alloc] at HP
  clear hn h1 h2 hB1 hB2 hBa hwa wa
  go_enter Tryz.func71, Tryz.ntmps71
  go_wp2_with fail
  refine HP.out.mono ?_
  rintro e w1 ⟨u, rfl, ho, hB⟩
  have HO := hid (ho.base HBT.out.size)
  have HBF := hid (HBT.out.trans (hB.mono HBT.out.size))
  clear ho hB
  go_wp2_with fail
  go_ret
  exact ⟨_, rfl, HO.out, HBF.out⟩
set_option maxHeartbeats 1000000 in
set_option maxRecDepth 100000 in
theorem nibble448 (w : World) : Calls Tryz.prog 71 #[.int .i64 4, .int .i64 48] w (SetPost (nibL 4 48) w) := by
  obtain ⟨wa, hwa⟩ : ∃ wa, wa = w := ⟨_, rfl⟩
  have hBa : Below w.heap.size w wa := by rw [hwa]; exact Below.refl _ w
  have h1 := own_new (w := wa) (e := 75) (x := ⟨0, 9⟩) ⟨okI (by simp), okI (by simp)⟩
  dsimp only at h1
  have h2 := own_new (w := wa.alloc (.cells #[.int .i64 0, .int .i64 9] 75)) (e := 75) (x := ⟨0, 255⟩) ⟨okI (by simp), okI (by simp)⟩
  dsimp only at h2
  have hB1 : Below wa.heap.size wa (wa.alloc (.cells #[.int .i64 0, .int .i64 9] 75)) := (Below.refl _ wa).alloc (Nat.le_refl _) _
  have hB2 : Below (wa.alloc (.cells #[.int .i64 0, .int .i64 9] 75)).heap.size (wa.alloc (.cells #[.int .i64 0, .int .i64 9] 75)) ((wa.alloc (.cells #[.int .i64 0, .int .i64 9] 75)).alloc (.cells #[.int .i64 0, .int .i64 255] 75)) := (Below.refl _ _).alloc (Nat.le_refl _) _
  have HP := hid (Pre4_calls 0 9 (by omega) (by decide +kernel) _ _ _ h2.rel (spansR.below h1.rel hB2 hB2.size))
  have hn : normF (preL 4 0 9) = nibL 4 48 := by decide +kernel
  rw [hn] at HP
  have HBT := hid (hBa.trans ((hB1.trans (hB2.mono hB1.size)).mono hBa.size))
  rw [hwa] at HP HBT
  simp only [World.size_alloc] at HP
  clear hn h1 h2 hB1 hB2 hBa hwa wa
  go_enter Tryz.func71, Tryz.ntmps71
  go_wp2_with fail
  refine HP.out.mono ?_
  rintro e w1 ⟨u, rfl, ho, hB⟩
  have HO := hid (ho.base HBT.out.size)
  have HBF := hid (HBT.out.trans (hB.mono HBT.out.size))
  clear ho hB
  go_wp2_with fail
  go_ret
  exact ⟨_, rfl, HO.out, HBF.out⟩
set_option maxHeartbeats 1000000 in
set_option maxRecDepth 100000 in
theorem nibble455 (w : World) : Calls Tryz.prog 71 #[.int .i64 4, .int .i64 55] w (SetPost (nibL 4 55) w) := by
  obtain ⟨wa, hwa⟩ : ∃ wa, wa = (w.alloc (.cells #[.int .i64 0, .int .i64 9] 75)) := ⟨_, rfl⟩
  have hBa : Below w.heap.size w wa := by rw [hwa]; exact (Below.refl _ w).alloc (Nat.le_refl _) _
  have h1 := own_new (w := wa) (e := 75) (x := ⟨10, 15⟩) ⟨okI (by simp), okI (by simp)⟩
  dsimp only at h1
  have h2 := own_new (w := wa.alloc (.cells #[.int .i64 10, .int .i64 15] 75)) (e := 75) (x := ⟨0, 255⟩) ⟨okI (by simp), okI (by simp)⟩
  dsimp only at h2
  have hB1 : Below wa.heap.size wa (wa.alloc (.cells #[.int .i64 10, .int .i64 15] 75)) := (Below.refl _ wa).alloc (Nat.le_refl _) _
  have hB2 : Below (wa.alloc (.cells #[.int .i64 10, .int .i64 15] 75)).heap.size (wa.alloc (.cells #[.int .i64 10, .int .i64 15] 75)) ((wa.alloc (.cells #[.int .i64 10, .int .i64 15] 75)).alloc (.cells #[.int .i64 0, .int .i64 255] 75)) := (Below.refl _ _).alloc (Nat.le_refl _) _
  have HP := hid (Pre4_calls 10 15 (by omega) (by decide +kernel) _ _ _ h2.rel (spansR.below h1.rel hB2 hB2.size))
  have hn : normF (preL 4 10 15) = nibL 4 55 := by decide +kernel
  rw [hn] at HP
  have HBT := hid (hBa.trans ((hB1.trans (hB2.mono hB1.size)).mono hBa.size))
  rw [hwa] at HP HBT
  simp only [World.size_alloc] at HP
  clear hn h1 h2 hB1 hB2 hBa hwa wa
  go_enter Tryz.func71, Tryz.ntmps71
  go_wp2_with fail
  refine HP.out.mono ?_
  rintro e w1 ⟨u, rfl, ho, hB⟩
  have HO := hid (ho.base HBT.out.size)
  have HBF := hid (HBT.out.trans (hB.mono HBT.out.size))
  clear ho hB
  go_wp2_with fail
  go_ret
  exact ⟨_, rfl, HO.out, HBF.out⟩
end Go.Proofs.YthfcbbdghggefaaGreat
