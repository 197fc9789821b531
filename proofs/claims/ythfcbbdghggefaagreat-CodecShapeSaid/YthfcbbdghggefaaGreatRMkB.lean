/-
  The rows of UTF-8's table: utf.tail, utf.row, utf.Rows.
-/
import Derived.Test.YthfcbbdghggefaaGreatRMkA
namespace Go.Proofs.YthfcbbdghggefaaGreat
open Go.RowKit Go.Um Go.Proofs
theorem okI {x : Int} (h : -1000000000 ≤ x ∧ x ≤ 1000000000) : I64 x := ⟨by omega, by omega⟩
def RowPost (g : List (List Span)) (w : World) (e : Ending) (w' : World) : Prop := ∃ u, e = .returned u ∧ (listR spansR).rel w' (Fresh w.heap.size w') [u] g ∧ Below w.heap.size w w'
theorem one_span {w : World} {base : Nat} (hB : base ≤ w.heap.size) (lo hi : Int) (h1 : I64 lo) (h2 : I64 hi) : FL 75 spanR (w.alloc (.cells #[.int .i64 lo, .int .i64 hi] 75)) base base (.slice (some ⟨w.heap.size, 0, none⟩) 1 1) [⟨lo, hi⟩] :=
  FL.one (cs := [.int .i64 lo, .int .i64 hi]) ⟨rfl, h1, h2⟩ rfl hB
set_option maxHeartbeats 1000000 in
set_option maxRecDepth 100000 in
theorem tail_calls (w : World) : Calls Tryz.prog 99 #[] w fun e w' => ∃ u, e = .returned u ∧ spansR.rel w' (Fresh w.heap.size w') [u] tailP ∧ Below w.heap.size w w' := by
  go_enter Tryz.func99, Tryz.ntmps99
  go_wp2_with fail
  go_ret
  exact ⟨_, rfl, (one_span (Nat.le_refl _) 128 191 (okI (by omega)) (okI (by omega))).rel (Nat.le_refl _), (Below.refl _ w).alloc (Nat.le_refl _) _⟩
def RowI (w wr : World) (lo hi lo2 hi2 : Int) (v : Value) (k : Nat) : Prop := FL 76 spansR wr w.heap.size w.heap.size v (rowP lo hi lo2 hi2 k) ∧ Below w.heap.size w wr
set_option maxHeartbeats 2000000 in
set_option maxRecDepth 100000 in
theorem row_calls (lo hi lo2 hi2 : Int) (more : Nat) (w : World) (hm : more ≤ 100) (h1 : -1000000000 ≤ lo ∧ lo ≤ 1000000000) (h2 : -1000000000 ≤ hi ∧ hi ≤ 1000000000) (h3 : -1000000000 ≤ lo2 ∧ lo2 ≤ 1000000000) (h4 : -1000000000 ≤ hi2 ∧ hi2 ≤ 1000000000) :
    Calls Tryz.prog 78 #[.int .i64 lo, .int .i64 hi, .int .i64 lo2, .int .i64 hi2, .int .i64 more] w fun e w' => RowPost (rowP lo hi lo2 hi2 more) w e w' := by
  have HT := hid tail_calls
  obtain ⟨inf, hi0, hz0, hz1, hz2⟩ := info_parts infoSs
  have hF1 := one_span (w := w) (Nat.le_refl _) lo hi (okI h1) (okI h2)
  obtain ⟨wa, hwa⟩ : ∃ wa, wa = w.alloc (.cells #[.int .i64 lo, .int .i64 hi] 75) := ⟨_, rfl⟩
  have hBa : Below w.heap.size w wa := by rw [hwa]; exact (Below.refl _ w).alloc (Nat.le_refl _) _
  have hsa : wa.heap.size = w.heap.size + 1 := by rw [hwa]; simp
  have hF2 := one_span (w := wa) hBa.size lo2 hi2 (okI h3) (okI h4)
  have hBb : Below wa.heap.size wa (wa.alloc (.cells #[.int .i64 lo2, .int .i64 hi2] 75)) := (Below.refl _ wa).alloc (Nat.le_refl _) _
  rw [← hwa] at hF1
  have hF1' := (hF1.later hBb).rel (Nat.le_refl _)
  have hF3 := FL.lits (e := 76) (r := spansR) (w := wa.alloc (.cells #[.int .i64 lo2, .int .i64 hi2] 75)) (b0 := w.heap.size) (base := w.heap.size) (css := [[.slice (some ⟨w.heap.size, 0, none⟩) 1 1], [.slice (some ⟨wa.heap.size, 0, none⟩) 1 1]]) (xs := [[⟨lo, hi⟩], [⟨lo2, hi2⟩]]) (cells := #[.slice (some ⟨w.heap.size, 0, none⟩) 1 1, .slice (some ⟨wa.heap.size, 0, none⟩) 1 1]) ⟨hF1', hF2.rel (Nat.le_refl _), trivial⟩ rfl (by simp; omega) (by unfold maxLen; simp)
  have hBc : Below w.heap.size w ((wa.alloc (.cells #[.int .i64 lo2, .int .i64 hi2] 75)).alloc (.cells #[.slice (some ⟨w.heap.size, 0, none⟩) 1 1, .slice (some ⟨wa.heap.size, 0, none⟩) 1 1] 76)) := (hBa.alloc hBa.size _).alloc (by simp; omega) _
  rw [hsa] at hF3 hBc
  have hs2 : (wa.alloc (.cells #[.int .i64 lo2, .int .i64 hi2] 75)).heap.size = w.heap.size + 2 := by simp; omega
  rw [hs2] at hF3
  rw [hwa] at hF3 hBc
  clear hF1 hF2 hF1' hBb hs2 hsa hBa hwa wa h1 h2 h3 h4
  go_enter Tryz.func78, Tryz.ntmps78
  go_wp2_with fail
  generalize ((w.alloc (.cells #[.int .i64 lo, .int .i64 hi] 75)).alloc (.cells #[.int .i64 lo2, .int .i64 hi2] 75)).alloc (.cells #[.slice (some ⟨w.heap.size, 0, none⟩) 1 1, .slice (some ⟨w.heap.size + 1, 0, none⟩) 1 1] 76) = wm at *
  go_loopw [11, 22] (fun v vk wr => ∃ k : Nat, k ≤ more ∧ vk = .int .i64 k ∧ RowI w wr lo hi lo2 hi2 v k) (fun _ vk _ => more - (intOf vk).toNat)
  case atStart => exact ⟨0, Nat.zero_le _, rfl, hF3, hBc⟩
  case round =>
    clear hF3 hBc
    obtain ⟨k, hk, rfl, hF, hB⟩ := hrel
    obtain ⟨wo, hwo⟩ : ∃ wo, wo = wr := ⟨_, rfl⟩
    subst hwo
    have HF := hid hF
    have HB := hid hB
    have hs := hB.size
    obtain ⟨Ao, co, rfl⟩ := hF.len
    have hol : (rowP lo hi lo2 hi2 k).length ≤ 102 := by unfold rowP; simp; omega
    by_cases hlt : k < more
    · have hlt' : (k : Int) < more := by omega
      have HSN : Hid (rowP lo hi lo2 hi2 (k + 1) = rowP lo hi lo2 hi2 k ++ [tailP]) := hid (by unfold rowP; rw [List.replicate_succ']; rfl)
      clear hF hB hlt
      go_wp2_with fail
      refine (HT.out _).mono ?_
      rintro e w2 ⟨u2, rfl, h2, hB2⟩
      have hsz2 := hB2.size
      obtain ⟨A9, c9, rfl, _, _⟩ := list_form h2
      go_wp2_with (at_builtin; refine Hid.out ?_)
      refine hid ?_
      have hB2a : Below wo.heap.size wo (w2.alloc (.cells #[.slice A9 tailP.length c9] 76)) := hB2.alloc hsz2 _
      have hel := rel_els (rel_fresh h2 ((Below.refl _ w2).alloc (Nat.le_refl _) (.cells #[.slice A9 tailP.length c9] 76))) HF.out.own_lt hs
      show wpList _ _ _ _ _ _
      refine wpList_append_fl (r := spansR) (v := .slice Ao (rowP lo hi lo2 hi2 k).length co) (xs := rowP lo hi lo2 hi2 k) (by rfl) _ _ 43 (by rfl) inf _ 24 Tryz.underlying43 hi0 hz0 hz1 hz2 rfl (by decide) (by rfl) HF.out hB2a (Nat.le_trans hs hB2a.size) ⟨w2.heap.size, 0, none⟩ 1 tailP [.slice A9 tailP.length c9] (by rfl) hel
        (news_at (w := w2) (cs := #[_]) rfl) (by simp [Value.oneCell']) (by unfold maxLen; omega) (by omega) ?_
      intro v' w3 hF3 hB3
      have HF3 := hid hF3
      have HB3 := hid ((HB.out.trans (hB2a.mono hs)).trans hB3)
      clear hF3 hB3
      have HE : Hid (∃ j' : Nat, j' ≤ more ∧ Value.int .i64 ((k : Int) + 1) = .int .i64 j' ∧ RowI w w3 lo hi lo2 hi2 v' j') := hid ⟨k + 1, by omega, by push_cast; rfl, by rw [HSN.out]; exact HF3.out, HB3.out⟩
      go_wp2_with fail
      first
        | (refine ⟨HE.out, ?_⟩; simp [intOf]; omega)
        | (go_simp; refine ⟨by simpa using HE.out, ?_⟩; simp [intOf]; omega)
    · obtain rfl : k = more := by omega
      clear hF hB hlt
      go_wp2_with fail
      go_ret
      exact ⟨_, rfl, HF.out.rel (Nat.le_refl _), HB.out⟩
end Go.Proofs.YthfcbbdghggefaaGreat
