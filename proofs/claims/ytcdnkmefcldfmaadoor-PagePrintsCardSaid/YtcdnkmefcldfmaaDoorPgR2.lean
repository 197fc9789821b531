/-
  The reference's numbers.
-/
import Derived.Test.YtcdnkmefcldfmaaDoorPgR1
import Derived.Test.YtcdnkmefcldfmaaDoorPgText
namespace Go.Um
theorem bs_size (l : By) : (bs l).size = l.length := by simp [bs, ByteArray.size]
theorem bs_lit (l : By) : (⟨l.toArray⟩ : ByteArray) = bs l := rfl
theorem nums_le {xs : List Int} (hx : allI xs) : ∀ k, (numsFrom k xs).length ≤ 22 * xs.length := by
  induction xs with
  | nil => intro k; simp [numsFrom]
  | cons x r ih =>
    intro k
    have h1 := ih (fun y hy => hx y (List.mem_cons_of_mem _ hy)) (k + 1)
    have h2 := Lib.itoa_length_le x (hx x (List.mem_cons_self ..)).1 (hx x (List.mem_cons_self ..)).2
    have h3 : (sepL [32] k).length ≤ 1 := by unfold sepL; split <;> simp
    simp only [numsFrom, List.length_append, List.length_cons]
    omega
end Go.Um
namespace Go.Proofs.YtcdnkmefcldfmaaDoor
open Go.RowKit Go.Um

set_option maxHeartbeats 2000000 in
set_option maxRecDepth 100000 in
theorem rnumbers_calls (g : Nat) (xs : List Int) (c : Nat) (hx : allI xs) (hl : xs.length ≤ 100) (w : World) (hg : w.heap[g]? = some (.cells ⟨xs.map (Value.int .i64)⟩ 3 (0, 0))) :
    Calls Tryd.prog 22 #[.slice (some ⟨g, 0, none⟩) xs.length c] w fun e w' => e = .returned (.string (bs (numsFrom 0 xs))) ∧ Below w.heap.size w w' := by
  have HG := hid hg
  have hgl : g < w.heap.size := by
    rcases Nat.lt_or_ge g w.heap.size with h | h
    · exact h
    · rw [Array.getElem?_eq_none h] at hg; cases hg
  have hbig := nums_le hx 0
  clear hg
  go_enter Tryd.func22, Tryd.ntmps22
  go_wp2_with fail
  go_loopw [3, 4] (fun vs vi wr => ∃ (k : Nat) (M : By), k ≤ xs.length ∧ vi = .int .i64 k ∧ vs = .string (bs M) ∧ M ++ numsFrom k (xs.drop k) = numsFrom 0 xs ∧ Below w.heap.size w wr) (fun _ vi _ => xs.length - (intOf vi).toNat)
  case atStart => exact ⟨0, [], Nat.zero_le _, rfl, rfl, rfl, Below.refl _ _⟩
  case round =>
    obtain ⟨k, M, hk, rfl, rfl, hM, hB⟩ := hrel
    obtain ⟨wo, hwo⟩ : ∃ wo, wo = wr := ⟨_, rfl⟩
    subst hwo
    have hMl : M.length ≤ 2200 := by have := congrArg List.length hM; rw [List.length_append] at this; omega
    have HM := hid hM; clear hM
    have HGR := hid ((hB.block _ hgl).trans HG.out)
    have hms : (bs M).size ≤ 2200 := by rw [bs_size]; exact hMl
    by_cases hlt : k < xs.length
    · obtain ⟨x, hxk⟩ := at_lt hlt
      have hI := hx x (List.mem_of_getElem? hxk)
      have hc : wo.cell? ⟨g, k, none⟩ = some (.int .i64 x) := by rw [Lib.cell_of_heap HGR.out]; simp [hxk]
      have hlt' : (k : Int) < xs.length := by omega
      have hle := itoaB_le hI
      have h32 : (⟨#[32]⟩ : ByteArray).size = 1 := rfl
      have hms2 : (bs M ++ ⟨#[32]⟩ : ByteArray).size ≤ 2201 := by rw [ByteArray.size_append, h32]; omega
      by_cases hk0 : k = 0
      · subst hk0
        have HM2 : Hid ((M ++ Lib.itoa x) ++ numsFrom 1 (xs.drop 1) = numsFrom 0 xs) := hid (by have := HM.out; rw [drop_cons hxk] at this; simpa [numsFrom, sepL] using this)
        clear hxk hlt
        go_wp2_with fail
        refine (Number_calls x hI _).mono ?_
        rintro e w1 ⟨rfl, hb1⟩
        go_wp2_with fail
        refine ⟨⟨1, M ++ Lib.itoa x, by omega, rfl, by rw [bs_app], HM2.out, hB.trans (hb1.mono hB.size)⟩, ?_⟩
        simp [intOf]; omega
      · have HM2 : Hid (((M ++ [32]) ++ Lib.itoa x) ++ numsFrom (k + 1) (xs.drop (k + 1)) = numsFrom 0 xs) := hid (by have := HM.out; rw [drop_cons hxk] at this; simpa [numsFrom, sepL, hk0] using this)
        have hk1 : (0 : Int) < k := by omega
        clear hxk hlt
        go_wp2_with fail
        refine (Number_calls x hI _).mono ?_
        rintro e w1 ⟨rfl, hb1⟩
        go_wp2_with fail
        refine ⟨⟨k + 1, (M ++ [32]) ++ Lib.itoa x, by omega, by go_num, by rw [← bs_app, ← bs_app]; rfl, HM2.out, hB.trans (hb1.mono hB.size)⟩, ?_⟩
        simp [intOf]; omega
    · have hke : k = xs.length := by omega
      have hM2 : M = numsFrom 0 xs := by have := HM.out; rw [hke, List.drop_length] at this; simpa [numsFrom] using this
      subst hM2
      have hlt' : ¬ (k : Int) < xs.length := by omega
      clear HM
      go_wp2_with fail
      go_ret
      exact ⟨rfl, hB⟩
end Go.Proofs.YtcdnkmefcldfmaaDoor
