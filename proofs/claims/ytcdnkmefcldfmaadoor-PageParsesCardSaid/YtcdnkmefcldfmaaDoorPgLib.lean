/-
  The library's functions that package page calls: out of the kit's contracts.
-/
import Derived.Test.YtcdnkmefcldfmaaDoorPgWr
import Derived.Test.YtcdnkmefcldfmaaDoorShelf
import Derived.Lib.AppendIntMem
import Derived.Lib.AtoiErrMem
import Derived.Lib.AtoiAllCases
import Derived.Lib.ItoaLen
namespace Go.Proofs.YtcdnkmefcldfmaaDoor
open Go.RowKit Go.Um

/-- the package-level variables that are read, whatever is done from block B on. -/
def Vars (B : Nat) (w : World) : Prop := ∀ w', Below B w w' → (Lib.TabIs Tryd.prog w' "internal/strconv.uint64pow10" .u64 Lib.pow10Tab ∧ (∃ tp p, w'.var? Tryd.prog "strconv.ErrSyntax" = some #[.iface tp p]) ∧
  (∃ tp p, w'.var? Tryd.prog "strconv.ErrRange" = some #[.iface tp p]) ∧ ∃ m, w'.cell? ⟨0, 0, none⟩ = some (.int .i64 m))
theorem Vars.on {B : Nat} {w w' : World} (h : Vars B w) (hb : Below B w w') : Vars B w' := fun w2 h2 => h w2 (hb.trans h2)
theorem Vars.more {B B' : Nat} {w : World} (h : Vars B w) (hB : B ≤ B') : Vars B' w := fun w2 h2 => h w2 (h2.mono hB)

theorem Itoa_calls (n : Int) (hn : I64 n) (w : World) {B : Nat} (hv : Vars B w) :
    Calls Tryd.prog 35 #[.int .i64 n] w fun e w' => e = .returned (.string ⟨(Lib.itoa n).toArray⟩) ∧ Below w.heap.size w w' :=
  (Tryd.strconv_Itoa n hn.1 hn.2 w (hv w (Below.refl _ _)).1).mono fun e w' ⟨he, k, os, hw⟩ => ⟨he, by rw [hw]; exact Lib.below_grow _ w (Nat.le_refl _) k os⟩
/-- what Atoi says. -/
def AtoiPost (l : By) (w : World) (e : Ending) (w' : World) : Prop := Below w.heap.size w w' ∧
  ((∃ v, Lib.atoiAll l = .ok v ∧ e = .returned (.tuple #[.int .i64 v, .nilIface])) ∨ ((∀ v, Lib.atoiAll l ≠ .ok v) ∧ ∃ x t p, e = .returned (.tuple #[.int .i64 x, .iface t p])))
theorem Atoi_calls (s : ByteArray) (hs : s.size ≤ 65536) (w : World) {B : Nat} (hv : Vars B w) :
    Calls Tryd.prog 56 #[.string s] w (AtoiPost s.data.toList w) := by
  obtain ⟨_, ⟨t1, p1, h1⟩, ⟨t2, p2, h2⟩, _⟩ := hv w (Below.refl _ _)
  cases h : Lib.atoiAll s.data.toList with
  | ok v =>
    refine (Tryd.strconv_Atoi_ok s (by omega) v h w).mono fun e w' ⟨he, hw⟩ => ⟨?_, .inl ⟨v, h, he⟩⟩
    rcases hw with rfl | ⟨t, rfl⟩
    · exact Below.refl _ _
    · exact Lib.bytesWorld_below w _ t
  | range =>
    exact (Tryd.strconv_Atoi_range_var s (by omega) h t2 p2 w h2).mono fun e w' ⟨N, he, _, _, hb⟩ => ⟨hb, .inr ⟨fun v hv => (by rw [h] at hv; cases hv), _, _, _, he⟩⟩
  | _ =>
    exact (Tryd.strconv_Atoi_syntax_var s (by omega) h t1 p1 w h1).mono fun e w' ⟨N, he, _, _, hb⟩ => ⟨hb, .inr ⟨fun v hv => (by rw [h] at hv; cases hv), _, _, _, he⟩⟩
theorem HasPrefix_calls (s p : ByteArray) (w : World) :
    Calls Tryd.prog 55 #[.string s, .string p] w fun e w' => e = .returned (.bool (p.data.toList.isPrefixOf s.data.toList)) ∧ w = w' :=
  (Tryd.strings_HasPrefix s p w).mono fun _ _ ⟨he, hw⟩ => ⟨he, hw.symm⟩
theorem index_nl (s : By) : (10 ∈ s → Lib.index s [10] = ((s.takeWhile (fun c => c ≠ 10)).length : Int)) ∧ (10 ∉ s → Lib.index s [10] = -1) := by
  induction s with
  | nil => exact ⟨fun h => (by cases h), fun _ => rfl⟩
  | cons x xs ih =>
    by_cases hx : x = 10
    · subst hx
      refine ⟨fun _ => ?_, fun h => absurd (List.mem_cons_self ..) h⟩
      simp [Lib.index, List.isPrefixOf]
    · have hp : List.isPrefixOf [10] (x :: xs) = false := by simp [List.isPrefixOf, Ne.symm hx]
      refine ⟨fun h => ?_, fun h => ?_⟩
      · have h' : 10 ∈ xs := by simpa [Ne.symm hx] using h
        rw [List.takeWhile_cons_of_pos (by simpa using hx)]
        unfold Lib.index
        rw [hp, ih.1 h']
        simp
      · have h' : 10 ∉ xs := fun h' => h (List.mem_cons_of_mem _ h')
        unfold Lib.index
        rw [hp, ih.2 h']
        rfl
theorem cut_nl (s : By) : match cutL s with | some (l, r) => (Lib.cut s [10]).2.2 = true ∧ (Lib.cut s [10]).1 = l ∧ (Lib.cut s [10]).2.1 = r | none => (Lib.cut s [10]).2.2 = false := by
  have h := index_nl s
  unfold cutL
  by_cases h0 : 10 ∈ s
  · rw [if_pos h0]
    have h1 := h.1 h0
    unfold Lib.cut
    rw [h1, if_pos (by omega)]
    refine ⟨rfl, ?_, ?_⟩
    · simp only [Int.toNat_natCast]
      have := (takeNL s).2.1 h0
      have h2 : s.take (s.takeWhile (fun c => c ≠ 10)).length = s.takeWhile (fun c => c ≠ 10) := by
        conv => lhs; rw [this]
        rw [show ((s.takeWhile (fun c => c ≠ 10) ++ 10 :: s.drop ((s.takeWhile (fun c => c ≠ 10)).length + 1)).takeWhile (fun c => c ≠ 10)).length = (s.takeWhile (fun c => c ≠ 10)).length by rw [← this]]
        exact List.take_left
      exact h2
    · simp only [Int.toNat_natCast, List.length_cons, List.length_nil]
  · rw [if_neg h0]
    simp only
    unfold Lib.cut
    rw [h.2 h0, if_neg (by omega)]
theorem Cut_calls (s : ByteArray) (hs : s.size ≤ 65536) (w : World) {B : Nat} (hv : Vars B w) :
    Calls Tryd.prog 25 #[.string s, .string ⟨#[10]⟩] w fun e w' => ∃ x y : ByteArray, ∃ z : Bool, e = .returned (.tuple #[.string x, .string y, .bool z]) ∧ (∃ n, w' = w.drewN n) ∧
      (match cutL s.data.toList with | some (l, r) => z = true ∧ x.data.toList = l ∧ y.data.toList = r | none => z = false) := by
  obtain ⟨_, _, _, m, hm⟩ := hv w (Below.refl _ _)
  have h := cut_nl s.data.toList
  refine (Tryd.strings_Cut s ⟨#[10]⟩ m w (by omega) hm).mono fun e w' ⟨he, hw⟩ => ⟨_, _, _, he, hw, ?_⟩
  cases hc : cutL s.data.toList with
  | none => rw [hc] at h; exact h
  | some p => rw [hc] at h; exact h
end Go.Proofs.YtcdnkmefcldfmaaDoor
