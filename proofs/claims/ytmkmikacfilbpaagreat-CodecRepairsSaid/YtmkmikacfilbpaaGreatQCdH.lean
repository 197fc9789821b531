/-
  The scalar whose bytes these are, as the reference finds it.
-/
import Derived.Test.YtmkmikacfilbpaaGreatQCdG
import Derived.Test.YtmkmikacfilbpaaGreatQCdD
import Derived.Laws.BytesArg
namespace Go.Proofs.YtmkmikacfilbpaaGreat
open Go.RowKit Go.Um Go.Proofs
theorem byte_at {w : World} {S : Nat → Prop} {A : Option Addr} {n cap : Nat} {xs : List Int} {x : Int} {i : Nat} (h : bytesR.rel w S [.slice A n cap] xs) (hx : xs[i]? = some x) :
    ∃ b o, A = some ⟨b, o, none⟩ ∧ S b ∧ w.cell? ⟨b, o + i, none⟩ = some (.int .u8 x) ∧ 0 ≤ x ∧ x ≤ 255 := by
  obtain ⟨b, o, v, h1, h2, ⟨h3, h4⟩, h5⟩ := list_at1 rfl h hx
  injection h3 with h3 _
  subst h3
  exact ⟨b, o, h1, h2, by simpa [byteR] using h5, h4.1, h4.2⟩
theorem conv_bytes {w : World} {S : Nat → Prop} {A : Option Addr} {cap : Nat} {xs : List Int} (hne : xs ≠ []) (h : bytesR.rel w S [.slice A xs.length cap] xs) : (convert 37 9 (.slice A xs.length cap)).run Tryz.prog w = .ok (.string (strOfNums xs)) w := by
  cases xs with
  | nil => exact absurd rfl hne
  | cons x t =>
    obtain ⟨b, o, rfl, _, _, _, _⟩ := byte_at h (i := 0) (x := x) rfl
    refine run_convert_bytes_arg w 37 5 Tryz.underlying37 Tryz.underlying5 b o _ cap (x :: t) rfl (fun i hi => ?_) 9 Tryz.underlying9
    obtain ⟨z, hz⟩ := at_lt hi
    obtain ⟨b', o', he, _, hc, _, _⟩ := byte_at h hz
    injection he with he
    injection he with e1 e2
    subst e1 e2
    rw [List.getD_eq_getElem?_getD, hz]
    exact hc
theorem conv_own {e : TypeId} {w : World} {base : Nat} {v : Value} {xs : List Int} (h : OwnB e w base v xs) : (convert 37 9 v).run Tryz.prog w = .ok (.string (strOfNums xs)) w := by
  obtain ⟨A, c, rfl, _, _⟩ := list_form (h.rel (S := fun _ => True) fun _ _ => trivial)
  cases xs with
  | nil =>
    rcases h.1.2 with ⟨h1, _⟩ | ⟨g, cap, cur, h1, _⟩
    · rw [h1]
      exact run_convert_bytes_nil (w := w) 37 5 Tryz.underlying37 Tryz.underlying5 0 0 9 Tryz.underlying9
    · rw [h1]
      exact run_convert_bytes_arg w 37 5 Tryz.underlying37 Tryz.underlying5 g 0 0 cap [] rfl (fun i hi => by omega) 9 Tryz.underlying9
  | cons x t => exact conv_bytes (by simp) (h.rel (S := fun _ => True) fun _ _ => trivial)
theorem bytes_ext {s t : ByteArray} (h : s.toList = t.toList) : s = t := by
  rw [ByteArray.toList_eq, ByteArray.toList_eq] at h
  obtain ⟨⟨l⟩⟩ := s
  obtain ⟨⟨m⟩⟩ := t
  have h2 : l = m := h
  rw [h2]
theorem str_inj {xs ys : List Int} (hx : byteL xs) (hy : byteL ys) : strOfNums xs = strOfNums ys ↔ xs = ys := by
  refine ⟨fun h => ?_, fun h => by rw [h]⟩
  have h1 : xs.map (fun n => UInt8.ofNat n.toNat) = ys.map (fun n => UInt8.ofNat n.toNat) := by
    have := congrArg (fun s : ByteArray => s.data.toList) h
    simpa [strOfNums] using this
  clear h
  induction xs generalizing ys with
  | nil =>
    cases ys with
    | nil => rfl
    | cons y ys => cases h1
  | cons x xs ih =>
    cases ys with
    | nil => cases h1
    | cons y ys =>
      rw [List.map_cons, List.map_cons] at h1
      injection h1 with h2 h3
      have a1 := hx x (by simp)
      have a2 := hy y (by simp)
      have h4 := congrArg UInt8.toNat h2
      simp only [UInt8.toNat_ofNat'] at h4
      rw [ih (fun z hz => hx z (by simp [hz])) (fun z hz => hy z (by simp [hz])) h3, show x = y by omega]
end Go.Proofs.YtmkmikacfilbpaaGreat
