/-
  A scalar's bytes, as the reference makes them.
-/
import Derived.Test.YtmkmikacfilbpaaGreatRCdE
namespace Go.Proofs.YtmkmikacfilbpaaGreat
open Go.RowKit Go.Um Go.Proofs
/-- a row of bytes that a call has made. -/
def OwnB (e : TypeId) (w : World) (base : Nat) (v : Value) (l : List Int) : Prop := w.ownsRow base e 1 v l.length (l.map (Value.int .u8)) ∧ ∀ x ∈ l, 0 ≤ x ∧ x ≤ 255
theorem OwnB.nil {e : TypeId} {w : World} {base : Nat} : OwnB e w base (.slice none 0 0) [] := ⟨World.ownsRow_nil _ _ _ _, fun x hx => by cases hx⟩
theorem flat_bytes (l : List Int) : l.map (Value.int .u8) = l.flatMap fun x => [Value.int .u8 x] := by
  induction l with
  | nil => rfl
  | cons x l ih => rw [List.map_cons, ih]; rfl
theorem OwnB.rel {e : TypeId} {w : World} {base : Nat} {v : Value} {l : List Int} {S : Nat → Prop} (h : OwnB e w base v l) (hS : ∀ g, v.ownBlock = some g → S g) : bytesR.rel w S [v] l :=
  own_list (r := byteR) (enc := fun x => [Value.int .u8 x]) (by have := h.1; rw [flat_bytes] at this; exact this) hS (fun x hx => ⟨rfl, rfl, h.2 x hx⟩)
set_option maxHeartbeats 1000000 in
set_option maxRecDepth 100000 in
theorem rbytes_calls (z : Int) (w : World) : Calls Tryz.prog 35 #[.int .i32 z] w fun e w' => ∃ u, e = .returned u ∧ OwnB 5 w' w.heap.size u (bytesF z) ∧ Below w.heap.size w w' := by
  have HI := hid fun W => rin_calls z W
  obtain ⟨bs, hbs⟩ : ∃ bs, bs = bytesF z := ⟨_, rfl⟩
  have HBS := hid hbs
  rw [← hbs]
  clear hbs
  by_cases hs : scalP z
  · rw [decide_eq_true hs] at HI
    by_cases c1 : z < 128
    · have h256 : z % 256 = z := by have := hs.1; omega
      have hb1 : bs = [z] := by rw [HBS.out]; unfold bytesF; rw [if_neg (by simpa using hs), if_pos c1]
      have HB1 := hid hb1
      have HY : Hid (∀ x ∈ bs, 0 ≤ x ∧ x ≤ 255) := hid (by
        rw [hb1]
        intro x hx
        simp only [List.mem_cons, List.not_mem_nil, or_false] at hx
        unfold scalP at hs
        omega)
      have hz0 : 0 ≤ z := hs.1
      have hzt : z < 1114112 := hs.2.1
      clear hb1 hs
      go_enter Tryz.func35, Tryz.ntmps35
      go_wp2_with fail
      refine (HI.out _).mono ?_
      rintro e w1 ⟨rfl, rfl⟩
      go_wp2_with fail
      go_ret
      refine ⟨_, rfl, ⟨?_, HY.out⟩, (Below.refl _ _).alloc (Nat.le_refl _) _⟩
      rw [HB1.out]
      exact World.ownsRow_lit w1 #[.int .u8 (z)] 1 (Nat.le_refl _) (by decide) rfl
    by_cases c2 : z < 2048
    · have hb1 : bs = [192 + z / 64, 128 + z % 64] := by rw [HBS.out]; unfold bytesF; rw [if_neg (by simpa using hs), if_neg c1, if_pos c2]
      have HB1 := hid hb1
      have HY : Hid (∀ x ∈ bs, 0 ≤ x ∧ x ≤ 255) := hid (by
        rw [hb1]
        intro x hx
        simp only [List.mem_cons, List.not_mem_nil, or_false] at hx
        unfold scalP at hs
        omega)
      have hz0 : 0 ≤ z := hs.1
      have hzt : z < 1114112 := hs.2.1
      clear hb1 hs
      go_enter Tryz.func35, Tryz.ntmps35
      go_wp2_with fail
      refine (HI.out _).mono ?_
      rintro e w1 ⟨rfl, rfl⟩
      go_wp2_with fail
      go_ret
      refine ⟨_, rfl, ⟨?_, HY.out⟩, (Below.refl _ _).alloc (Nat.le_refl _) _⟩
      rw [HB1.out]
      exact World.ownsRow_lit w1 #[.int .u8 (192 + z / 64), .int .u8 (128 + z % 64)] 2 (Nat.le_refl _) (by decide) rfl
    by_cases c3 : z < 65536
    · have hb1 : bs = [224 + z / 4096, 128 + z / 64 % 64, 128 + z % 64] := by rw [HBS.out]; unfold bytesF; rw [if_neg (by simpa using hs), if_neg c1, if_neg c2, if_pos c3]
      have HB1 := hid hb1
      have HY : Hid (∀ x ∈ bs, 0 ≤ x ∧ x ≤ 255) := hid (by
        rw [hb1]
        intro x hx
        simp only [List.mem_cons, List.not_mem_nil, or_false] at hx
        unfold scalP at hs
        omega)
      have hz0 : 0 ≤ z := hs.1
      have hzt : z < 1114112 := hs.2.1
      clear hb1 hs
      go_enter Tryz.func35, Tryz.ntmps35
      go_wp2_with fail
      refine (HI.out _).mono ?_
      rintro e w1 ⟨rfl, rfl⟩
      go_wp2_with fail
      go_ret
      refine ⟨_, rfl, ⟨?_, HY.out⟩, (Below.refl _ _).alloc (Nat.le_refl _) _⟩
      rw [HB1.out]
      exact World.ownsRow_lit w1 #[.int .u8 (224 + z / 4096), .int .u8 (128 + z / 64 % 64), .int .u8 (128 + z % 64)] 3 (Nat.le_refl _) (by decide) rfl
    · have hb1 : bs = [240 + z / 262144, 128 + z / 4096 % 64, 128 + z / 64 % 64, 128 + z % 64] := by rw [HBS.out]; unfold bytesF; rw [if_neg (by simpa using hs), if_neg c1, if_neg c2, if_neg c3]
      have HB1 := hid hb1
      have HY : Hid (∀ x ∈ bs, 0 ≤ x ∧ x ≤ 255) := hid (by
        rw [hb1]
        intro x hx
        simp only [List.mem_cons, List.not_mem_nil, or_false] at hx
        unfold scalP at hs
        omega)
      have hz0 : 0 ≤ z := hs.1
      have hzt : z < 1114112 := hs.2.1
      clear hb1 hs
      go_enter Tryz.func35, Tryz.ntmps35
      go_wp2_with fail
      refine (HI.out _).mono ?_
      rintro e w1 ⟨rfl, rfl⟩
      go_wp2_with fail
      go_ret
      refine ⟨_, rfl, ⟨?_, HY.out⟩, (Below.refl _ _).alloc (Nat.le_refl _) _⟩
      rw [HB1.out]
      exact World.ownsRow_lit w1 #[.int .u8 (240 + z / 262144), .int .u8 (128 + z / 4096 % 64), .int .u8 (128 + z / 64 % 64), .int .u8 (128 + z % 64)] 4 (Nat.le_refl _) (by decide) rfl
  · have hb1 : bs = [] := by rw [HBS.out]; unfold bytesF; rw [if_pos hs]
    have HB1 := hid hb1
    rw [decide_eq_false hs] at HI
    clear hb1 hs
    go_enter Tryz.func35, Tryz.ntmps35
    go_wp2_with fail
    refine (HI.out _).mono ?_
    rintro e w1 ⟨rfl, rfl⟩
    go_wp2_with fail
    go_ret
    exact ⟨_, rfl, by rw [HB1.out]; exact OwnB.nil, Below.refl _ _⟩
end Go.Proofs.YtmkmikacfilbpaaGreat
