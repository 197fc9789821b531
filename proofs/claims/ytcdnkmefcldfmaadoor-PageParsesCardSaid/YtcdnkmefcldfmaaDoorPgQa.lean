/-
  The reference's text and number.
-/
import Derived.Test.YtcdnkmefcldfmaaDoorPgQn
import Derived.Test.YtcdnkmefcldfmaaDoorPgNums
import Derived.Test.YtcdnkmefcldfmaaDoorPgR1
namespace Go.Proofs.YtcdnkmefcldfmaaDoor
open Go.RowKit Go.Um

/-- what is left of a text at a place. -/
def rest (s : ByteArray) (i : Nat) : By := s.data.toList.drop i
/-- the place behind what has been read, if it has. -/
def AtS (s : ByteArray) (k : Nat) (ok : Bool) (st : Option By) : Prop := k ≤ s.size ∧ ok = st.isSome ∧ ∀ r, st = some r → r = rest s k
theorem AtS.lit {s : ByteArray} {i k : Nat} {ok1 ok2 : Bool} {st : Option By} {p : By} (h1 : AtS s i ok1 st) (h2 : AtS s k ok2 (lit p (rest s i))) : AtS s k (ok1 && ok2) (st.bind (lit p)) := by
  cases st with
  | none => exact ⟨h2.1, by simp [h1.2.1], fun r hr => by cases hr⟩
  | some l =>
    have := h1.2.2 l rfl
    subst this
    exact ⟨h2.1, by simp [h1.2.1, h2.2.1], h2.2.2⟩
theorem AtS.fin {α : Type} {s : ByteArray} {i k : Nat} {ok1 ok2 : Bool} {st st2 : Option By} {f : By → Option (α × By)} {x : α} (h1 : AtS s i ok1 st) (hf : Fin st2 (f (rest s i)) x) (h2 : AtS s k ok2 st2) : ∃ st3, Fin st3 (st.bind f) x ∧ AtS s k (ok1 && ok2) st3 := by
  cases st with
  | none => exact ⟨none, .inr ⟨rfl, rfl⟩, h2.1, by simp [h1.2.1], fun r hr => by cases hr⟩
  | some l =>
    have := h1.2.2 l rfl
    subst this
    exact ⟨st2, hf, h2.1, by simp [h1.2.1, h2.2.1], h2.2.2⟩
theorem AtS.some {s : ByteArray} {k : Nat} {st : Option By} (h : AtS s k true st) : st = Option.some (rest s k) := by
  cases st with
  | none => simp [AtS] at h
  | some l => rw [h.2.2 l rfl]
theorem AtS.none {s : ByteArray} {k : Nat} {st : Option By} (h : AtS s k false st) : st = Option.none := by
  cases st with
  | none => rfl
  | some l => simp [AtS] at h
theorem AtS.here {s : ByteArray} {k : Nat} (h : k ≤ s.size) : AtS s k true (Option.some (rest s k)) := ⟨h, rfl, fun r hr => by injection hr with hr; exact hr.symm⟩
theorem sizeQ (s : ByteArray) : s.data.toList.length = s.size := by rw [Array.length_toList]; rfl
theorem lit_extract_none {s t : ByteArray} {i : Nat} (h : s.extract i (i + t.size) ≠ t) : lit t.data.toList (rest s i) = none := by
  cases hl : lit t.data.toList (rest s i) with
  | none => rfl
  | some r =>
    exfalso
    apply h
    apply byteArray_ext
    rw [Lib.extract_data]
    have h1 := (lit_some hl).1
    unfold rest at h1
    rw [h1, Nat.add_sub_cancel_left, ← sizeQ t, List.take_left]
theorem lit_extract_some {s t : ByteArray} {i : Nat} (h : s.extract i (i + t.size) = t) : lit t.data.toList (rest s i) = some (rest s (i + t.size)) := by
  have h1 : (s.extract i (i + t.size)).data.toList = t.data.toList := by rw [h]
  rw [Lib.extract_data, Nat.add_sub_cancel_left] at h1
  have h2 : rest s i = t.data.toList ++ rest s (i + t.size) := by
    unfold rest
    conv => lhs; rw [← List.take_append_drop t.size (s.data.toList.drop i)]
    rw [h1, List.drop_drop]
  rw [h2, lit_app]
theorem lit_short {s t : ByteArray} {i : Nat} (h : s.size - i < t.size) : lit t.data.toList (rest s i) = none := by
  cases hl : lit t.data.toList (rest s i) with
  | none => rfl
  | some r =>
    exfalso
    have := (lit_some hl).2
    rw [rest, List.length_drop, sizeQ, sizeQ] at this
    omega
/-- where text stands behind what it was asked for. -/
def txtK (s : ByteArray) (i : Nat) (t : ByteArray) : Nat := if (lit t.data.toList (rest s i)).isSome then i + t.size else i
theorem txtK_at {s t : ByteArray} {i : Nat} (h : i ≤ s.size) : AtS s (txtK s i t) (lit t.data.toList (rest s i)).isSome (lit t.data.toList (rest s i)) := by
  unfold txtK
  cases hl : lit t.data.toList (rest s i) with
  | none => exact ⟨h, rfl, fun r hr => by cases hr⟩
  | some r =>
    have h2 := (lit_some hl).2
    have h1 := (lit_some hl).1
    have hle : i + t.size ≤ s.size := by
      rw [rest, List.length_drop, sizeQ, sizeQ] at h2
      omega
    refine ⟨hle, rfl, fun r' hr => ?_⟩
    injection hr with hr
    subst hr
    simp only [Option.isSome_some, if_true]
    unfold rest at h1 ⊢
    have := congrArg (List.drop t.size) h1
    rw [List.drop_drop, ← sizeQ t, List.drop_left] at this
    rw [← sizeQ t]
    exact this.symm

set_option maxHeartbeats 1000000 in
theorem rtext_calls (s : ByteArray) (i : Nat) (t : ByteArray) (hi : i ≤ s.size) (hs : s.size ≤ 65536) (ht : t.size ≤ 100) (w : World) :
    Calls Tryd.prog 46 #[.string s, .int .i64 i, .string t] w fun e w' => w' = w ∧ e = .returned (.tuple #[.int .i64 (txtK s i t), .bool (lit t.data.toList (rest s i)).isSome]) := by
  by_cases h1 : s.size - i < t.size
  · have HL := hid (lit_short h1)
    have h1' : (s.size : Int) - i < t.size := by omega
    have HK : Hid (txtK s i t = i) := hid (by unfold txtK; rw [HL.out]; rfl)
    clear h1
    go_enter Tryd.func46, Tryd.ntmps46
    go_wp2_with fail
    go_ret2
    exact ⟨rfl, by rw [HL.out, HK.out]; rfl⟩
  · have h1' : ¬ (s.size : Int) - i < t.size := by omega
    have h2 : i + t.size ≤ s.size := by omega
    have h2' : (i : Int) + t.size ≤ s.size := by omega
    by_cases he : s.extract i (i + t.size) = t
    · have HL := hid (lit_extract_some he)
      have HK : Hid (txtK s i t = i + t.size) := hid (by unfold txtK; rw [HL.out]; rfl)
      have he2 : (s.extract i (i + t.size)).toList = t.toList := by rw [he]
      have he3 : ((s.extract i (i + t.size)).toList == t.toList) = true := by rw [he]; simp
      clear h1
      go_enter Tryd.func46, Tryd.ntmps46
      go_wp2_with fail
      go_ret2
      exact ⟨rfl, by rw [HL.out, HK.out]; rfl⟩
    · have HL := hid (lit_extract_none he)
      have HK : Hid (txtK s i t = i) := hid (by unfold txtK; rw [HL.out]; rfl)
      have he2 : ¬ (s.extract i (i + t.size)).toList = t.toList := fun h => he (byteArray_ext (by rw [ByteArray.toList_eq, ByteArray.toList_eq] at h; exact h))
      have he3 : ((s.extract i (i + t.size)).toList == t.toList) = false := by simpa using he2
      clear h1
      go_enter Tryd.func46, Tryd.ntmps46
      go_wp2_with fail
      go_ret2
      exact ⟨rfl, by rw [HL.out, HK.out]; rfl⟩
end Go.Proofs.YtcdnkmefcldfmaaDoor
