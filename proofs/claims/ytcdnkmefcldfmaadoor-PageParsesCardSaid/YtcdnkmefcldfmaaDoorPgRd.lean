/-
  The reader of package page: eat, must, num and nums.
-/
import Derived.Test.YtcdnkmefcldfmaaDoorPgLib
import Derived.Test.YtcdnkmefcldfmaaDoorPgReg
import Derived.Lib.IndexBytes
namespace Go.Proofs.YtcdnkmefcldfmaaDoor
open Go.RowKit Go.Um

theorem only_drewN {a w : World} {row : Option Nat} (h : a.grownBy w row) (n : Nat) : a.grownBy (w.drewN n) row := ⟨h.os, h.tape, h.output, h.size, h.block⟩
theorem only_drew {a w : World} {row : Option Nat} (h : a.grownBy w row) : a.grownBy w.drew row := ⟨h.os, h.tape, h.output, h.size, h.block⟩
theorem only_alloc {a w : World} {row : Option Nat} (h : a.grownBy w row) (o : Obj) : a.grownBy (w.alloc o) row :=
  ⟨h.os, h.tape, h.output, Nat.le_trans h.size (by simp), fun i hi hne => (Below.heap_alloc w o i (Nat.lt_of_lt_of_le hi h.size)).trans (h.block i hi hne)⟩
theorem only_setCell {a w : World} {g : Nat} (h : a.grownBy w (some g)) {p : Addr} (hp : p.block = g ∨ a.heap.size ≤ p.block) (u : Value) : a.grownBy (w.setCell p u) (some g) :=
  ⟨h.os, h.tape, h.output, by simpa [World.setCell] using h.size, fun i hi hne => (Below.heap_setCell w p u i (by
    rintro rfl
    rcases hp with hp | hp
    · exact hne (by rw [hp])
    · omega)).trans (h.block i hi hne)⟩
theorem only_of_below {a w : World} (h : Below a.heap.size a w) (row : Option Nat) : a.grownBy w row := ⟨h.os, h.tape, h.output, h.size, fun i hi _ => h.block i hi⟩
theorem only_trans {a b c : World} {row : Option Nat} (h : a.grownBy b row) (k : b.grownBy c row) : a.grownBy c row :=
  ⟨k.os.trans h.os, k.tape.trans h.tape, k.output.trans h.output, Nat.le_trans h.size k.size, fun i hi hne => (k.block i (Nat.lt_of_lt_of_le hi h.size) hne).trans (h.block i hi hne)⟩
/-- what goes on in rows that are new leaves what there was. -/
theorem only_new {a b c : World} {row row' : Option Nat} (h : a.grownBy b row) (k : b.grownBy c row') (hr : ∀ g, row' = some g → a.heap.size ≤ g ∨ row = some g) : a.grownBy c row :=
  ⟨k.os.trans h.os, k.tape.trans h.tape, k.output.trans h.output, Nat.le_trans h.size k.size, fun i hi hne => (k.block i (Nat.lt_of_lt_of_le hi h.size) (fun e => by
    rcases hr i e.symm with h2 | h2
    · omega
    · exact hne h2.symm)).trans (h.block i hi hne)⟩
theorem below_of_only {B : Nat} {a b : World} {g : Nat} (h : a.grownBy b (some g)) (hB : B ≤ g) (hg : g < a.heap.size) : Below B a b :=
  (Below.refl B a).grown h (by omega) (fun k hk => by injection hk with hk; omega)

/-- the reader in block b: what is left of the line, none behind a fault. -/
def RdS (b : Nat) (w : World) (st : Option By) : Prop := ∃ (s : ByteArray) (bad : Bool), w.heap[b]? = some (.cells #[.string s, .bool bad] 92 (0, 0)) ∧ s.size ≤ 65536 ∧
  (match st with | none => bad = true | some l => bad = false ∧ s.data.toList = l)
theorem RdS.lt {b : Nat} {w : World} {st : Option By} (h : RdS b w st) : b < w.heap.size := by
  obtain ⟨s, bad, h, _⟩ := h
  rcases Nat.lt_or_ge b w.heap.size with h' | h'
  · exact h'
  · simp [Array.getElem?_eq_none h'] at h
theorem RdS.keep {b : Nat} {w w' : World} {st : Option By} (h : RdS b w st) (hk : w'.heap[b]? = w.heap[b]?) : RdS b w' st := by
  obtain ⟨s, bad, h1, h2⟩ := h
  exact ⟨s, bad, hk.trans h1, h2⟩
theorem RdS.grown {b : Nat} {w w' : World} {st : Option By} {row : Option Nat} (h : RdS b w st) (hg : w.grownBy w' row) (hne : some b ≠ row) : RdS b w' st := h.keep (hg.block b h.lt hne)
theorem RdS.later {b : Nat} {w w' : World} {st : Option By} (h : RdS b w st) (hb : Below w.heap.size w w') : RdS b w' st := h.keep (hb.block b h.lt)
/-- how much is left to be read. -/
def rdLen (b : Nat) (w : World) : Nat := match w.heap[b]? with
  | some (.cells cs _ _) => (match (cs[0]? : Option Value), (cs[1]? : Option Value) with | some (Value.string s), some (Value.bool false) => s.data.toList.length + 1 | _, _ => 0)
  | _ => 0
def stLen : Option By → Nat
  | none => 0
  | some l => l.length + 1
theorem RdS.len {b : Nat} {w : World} {st : Option By} (h : RdS b w st) : rdLen b w = stLen st := by
  obtain ⟨s, bad, h1, _, h3⟩ := h
  unfold rdLen
  rw [h1]
  cases st with
  | none => simp only at h3; subst h3; simp [stLen]
  | some l => simp only at h3; obtain ⟨rfl, rfl⟩ := h3; simp [stLen]
theorem heap_set (w : World) (b i : Nat) (u : Value) {cs : Array Value} {t : TypeId} (h : w.heap[b]? = some (.cells cs t (0, 0))) : (w.setCell ⟨b, i, none⟩ u).heap[b]? = some (.cells (cs.setIfInBounds i u) t (0, 0)) := by
  simp [World.setCell, Array.getElem?_modify, h]

set_option maxHeartbeats 1000000 in
theorem eat_calls (b : Nat) (st : Option By) (p : ByteArray) (w : World) (h : RdS b w st) :
    Calls Tryd.prog 40 #[.pointer (some ⟨b, 0, none⟩), .string p] w fun e w' => e = .returned (.bool (st.bind (lit p.data.toList)).isSome) ∧
      RdS b w' (st.map fun l => (lit p.data.toList l).getD l) ∧ w.grownBy w' (some b) := by
  obtain ⟨s, bad, hb, hsz, hst⟩ := h
  have c0 : w.cell? ⟨b, 0, none⟩ = some (.string s) := by rw [Lib.cell_of_heap hb]; rfl
  have c1 : w.cell? ⟨b, 1, none⟩ = some (.bool bad) := by rw [Lib.cell_of_heap hb]; rfl
  have f0 : w.frozen? ⟨b, 0, none⟩ = false := Lib.frozen_of_heap hb 0
  have HB := hid hb
  clear hb
  cases st with
  | none =>
    simp only at hst
    subst hst
    go_enter Tryd.func40, Tryd.ntmps40
    go_wp2_with fail
    go_ret
    exact ⟨rfl, ⟨s, true, HB.out, hsz, rfl⟩, World.grownBy.refl w _⟩
  | some l =>
    simp only at hst
    obtain ⟨rfl, hl⟩ := hst
    subst hl
    have HP := hid (HasPrefix_calls s p w)
    cases hpre : p.data.toList.isPrefixOf s.data.toList with
    | false =>
      rw [hpre] at HP
      have hlit : lit p.data.toList s.data.toList = none := by unfold lit; rw [hpre]; rfl
      have HL := hid hlit
      clear hpre hlit
      go_enter Tryd.func40, Tryd.ntmps40
      go_wp2_with fail
      refine HP.out.mono ?_
      rintro e w1 ⟨rfl, rfl⟩
      go_wp2_with fail
      go_ret
      refine ⟨?_, ?_, World.grownBy.refl w _⟩
      · simp only [Option.bind_some]; rw [HL.out]; rfl
      · simp only [Option.map_some]; rw [HL.out]; exact ⟨s, false, HB.out, hsz, rfl, rfl⟩
    | true =>
      rw [hpre] at HP
      have hlit : lit p.data.toList s.data.toList = some (s.data.toList.drop p.data.toList.length) := by unfold lit; rw [hpre]; rfl
      have hle : p.size ≤ s.size := by
        have h1 := (List.isPrefixOf_iff_prefix.1 hpre).length_le
        rw [Array.length_toList, Array.length_toList] at h1
        exact h1
      have hpl : p.data.toList.length = p.size := by rw [Array.length_toList]; rfl
      have HL := hid hlit
      have HPL := hid hpl
      have hle' : (p.size : Int) ≤ s.size := by omega
      have h0 : (0 : Int) ≤ p.size := by omega
      clear hpre hlit hpl
      go_enter Tryd.func40, Tryd.ntmps40
      go_wp2_with fail
      refine HP.out.mono ?_
      rintro e w1 ⟨rfl, rfl⟩
      go_wp2_with fail
      go_ret
      refine ⟨?_, ?_, only_setCell (World.grownBy.refl w _) (.inl rfl) _⟩
      · simp only [Option.bind_some]; rw [HL.out]; rfl
      · simp only [Option.map_some]; rw [HL.out]
        refine ⟨s.extract p.size s.size, false, heap_set w b 0 _ HB.out, ?_, rfl, ?_⟩
        · rw [ByteArray.size_extract]; omega
        · rw [Lib.extract_to_end, HPL.out]; rfl

set_option maxHeartbeats 1000000 in
theorem must_calls (b : Nat) (st : Option By) (p : ByteArray) (w : World) (h : RdS b w st) :
    Calls Tryd.prog 38 #[.pointer (some ⟨b, 0, none⟩), .string p] w fun e w' => e = .returned (.tuple #[]) ∧ RdS b w' (st.bind (lit p.data.toList)) ∧ w.grownBy w' (some b) := by
  have hc := eat_calls b st p w h
  cases hl : st.bind (lit p.data.toList) with
  | none =>
    rw [hl] at hc
    have HC := hid hc
    clear hc hl
    go_enter Tryd.func38, Tryd.ntmps38
    go_wp2_with fail
    refine HC.out.mono ?_
    rintro e w1 ⟨rfl, h1, hg1⟩
    obtain ⟨s, bad, hb, hsz, hst⟩ := h1
    have c1 : w1.cell? ⟨b, 1, none⟩ = some (.bool bad) := by rw [Lib.cell_of_heap hb]; rfl
    have f1 : w1.frozen? ⟨b, 1, none⟩ = false := Lib.frozen_of_heap hb 1
    have HB := hid hb
    clear hb hst
    go_wp2_with fail
    go_end0
    exact ⟨rfl, ⟨s, true, heap_set w1 b 1 _ HB.out, hsz, rfl⟩, only_setCell hg1 (.inl rfl) _⟩
  | some r =>
    rw [hl] at hc
    have HC := hid hc
    have HL := hid hl
    clear hc hl
    go_enter Tryd.func38, Tryd.ntmps38
    go_wp2_with fail
    refine HC.out.mono ?_
    rintro e w1 ⟨rfl, h1, hg1⟩
    go_wp2_with fail
    go_end0
    refine ⟨rfl, ?_, hg1⟩
    cases st with
    | none => have := HL.out; cases this
    | some l =>
      have e1 : lit p.data.toList l = some r := HL.out
      simp only [Option.map_some, e1, Option.getD_some] at h1
      exact h1
end Go.Proofs.YtcdnkmefcldfmaaDoor
