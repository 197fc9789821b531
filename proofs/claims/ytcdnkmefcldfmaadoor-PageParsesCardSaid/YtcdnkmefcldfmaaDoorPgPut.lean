/-
  The writer's full, put and nums.
-/
import Derived.Test.YtcdnkmefcldfmaaDoorPgLib
namespace Go.Proofs.YtcdnkmefcldfmaaDoor
open Go.RowKit Go.Um

/-- what is held of a text that is written: all of it, or so much that it is too long. -/
def Clip (acc L : By) : Prop := (L.length ≤ 65536 ∧ acc = L) ∨ (65536 < L.length ∧ 65536 < acc.length ∧ acc.length ≤ 66000)
theorem Clip.len {acc L : By} (h : Clip acc L) : acc.length ≤ 66000 ∧ (65536 < acc.length ↔ 65536 < L.length) := by
  rcases h with ⟨h1, rfl⟩ | ⟨h1, h2, h3⟩
  · exact ⟨by omega, Iff.rfl⟩
  · exact ⟨h3, by omega⟩
theorem Clip.put {acc L s : By} (h : Clip acc L) (hs : s.length ≤ 400) (ha : acc.length ≤ 65536) : Clip (acc ++ s) (L ++ s) := by
  rcases h with ⟨h1, rfl⟩ | ⟨h1, h2, h3⟩
  · by_cases h : (acc ++ s).length ≤ 65536
    · exact .inl ⟨h, rfl⟩
    · have := @List.length_append _ acc s; exact .inr ⟨by omega, by omega, by omega⟩
  · omega
theorem Clip.more {acc L s : By} (h : Clip acc L) (hL : 65536 < L.length) : Clip acc (L ++ s) := by
  have := h.len
  have := @List.length_append _ L s
  exact .inr ⟨by omega, by omega, by omega⟩
/-- the writer in block b holds the text L, as far as it goes. -/
def Wr (B b : Nat) (L : By) (w : World) : Prop := ∃ acc, Clip acc L ∧ IsB B b (Lib.byteCells acc) w ∧ B ≤ w.heap.size
theorem Wr.more {B b : Nat} {L : By} {w : World} (h : Wr B b L w) (hL : 65536 < L.length) (s : By) : Wr B b (L ++ s) w := by
  obtain ⟨acc, h1, h2, h3⟩ := h
  exact ⟨acc, h1.more hL, h2, h3⟩
theorem Wr.le {B b : Nat} {L : By} {w : World} (h : Wr B b L w) : B ≤ w.heap.size := by obtain ⟨_, _, _, h⟩ := h; exact h
theorem IsB.base {B b : Nat} {bs : List Value} {w : World} (h : IsB B b bs w) : B ≤ b ∧ b < w.heap.size := by
  rcases h with h | h <;> exact ⟨h.1, h.lt⟩
theorem Wr.base {B b : Nat} {L : By} {w : World} (h : Wr B b L w) : B ≤ b ∧ b < w.heap.size := by obtain ⟨_, _, h, _⟩ := h; exact h.base
/-- what is made new leaves the writer as it is. -/
theorem BAt.later {B b : Nat} {p : Value} {bs : List Value} {w w' : World} (h : BAt B b p bs w) (hb : Below w.heap.size w w') : BAt B b p bs w' := by
  have hlt := h.lt
  obtain ⟨hB, v, hbk, hown, hne⟩ := h
  refine ⟨hB, v, (hb.block b hlt).trans hbk, ?_, hne⟩
  refine ⟨hown.1, ?_⟩
  rcases hown.2 with h2 | ⟨g, cap, cur, rfl, h3, h4, h5⟩
  · exact .inl h2
  · have hg : g < w.heap.size := by
      rcases Nat.lt_or_ge g w.heap.size with h' | h'
      · exact h'
      · simp [Array.getElem?_eq_none h'] at h4
    exact .inr ⟨g, cap, cur, rfl, h3, (hb.block g hg).trans h4, h5⟩
theorem Wr.later {B b : Nat} {L : By} {w w' : World} (h : Wr B b L w) (hb : Below w.heap.size w w') : Wr B b L w' := by
  obtain ⟨acc, h1, h2, h3⟩ := h
  refine ⟨acc, h1, ?_, Nat.le_trans h3 hb.size⟩
  rcases h2 with h2 | h2
  · exact .inl (BAt.later h2 hb)
  · exact .inr (BAt.later h2 hb)
theorem Fr.of_below {B b : Nat} {w w' : World} (hb : Below w.heap.size w w') (hB : B ≤ w.heap.size) : Fr B b w w' :=
  ⟨hb.mono hB, fun k o hk _ _ => (hb.block k (by
    rcases Nat.lt_or_ge k w.heap.size with h' | h'
    · exact h'
    · simp [Array.getElem?_eq_none h'] at hk)).trans hk⟩

set_option maxHeartbeats 1000000 in
theorem full_calls (B b : Nat) (L : By) (w : World) (h : Wr B b L w) :
    Calls Tryd.prog 19 #[.pointer (some ⟨b, 0, none⟩)] w fun e w' => e = .returned (.bool (decide (65536 < L.length))) ∧ w = w' := by
  obtain ⟨acc, hc, hi, hB⟩ := h
  have hl := hc.len
  have hlen := Lib.byteCells_length acc
  have HC := hid (Len_calls B b _ w hi)
  rw [hlen] at HC
  obtain ⟨hl1, hl2⟩ := hl
  have hF : Hid (decide (65536 < acc.length) = decide (65536 < L.length)) := hid (by simp [hl2])
  clear hlen hc hi hl2
  by_cases hg : 65536 < acc.length
  · have hF : Hid (true = decide (65536 < L.length)) := hid (by rw [← hF.out]; simp [hg])
    have hg' : (65536 : Int) < acc.length := by omega
    go_enter Tryd.func19, Tryd.ntmps19
    go_wp2_with fail
    refine HC.out.mono ?_
    rintro e w1 ⟨rfl, rfl⟩
    go_wp2_with fail
    go_ret
    exact ⟨by rw [← hF.out]; rfl, rfl⟩
  · have hF : Hid (false = decide (65536 < L.length)) := hid (by rw [← hF.out]; simp [hg])
    have hg' : decide ((65536 : Int) < acc.length) = false := by simp; omega
    go_enter Tryd.func19, Tryd.ntmps19
    go_wp2_with fail
    refine HC.out.mono ?_
    rintro e w1 ⟨rfl, rfl⟩
    go_wp2_with fail
    go_ret
    exact ⟨by rw [← hF.out]; rfl, rfl⟩

set_option maxHeartbeats 1000000 in
theorem put_calls (B b : Nat) (L : By) (s : ByteArray) (hs : s.data.toList.length ≤ 400) (w : World) (h : Wr B b L w) :
    Calls Tryd.prog 17 #[.pointer (some ⟨b, 0, none⟩), .string s] w fun e w' => e = .returned (.tuple #[]) ∧ Wr B b (L ++ s.data.toList) w' ∧ Fr B b w w' := by
  have HF := hid (full_calls B b L w h)
  have hsz : s.size = s.data.toList.length := by rw [Array.length_toList]; rfl
  by_cases hg : 65536 < L.length
  · have HW := hid (h.more hg s.data.toList)
    have e1 : decide (65536 < L.length) = true := by simp [hg]
    rw [e1] at HF
    clear e1 h hg hsz
    go_enter Tryd.func17, Tryd.ntmps17
    go_wp2_with fail
    refine HF.out.mono ?_
    rintro e w1 ⟨rfl, rfl⟩
    go_wp2_with fail
    go_end0
    exact ⟨rfl, HW.out, Fr.refl _ _ _⟩
  · obtain ⟨acc, hc, hi, hB⟩ := h
    have hl := hc.len
    have ha : acc.length ≤ 65536 := by omega
    have HCP := hid (hc.put hs ha)
    have e1 : decide (65536 < L.length) = false := by simp [hg]
    rw [e1] at HF
    have HC := hid (WriteString_calls B b _ s w hi (by rw [Lib.byteCells_length, hsz]; omega) hB)
    clear e1 hc hl hg hsz hi
    go_enter Tryd.func17, Tryd.ntmps17
    go_wp2_with fail
    refine HF.out.mono ?_
    rintro e w1 ⟨rfl, rfl⟩
    go_wp2_with fail
    refine HC.out.mono ?_
    rintro e w1 ⟨rfl, hi1, hf1⟩
    go_wp2_with fail
    go_end0
    refine ⟨rfl, ⟨_, HCP.out, ?_, Nat.le_trans hB hf1.below.size⟩, hf1⟩
    rw [Lib.byteCells_append, ← Lib.strCells_eq]
    exact hi1

theorem itoa_le {x : Int} (h : I64 x) : (Lib.itoa x).length ≤ 21 := Lib.itoa_length_le x h.1 h.2

set_option maxHeartbeats 2000000 in
theorem nums_calls (B b : Nat) (L : By) (g : Nat) (xs : List Int) (c : Nat) (hx : allI xs) (hl : xs.length ≤ 100) (w : World) (h : Wr B b L w) (hv : Vars B w) (hg : w.heap[g]? = some (.cells ⟨xs.map (Value.int .i64)⟩ 3 (0, 0))) (hgb : g ≠ b) :
    Calls Tryd.prog 18 #[.pointer (some ⟨b, 0, none⟩), .slice (some ⟨g, 0, none⟩) xs.length c] w fun e w' => e = .returned (.tuple #[]) ∧ Wr B b (L ++ numsFrom 0 xs) w' ∧ Fr B b w w' := by
  have HG := hid hg; clear hg
  have HV := hid hv; clear hv
  go_enter Tryd.func18, Tryd.ntmps18
  go_wp2_with fail
  go_loopw [8] (fun vi wr => ∃ (k : Nat) (M : By), k ≤ xs.length ∧ vi = .int .i64 k ∧ Wr B b M wr ∧ M ++ numsFrom k (xs.drop k) = L ++ numsFrom 0 xs ∧ Fr B b w wr) (fun vi _ => xs.length - (intOf vi).toNat)
  case atStart => exact ⟨0, L, Nat.zero_le _, rfl, h, rfl, Fr.refl _ _ _⟩
  case round =>
    obtain ⟨k, M, hk, rfl, hw, hM, hf⟩ := hrel
    have HM := hid hM; clear hM
    have HGR := hid (hf.kept g _ HG.out (by simp; exact hgb) (by intro c fz e; cases e))
    have HVR := hid (HV.out.on hf.below)
    by_cases hlt : k < xs.length
    · obtain ⟨x, hxk⟩ := at_lt hlt
      have hI := hx x (List.mem_of_getElem? hxk)
      have hc : wr.cell? ⟨g, k, none⟩ = some (.int .i64 x) := by rw [Lib.cell_of_heap HGR.out]; simp [hxk]
      have hlt' : (k : Int) < xs.length := by omega
      have hle := itoa_le hI
      by_cases hk0 : k = 0
      · subst hk0
        have HM2 : Hid ((M ++ Lib.itoa x) ++ numsFrom 1 (xs.drop 1) = L ++ numsFrom 0 xs) := hid (by have := HM.out; rw [drop_cons hxk] at this; simpa [numsFrom, sepL] using this)
        clear hxk hlt
        go_wp2_with fail
        refine (Itoa_calls x hI _ HVR.out).mono ?_
        rintro e w1 ⟨rfl, hb1⟩
        have hw1 := hw.later hb1
        have hf1 := hf.trans (Fr.of_below (b := b) hb1 hw.le)
        go_wp2_with fail
        refine (put_calls B b M _ (by show (Lib.itoa x).length ≤ 400; omega) _ hw1).mono ?_
        rintro e w2 ⟨rfl, hw2, hf2⟩
        go_wp2_with fail
        refine ⟨⟨1, _, by omega, rfl, hw2, HM2.out, hf1.trans hf2⟩, ?_⟩
        simp [intOf]; omega
      · have HM2 : Hid (((M ++ [32]) ++ Lib.itoa x) ++ numsFrom (k + 1) (xs.drop (k + 1)) = L ++ numsFrom 0 xs) := hid (by have := HM.out; rw [drop_cons hxk] at this; simpa [numsFrom, sepL, hk0] using this)
        have hk1 : (0 : Int) < k := by omega
        clear hxk hlt
        go_wp2_with fail
        refine (put_calls B b M ⟨#[32]⟩ (by decide) _ hw).mono ?_
        rintro e w0 ⟨rfl, hw0, hf0⟩
        go_wp2_with fail
        refine (Itoa_calls x hI _ (HVR.out.on hf0.below)).mono ?_
        rintro e w1 ⟨rfl, hb1⟩
        have hw1 := hw0.later hb1
        have hf1 := (hf.trans hf0).trans (Fr.of_below (b := b) hb1 hw0.le)
        go_wp2_with fail
        refine (put_calls B b _ _ (by show (Lib.itoa x).length ≤ 400; omega) _ hw1).mono ?_
        rintro e w2 ⟨rfl, hw2, hf2⟩
        go_wp2_with fail
        refine ⟨⟨k + 1, _, by omega, by go_num, hw2, HM2.out, hf1.trans hf2⟩, ?_⟩
        simp [intOf]; omega
    · have hke : k = xs.length := by omega
      have hM2 : M = L ++ numsFrom 0 xs := by have := HM.out; rw [hke, List.drop_length] at this; simpa [numsFrom] using this
      subst hM2
      subst hke
      clear HM
      go_wp2_with fail
      go_end0
      exact ⟨rfl, hw, hf⟩
end Go.Proofs.YtcdnkmefcldfmaaDoor
