/-
  page.Parse: a text's description, or the line that is wrong.
-/
import Derived.Test.YtcdnkmefcldfmaaDoorPgLnR
import Derived.Test.YtcdnkmefcldfmaaDoorPgLnF
namespace Go.Proofs.YtcdnkmefcldfmaaDoor
open Go.RowKit Go.Um

theorem line_calls (base p B : Nat) (hBb : B ≤ base) (s : ByteArray) (hs : s.size ≤ 65536) (first : Bool) (d : Desc) (vr vf : Value) (w : World) (h : DescAt base p d w vr vf) (hv : Vars B w) (hn : d.rules.length ≤ 70000) (hm : d.finals.length ≤ 70000) :
    Calls Tryd.prog 26 #[.pointer (some ⟨p, 0, none⟩), .string s, .bool first] w (LinePost base p first d s.data.toList w) := by
  cases first with
  | true => exact line_head base p B hBb s hs d vr vf w h hv
  | false =>
    by_cases hf : d.finals = []
    · cases hl : lit [114, 117, 108, 101, 32] s.data.toList with
      | none => exact line_final_a base p B hBb s hs d vr vf w h hv hm hf hl
      | some l1 => exact line_rule base p B hBb s hs d vr vf w h hv hn hf l1 hl
    · exact line_final_b base p B hBb s hs d vr vf w h hv hm hf
def zeroD : Value := .agg #[.int .i64 0, .int .i64 0, .int .i64 0, .int .i64 0, .slice none 0 0, .slice none 0 0]
theorem line_grows {first : Bool} {d d' : Desc} {l : By} (h : lineF first d l = some d') : d'.rules.length ≤ d.rules.length + 1 ∧ d'.finals.length ≤ d.finals.length + 1 := by
  unfold lineF at h
  cases first with
  | true =>
    simp only [if_true] at h
    obtain ⟨_, _, h1, h2⟩ := headF_some h
    simp [h1, h2]
  | false =>
    simp only [Bool.false_eq_true, if_false] at h
    split at h
    · obtain ⟨r, _, rfl⟩ := Option.map_eq_some_iff.1 h
      simp [addR]
    · obtain ⟨l1, _, h⟩ := Option.bind_eq_some_iff.1 h
      obtain ⟨r, _, rfl⟩ := Option.map_eq_some_iff.1 h
      simp [addE]
/-- what Parse hands back of a text that is not too long. -/
def ParsePost (l : By) (w : World) (e : Ending) (w' : World) : Prop := Below w.heap.size w w' ∧
  (match parseF (l.length + 1) 1 d0 l with
  | .inl d => ∃ vr vf, e = .returned (.tuple #[.agg #[.int .i64 d.inn, .int .i64 d.out, .int .i64 d.states, .int .i64 d.start, vr, vf], .int .i64 0, .int .i64 0]) ∧ (listR ruleR).rel w' (upto w'.heap.size) [vr] d.rules ∧ (listR finalR).rel w' (upto w'.heap.size) [vf] d.finals ∧
      (I64 d.inn ∧ I64 d.out ∧ I64 d.states ∧ I64 d.start)
  | .inr n => e = .returned (.tuple #[zeroD, .int .i64 n, .int .i64 9]))
theorem parse_bad {l : By} {w w' : World} {n : Nat} (h : parseF (l.length + 1) 1 d0 l = .inr n) (hb : Below w.heap.size w w') : ParsePost l w (.returned (.tuple #[zeroD, .int .i64 n, .int .i64 9])) w' := by
  refine ⟨hb, ?_⟩
  rw [h]
theorem parse_ok {l : By} {w w' : World} {d : Desc} {vr vf : Value} (h : parseF (l.length + 1) 1 d0 l = .inl d) (hb : Below w.heap.size w w') (h1 : (listR ruleR).rel w' (upto w'.heap.size) [vr] d.rules) (h2 : (listR finalR).rel w' (upto w'.heap.size) [vf] d.finals)
    (h3 : I64 d.inn ∧ I64 d.out ∧ I64 d.states ∧ I64 d.start) : ParsePost l w (.returned (.tuple #[.agg #[.int .i64 d.inn, .int .i64 d.out, .int .i64 d.states, .int .i64 d.start, vr, vf], .int .i64 0, .int .i64 0])) w' := by
  refine ⟨hb, ?_⟩
  rw [h]
  exact ⟨vr, vf, rfl, h1, h2, h3⟩
def strLen : Value → Nat
  | .string s => s.size
  | _ => 0
theorem sizeL (s : ByteArray) : s.data.toList.length = s.size := by rw [Array.length_toList]; rfl

set_option maxHeartbeats 4000000 in
set_option maxRecDepth 100000 in
theorem Parse_long (s : ByteArray) (hs : 65536 < s.size) (hs2 : s.size ≤ 9223372036854775807) (w : World) :
    Calls Tryd.prog 12 #[.string s] w fun e w' => e = .returned (.tuple #[zeroD, .int .i64 0, .int .i64 4]) ∧ Below w.heap.size w w' := by
  have hs' : (65536 : Int) < s.size := by omega
  go_enter Tryd.func12, Tryd.ntmps12
  go_wp2_with fail
  exact bodyPost_ret (v := .tuple #[.agg #[.int .i64 0, .int .i64 0, .int .i64 0, .int .i64 0, .slice none 0 0, .slice none 0 0], .int .i64 0, .int .i64 4]) (by simp [results, Tryd.results12, go_sem]) rfl ⟨rfl, (Below.refl _ _).alloc (Nat.le_refl _) _⟩

set_option maxHeartbeats 4000000 in
set_option maxRecDepth 100000 in
theorem Parse_calls (s : ByteArray) (hs : s.size ≤ 65536) (w : World) (hv : Vars w.heap.size w) :
    Calls Tryd.prog 12 #[.string s] w (ParsePost s.data.toList w) := by
  have hs' : ¬ (65536 : Int) < s.size := by omega
  obtain ⟨w0, hw0⟩ : ∃ w0, w0 = (w.alloc (.cells #[.int .i64 0, .int .i64 0, .int .i64 0, .int .i64 0, .slice none 0 0, .slice none 0 0] 26)).alloc (.cells #[.int .i64 0, .int .i64 0, .int .i64 0, .int .i64 0, .slice none 0 0, .slice none 0 0] 26) := ⟨_, rfl⟩
  have hB0 : Below w.heap.size w w0 := by rw [hw0]; exact ((Below.refl _ _).alloc (Nat.le_refl _) _).alloc (by simp) _
  have hR0 : w0.heap[w.heap.size]? = some (.cells #[.int .i64 0, .int .i64 0, .int .i64 0, .int .i64 0, .slice none 0 0, .slice none 0 0] 26 (0, 0)) := by rw [hw0, Below.heap_alloc _ _ _ (by simp)]; exact heap_alloc_new _ _
  have hP0 : w0.heap[w.heap.size + 1]? = some (.cells #[.int .i64 0, .int .i64 0, .int .i64 0, .int .i64 0, .slice none 0 0, .slice none 0 0] 26 (0, 0)) := by
    have := heap_alloc_new (w.alloc (.cells #[.int .i64 0, .int .i64 0, .int .i64 0, .int .i64 0, .slice none 0 0, .slice none 0 0] 26)) (.cells #[.int .i64 0, .int .i64 0, .int .i64 0, .int .i64 0, .slice none 0 0, .slice none 0 0] 26)
    rw [hw0]
    simpa using this
  have hD0 : DescAt (w.heap.size + 1) (w.heap.size + 1) d0 w0 (.slice none 0 0) (.slice none 0 0) := ⟨hP0, OwnR.nil, OwnR.nil, ⟨I64.of (by decide) (by decide), I64.of (by decide) (by decide), I64.of (by decide) (by decide), I64.of (by decide) (by decide)⟩, Nat.le_refl _⟩
  have HV0 := hid (hv.on hB0)
  have HR0 := hid hR0
  have HB0 := hid hB0
  have HW0 := hid hw0
  have hs0 : w.heap.size + 2 ≤ w0.heap.size := by rw [hw0]; simp
  clear hv hR0 hP0 hB0 hw0
  go_enter Tryd.func12, Tryd.ntmps12
  go_wp2_with fail
  rw [← HW0.out]
  clear HW0
  go_loopw [0, 6] (fun vs vn wr => ∃ (t : ByteArray) (n : Nat) (d : Desc) (vr vf : Value) (m : Nat), vs = .string t ∧ vn = .int .i64 n ∧ t.size ≤ 65536 ∧ DescAt (w.heap.size + 1) (w.heap.size + 1) d wr vr vf ∧ Below (w.heap.size + 1) w0 wr ∧
    parseF m n d t.data.toList = parseF (s.data.toList.length + 1) 1 d0 s.data.toList ∧ t.size < m ∧ 1 ≤ n ∧ n + t.size ≤ 70000 ∧ d.rules.length + t.size ≤ 70000 ∧ d.finals.length + t.size ≤ 70000) (fun vs _ _ => strLen vs)
  case atStart => exact ⟨s, 1, d0, _, _, s.data.toList.length + 1, rfl, rfl, hs, hD0, Below.refl _ _, rfl, by rw [sizeL]; omega, by omega, by omega, by simp [d0]; omega, by simp [d0]; omega⟩
  case round =>
    obtain ⟨wo, hwo⟩ : ∃ wo, wo = wr := ⟨_, rfl⟩
    subst hwo
    obtain ⟨t, n, d, vr, vf, m, rfl, rfl, ht, hD, hB, hpf, htm, hn1, hnt, hrt, hft⟩ := hrel
    have HPF := hid hpf
    have HD := hid hD
    have HR := hid ((hB.block _ (Nat.lt_succ_self _)).trans HR0.out)
    have HV := hid (HV0.out.on (hB.mono (by omega)))
    have hBw : Below w.heap.size w wo := HB0.out.trans (hB.mono (by omega))
    obtain ⟨m', rfl⟩ : ∃ m', m = m' + 1 := ⟨m - 1, by omega⟩
    clear hpf hD hD0
    by_cases hend : t.data.toList = [] ∧ n ≠ 1
    · obtain ⟨ht0, hn0⟩ := hend
      have HF : Hid (parseF (s.data.toList.length + 1) 1 d0 s.data.toList = .inl d) := hid (by rw [← HPF.out, parseF, if_pos ⟨ht0, hn0⟩])
      have e1 : t.toList = [] := by rw [ByteArray.toList_eq]; exact ht0
      have e2 : t.toList.isEmpty = true := by rw [e1]; rfl
      have e3 : ((n : Int) == 1) = false := by simp; omega
      have e4 : (n == 1) = false := by simp; omega
      have c0 : wo.cell? ⟨w.heap.size, 0, none⟩ = some (.int .i64 0) := by rw [Lib.cell_of_heap HR.out]; rfl
      have c1 : wo.cell? ⟨w.heap.size, 1, none⟩ = some (.int .i64 0) := by rw [Lib.cell_of_heap HR.out]; rfl
      have c2 : wo.cell? ⟨w.heap.size, 2, none⟩ = some (.int .i64 0) := by rw [Lib.cell_of_heap HR.out]; rfl
      have c3 : wo.cell? ⟨w.heap.size, 3, none⟩ = some (.int .i64 0) := by rw [Lib.cell_of_heap HR.out]; rfl
      have c4 : wo.cell? ⟨w.heap.size, 4, none⟩ = some (.slice none 0 0) := by rw [Lib.cell_of_heap HR.out]; rfl
      have c5 : wo.cell? ⟨w.heap.size, 5, none⟩ = some (.slice none 0 0) := by rw [Lib.cell_of_heap HR.out]; rfl
      have f0 : wo.frozen? ⟨w.heap.size, 0, none⟩ = false := Lib.frozen_of_heap HR.out _
      have f1 : wo.frozen? ⟨w.heap.size, 1, none⟩ = false := Lib.frozen_of_heap HR.out _
      have f2 : wo.frozen? ⟨w.heap.size, 2, none⟩ = false := Lib.frozen_of_heap HR.out _
      have f3 : wo.frozen? ⟨w.heap.size, 3, none⟩ = false := Lib.frozen_of_heap HR.out _
      have f4 : wo.frozen? ⟨w.heap.size, 4, none⟩ = false := Lib.frozen_of_heap HR.out _
      have f5 : wo.frozen? ⟨w.heap.size, 5, none⟩ = false := Lib.frozen_of_heap HR.out _
      have p0 : wo.cell? ⟨w.heap.size + 1, 0, none⟩ = some (.int .i64 d.inn) := by rw [Lib.cell_of_heap HD.out.cells]; rfl
      have p1 : wo.cell? ⟨w.heap.size + 1, 1, none⟩ = some (.int .i64 d.out) := by rw [Lib.cell_of_heap HD.out.cells]; rfl
      have p2 : wo.cell? ⟨w.heap.size + 1, 2, none⟩ = some (.int .i64 d.states) := by rw [Lib.cell_of_heap HD.out.cells]; rfl
      have p3 : wo.cell? ⟨w.heap.size + 1, 3, none⟩ = some (.int .i64 d.start) := by rw [Lib.cell_of_heap HD.out.cells]; rfl
      have p4 : wo.cell? ⟨w.heap.size + 1, 4, none⟩ = some vr := by rw [Lib.cell_of_heap HD.out.cells]; rfl
      have p5 : wo.cell? ⟨w.heap.size + 1, 5, none⟩ = some vf := by rw [Lib.cell_of_heap HD.out.cells]; rfl
      obtain ⟨Ar, cr, rfl⟩ : ∃ A c, vr = .slice A d.rules.length c := by obtain ⟨_, _, ho, _⟩ := HD.out.rules; exact row_form ho
      obtain ⟨Af, cf, rfl⟩ : ∃ A c, vf = .slice A d.finals.length c := by obtain ⟨_, _, ho, _⟩ := HD.out.finals; exact row_form ho
      clear ht0 hn0
      go_wp2_with fail
      have hk : ∀ g, g ≠ w.heap.size → ((((((wo.setCell ⟨w.heap.size, 0, none⟩ (.int .i64 d.inn)).setCell ⟨w.heap.size, 1, none⟩ (.int .i64 d.out)).setCell ⟨w.heap.size, 2, none⟩ (.int .i64 d.states)).setCell ⟨w.heap.size, 3, none⟩ (.int .i64 d.start)).setCell ⟨w.heap.size, 4, none⟩ (.slice Ar d.rules.length cr)).setCell ⟨w.heap.size, 5, none⟩ (.slice Af d.finals.length cf)).heap[g]? = wo.heap[g]? := fun g hg => by
        rw [Below.heap_setCell _ _ _ _ hg, Below.heap_setCell _ _ _ _ hg, Below.heap_setCell _ _ _ _ hg, Below.heap_setCell _ _ _ _ hg, Below.heap_setCell _ _ _ _ hg, Below.heap_setCell _ _ _ _ hg]
      have hk2 : ∀ g, (w.heap.size + 1 ≤ g ∨ Dat wo g) → g ≠ w.heap.size := fun g hg => by
        rcases hg with hg | hg
        · omega
        · exact Dat.ne hg ⟨_, _, HR.out⟩ (by decide) (by decide) (by decide) (by decide)
      have hsz : ((((((wo.setCell ⟨w.heap.size, 0, none⟩ (.int .i64 d.inn)).setCell ⟨w.heap.size, 1, none⟩ (.int .i64 d.out)).setCell ⟨w.heap.size, 2, none⟩ (.int .i64 d.states)).setCell ⟨w.heap.size, 3, none⟩ (.int .i64 d.start)).setCell ⟨w.heap.size, 4, none⟩ (.slice Ar d.rules.length cr)).setCell ⟨w.heap.size, 5, none⟩ (.slice Af d.finals.length cf)).heap.size = wo.heap.size := by simp [World.setCell]
      have hDr : (listR ruleR).rel ((((((wo.setCell ⟨w.heap.size, 0, none⟩ (.int .i64 d.inn)).setCell ⟨w.heap.size, 1, none⟩ (.int .i64 d.out)).setCell ⟨w.heap.size, 2, none⟩ (.int .i64 d.states)).setCell ⟨w.heap.size, 3, none⟩ (.int .i64 d.start)).setCell ⟨w.heap.size, 4, none⟩ (.slice Ar d.rules.length cr)).setCell ⟨w.heap.size, 5, none⟩ (.slice Af d.finals.length cf)) (upto ((((((wo.setCell ⟨w.heap.size, 0, none⟩ (.int .i64 d.inn)).setCell ⟨w.heap.size, 1, none⟩ (.int .i64 d.out)).setCell ⟨w.heap.size, 2, none⟩ (.int .i64 d.states)).setCell ⟨w.heap.size, 3, none⟩ (.int .i64 d.start)).setCell ⟨w.heap.size, 4, none⟩ (.slice Ar d.rules.length cr)).setCell ⟨w.heap.size, 5, none⟩ (.slice Af d.finals.length cf)).heap.size) [.slice Ar d.rules.length cr] d.rules :=
        (HD.out.rules.keep (w' := ((((((wo.setCell ⟨w.heap.size, 0, none⟩ (.int .i64 d.inn)).setCell ⟨w.heap.size, 1, none⟩ (.int .i64 d.out)).setCell ⟨w.heap.size, 2, none⟩ (.int .i64 d.states)).setCell ⟨w.heap.size, 3, none⟩ (.int .i64 d.start)).setCell ⟨w.heap.size, 4, none⟩ (.slice Ar d.rules.length cr)).setCell ⟨w.heap.size, 5, none⟩ (.slice Af d.finals.length cf))) (S' := upto ((((((wo.setCell ⟨w.heap.size, 0, none⟩ (.int .i64 d.inn)).setCell ⟨w.heap.size, 1, none⟩ (.int .i64 d.out)).setCell ⟨w.heap.size, 2, none⟩ (.int .i64 d.states)).setCell ⟨w.heap.size, 3, none⟩ (.int .i64 d.start)).setCell ⟨w.heap.size, 4, none⟩ (.slice Ar d.rules.length cr)).setCell ⟨w.heap.size, 5, none⟩ (.slice Af d.finals.length cf)).heap.size) (fun g hg => hk g (hk2 g (.inl (HD.out.rules.tag g hg).2))) (fun q hq => cell_of_heap_eq (hk _ (hk2 _ (.inr hq)))) (fun g hg => by rw [hsz]; exact hg.lt)).rel (fun g hg => hg) (fun g hg => by rw [hsz]; exact (HD.out.rules.tag g hg).1.lt)
      have hDf : (listR finalR).rel ((((((wo.setCell ⟨w.heap.size, 0, none⟩ (.int .i64 d.inn)).setCell ⟨w.heap.size, 1, none⟩ (.int .i64 d.out)).setCell ⟨w.heap.size, 2, none⟩ (.int .i64 d.states)).setCell ⟨w.heap.size, 3, none⟩ (.int .i64 d.start)).setCell ⟨w.heap.size, 4, none⟩ (.slice Ar d.rules.length cr)).setCell ⟨w.heap.size, 5, none⟩ (.slice Af d.finals.length cf)) (upto ((((((wo.setCell ⟨w.heap.size, 0, none⟩ (.int .i64 d.inn)).setCell ⟨w.heap.size, 1, none⟩ (.int .i64 d.out)).setCell ⟨w.heap.size, 2, none⟩ (.int .i64 d.states)).setCell ⟨w.heap.size, 3, none⟩ (.int .i64 d.start)).setCell ⟨w.heap.size, 4, none⟩ (.slice Ar d.rules.length cr)).setCell ⟨w.heap.size, 5, none⟩ (.slice Af d.finals.length cf)).heap.size) [.slice Af d.finals.length cf] d.finals :=
        (HD.out.finals.keep (w' := ((((((wo.setCell ⟨w.heap.size, 0, none⟩ (.int .i64 d.inn)).setCell ⟨w.heap.size, 1, none⟩ (.int .i64 d.out)).setCell ⟨w.heap.size, 2, none⟩ (.int .i64 d.states)).setCell ⟨w.heap.size, 3, none⟩ (.int .i64 d.start)).setCell ⟨w.heap.size, 4, none⟩ (.slice Ar d.rules.length cr)).setCell ⟨w.heap.size, 5, none⟩ (.slice Af d.finals.length cf))) (S' := upto ((((((wo.setCell ⟨w.heap.size, 0, none⟩ (.int .i64 d.inn)).setCell ⟨w.heap.size, 1, none⟩ (.int .i64 d.out)).setCell ⟨w.heap.size, 2, none⟩ (.int .i64 d.states)).setCell ⟨w.heap.size, 3, none⟩ (.int .i64 d.start)).setCell ⟨w.heap.size, 4, none⟩ (.slice Ar d.rules.length cr)).setCell ⟨w.heap.size, 5, none⟩ (.slice Af d.finals.length cf)).heap.size) (fun g hg => hk g (hk2 g (.inl (HD.out.finals.tag g hg).2))) (fun q hq => cell_of_heap_eq (hk _ (hk2 _ (.inr hq)))) (fun g hg => by rw [hsz]; exact hg.lt)).rel (fun g hg => hg) (fun g hg => by rw [hsz]; exact (HD.out.finals.tag g hg).1.lt)
      exact bodyPost_ret (v := .tuple #[.agg #[.int .i64 d.inn, .int .i64 d.out, .int .i64 d.states, .int .i64 d.start, .slice Ar d.rules.length cr, .slice Af d.finals.length cf], .int .i64 0, .int .i64 0]) (by simp [results, Tryd.results12, go_sem, c0, c1, c2, c3, c4, c5]) rfl (parse_ok HF.out ((((((hBw.setCell (p := ⟨w.heap.size, 0, none⟩) (Nat.le_refl _) _).setCell (p := ⟨w.heap.size, 1, none⟩) (Nat.le_refl _) _).setCell (p := ⟨w.heap.size, 2, none⟩) (Nat.le_refl _) _).setCell (p := ⟨w.heap.size, 3, none⟩) (Nat.le_refl _) _).setCell (p := ⟨w.heap.size, 4, none⟩) (Nat.le_refl _) _).setCell (p := ⟨w.heap.size, 5, none⟩) (Nat.le_refl _) _) hDr hDf HD.out.nums)
    · have hcond : ¬ (t.data.toList = [] ∧ n ≠ 1) := hend
      have HC := hid (Cut_calls t ht wo HV.out)
      by_cases ht0 : t.data.toList = []
      · have hn0 : n = 1 := by
          by_cases h : n = 1
          · exact h
          · exact absurd ⟨ht0, h⟩ hend
        have e1 : t.toList = [] := by rw [ByteArray.toList_eq]; exact ht0
        have e2 : t.toList.isEmpty = true := by rw [e1]; rfl
        have hcut : cutL t.data.toList = none := by rw [ht0]; rfl
        have HF : Hid (parseF (s.data.toList.length + 1) 1 d0 s.data.toList = .inr 1) := hid (by rw [← HPF.out, parseF, if_neg hcond, hcut, hn0])
        subst hn0
        rw [hcut] at HC
        clear ht0 hend hcond hcut
        go_wp2_with fail
        refine HC.out.mono ?_
        rintro e w1 ⟨x, y, z, rfl, ⟨k, rfl⟩, rfl⟩
        have c0 : wo.cell? ⟨w.heap.size, 0, none⟩ = some (.int .i64 0) := by rw [Lib.cell_of_heap HR.out]; rfl
        have c1 : wo.cell? ⟨w.heap.size, 1, none⟩ = some (.int .i64 0) := by rw [Lib.cell_of_heap HR.out]; rfl
        have c2 : wo.cell? ⟨w.heap.size, 2, none⟩ = some (.int .i64 0) := by rw [Lib.cell_of_heap HR.out]; rfl
        have c3 : wo.cell? ⟨w.heap.size, 3, none⟩ = some (.int .i64 0) := by rw [Lib.cell_of_heap HR.out]; rfl
        have c4 : wo.cell? ⟨w.heap.size, 4, none⟩ = some (.slice none 0 0) := by rw [Lib.cell_of_heap HR.out]; rfl
        have c5 : wo.cell? ⟨w.heap.size, 5, none⟩ = some (.slice none 0 0) := by rw [Lib.cell_of_heap HR.out]; rfl
        have f0 : wo.frozen? ⟨w.heap.size, 0, none⟩ = false := Lib.frozen_of_heap HR.out _
        have f1 : wo.frozen? ⟨w.heap.size, 1, none⟩ = false := Lib.frozen_of_heap HR.out _
        have f2 : wo.frozen? ⟨w.heap.size, 2, none⟩ = false := Lib.frozen_of_heap HR.out _
        have f3 : wo.frozen? ⟨w.heap.size, 3, none⟩ = false := Lib.frozen_of_heap HR.out _
        have f4 : wo.frozen? ⟨w.heap.size, 4, none⟩ = false := Lib.frozen_of_heap HR.out _
        have f5 : wo.frozen? ⟨w.heap.size, 5, none⟩ = false := Lib.frozen_of_heap HR.out _
        go_wp2_with fail
        exact bodyPost_ret (v := .tuple #[.agg #[.int .i64 0, .int .i64 0, .int .i64 0, .int .i64 0, .slice none 0 0, .slice none 0 0], .int .i64 1, .int .i64 9]) (by simp [results, Tryd.results12, go_sem, c0, c1, c2, c3, c4, c5]) rfl (parse_bad HF.out (((((((below_drewN hBw k).setCell (p := ⟨w.heap.size, 0, none⟩) (Nat.le_refl _) _).setCell (p := ⟨w.heap.size, 1, none⟩) (Nat.le_refl _) _).setCell (p := ⟨w.heap.size, 2, none⟩) (Nat.le_refl _) _).setCell (p := ⟨w.heap.size, 3, none⟩) (Nat.le_refl _) _).setCell (p := ⟨w.heap.size, 4, none⟩) (Nat.le_refl _) _).setCell (p := ⟨w.heap.size, 5, none⟩) (Nat.le_refl _) _))
      · have e1 : ¬ t.toList = [] := by rw [ByteArray.toList_eq]; exact ht0
        have e2 : t.toList.isEmpty = false := by rw [ByteArray.toList_eq]; simpa using ht0
        cases hcut : cutL t.data.toList with
        | none =>
          have HF : Hid (parseF (s.data.toList.length + 1) 1 d0 s.data.toList = .inr n) := hid (by rw [← HPF.out, parseF, if_neg hcond, hcut])
          rw [hcut] at HC
          clear ht0 hend hcond hcut
          go_wp2_with fail
          refine HC.out.mono ?_
          rintro e w1 ⟨x, y, z, rfl, ⟨k, rfl⟩, rfl⟩
          have c0 : wo.cell? ⟨w.heap.size, 0, none⟩ = some (.int .i64 0) := by rw [Lib.cell_of_heap HR.out]; rfl
          have c1 : wo.cell? ⟨w.heap.size, 1, none⟩ = some (.int .i64 0) := by rw [Lib.cell_of_heap HR.out]; rfl
          have c2 : wo.cell? ⟨w.heap.size, 2, none⟩ = some (.int .i64 0) := by rw [Lib.cell_of_heap HR.out]; rfl
          have c3 : wo.cell? ⟨w.heap.size, 3, none⟩ = some (.int .i64 0) := by rw [Lib.cell_of_heap HR.out]; rfl
          have c4 : wo.cell? ⟨w.heap.size, 4, none⟩ = some (.slice none 0 0) := by rw [Lib.cell_of_heap HR.out]; rfl
          have c5 : wo.cell? ⟨w.heap.size, 5, none⟩ = some (.slice none 0 0) := by rw [Lib.cell_of_heap HR.out]; rfl
          have f0 : wo.frozen? ⟨w.heap.size, 0, none⟩ = false := Lib.frozen_of_heap HR.out _
          have f1 : wo.frozen? ⟨w.heap.size, 1, none⟩ = false := Lib.frozen_of_heap HR.out _
          have f2 : wo.frozen? ⟨w.heap.size, 2, none⟩ = false := Lib.frozen_of_heap HR.out _
          have f3 : wo.frozen? ⟨w.heap.size, 3, none⟩ = false := Lib.frozen_of_heap HR.out _
          have f4 : wo.frozen? ⟨w.heap.size, 4, none⟩ = false := Lib.frozen_of_heap HR.out _
          have f5 : wo.frozen? ⟨w.heap.size, 5, none⟩ = false := Lib.frozen_of_heap HR.out _
          go_wp2_with fail
          exact bodyPost_ret (v := .tuple #[.agg #[.int .i64 0, .int .i64 0, .int .i64 0, .int .i64 0, .slice none 0 0, .slice none 0 0], .int .i64 n, .int .i64 9]) (by simp [results, Tryd.results12, go_sem, c0, c1, c2, c3, c4, c5]) rfl (parse_bad HF.out (((((((below_drewN hBw k).setCell (p := ⟨w.heap.size, 0, none⟩) (Nat.le_refl _) _).setCell (p := ⟨w.heap.size, 1, none⟩) (Nat.le_refl _) _).setCell (p := ⟨w.heap.size, 2, none⟩) (Nat.le_refl _) _).setCell (p := ⟨w.heap.size, 3, none⟩) (Nat.le_refl _) _).setCell (p := ⟨w.heap.size, 4, none⟩) (Nat.le_refl _) _).setCell (p := ⟨w.heap.size, 5, none⟩) (Nat.le_refl _) _))
        | some lr =>
          obtain ⟨l, r⟩ := lr
          obtain ⟨hteq, _, hrl⟩ := cutL_some hcut
          have hll : l.length < t.data.toList.length := by rw [hteq]; simp [nl]
          rw [sizeL] at hll hrl
          rw [hcut] at HC
          have HPF2 : Hid ((match lineF (decide (n = 1)) d l with | none => .inr n | some d' => parseF m' (n + 1) d' r) = parseF (s.data.toList.length + 1) 1 d0 s.data.toList) := hid (by rw [← HPF.out, parseF, if_neg hcond, hcut]; rfl)
          clear ht0 hend hcond hcut hteq HPF
          go_wp2_with fail
          refine HC.out.mono ?_
          rintro e w1 ⟨x, y, z, rfl, ⟨k, rfl⟩, rfl, hx, hy⟩
          have hxs : x.size ≤ 65536 := by have := sizeL x; rw [hx] at this; omega
          have hyr : y.size = r.length := by have := sizeL y; rw [hy] at this; omega
          have HYR := hid hyr
          have HY := hid hy
          have hys : y.size < t.size := by omega
          have hDk := hid (HD.out.later (below_drewN (Below.refl _ _) k))
          have HVk := hid (HV.out.on (below_drewN (Below.refl _ _) k))
          have hlc := line_calls (w.heap.size + 1) (w.heap.size + 1) w.heap.size (by omega) x hxs (decide (n = 1)) d vr vf (wo.drewN k) hDk.out HVk.out (by omega) (by omega)
          rw [hx] at hlc
          have HLC := hid hlc
          clear hx hy hlc hyr
          by_cases hn0 : n = 1
          · have e5 : ((n : Int) == 1) = true := by simp [hn0]
            have e6 : (n == 1) = true := by simp [hn0]
            have e7 : decide (n = 1) = true := by simp [hn0]
            rw [e7] at HLC HPF2
            have HN0 := hid hn0
            clear hn0 e7
            cases hline : lineF true d l with
            | none =>
              have HF : Hid (parseF (s.data.toList.length + 1) 1 d0 s.data.toList = .inr n) := hid (by rw [← HPF2.out, hline])
              have HLN := hid hline
              clear hline
              go_wp2_with fail
              refine HLC.out.mono ?_
              rintro e w3 ⟨he, _, hb3⟩
              rw [HLN.out] at he
              subst he
              have HR := hid ((hb3.block _ (Nat.lt_succ_self _)).trans HR.out)
              have hbE : Below w.heap.size w w3 := hBw.trans ((below_drewN (Below.refl _ _) k).trans (hb3.mono (by omega)))
              have c0 : w3.cell? ⟨w.heap.size, 0, none⟩ = some (.int .i64 0) := by rw [Lib.cell_of_heap HR.out]; rfl
              have c1 : w3.cell? ⟨w.heap.size, 1, none⟩ = some (.int .i64 0) := by rw [Lib.cell_of_heap HR.out]; rfl
              have c2 : w3.cell? ⟨w.heap.size, 2, none⟩ = some (.int .i64 0) := by rw [Lib.cell_of_heap HR.out]; rfl
              have c3 : w3.cell? ⟨w.heap.size, 3, none⟩ = some (.int .i64 0) := by rw [Lib.cell_of_heap HR.out]; rfl
              have c4 : w3.cell? ⟨w.heap.size, 4, none⟩ = some (.slice none 0 0) := by rw [Lib.cell_of_heap HR.out]; rfl
              have c5 : w3.cell? ⟨w.heap.size, 5, none⟩ = some (.slice none 0 0) := by rw [Lib.cell_of_heap HR.out]; rfl
              have f0 : w3.frozen? ⟨w.heap.size, 0, none⟩ = false := Lib.frozen_of_heap HR.out _
              have f1 : w3.frozen? ⟨w.heap.size, 1, none⟩ = false := Lib.frozen_of_heap HR.out _
              have f2 : w3.frozen? ⟨w.heap.size, 2, none⟩ = false := Lib.frozen_of_heap HR.out _
              have f3 : w3.frozen? ⟨w.heap.size, 3, none⟩ = false := Lib.frozen_of_heap HR.out _
              have f4 : w3.frozen? ⟨w.heap.size, 4, none⟩ = false := Lib.frozen_of_heap HR.out _
              have f5 : w3.frozen? ⟨w.heap.size, 5, none⟩ = false := Lib.frozen_of_heap HR.out _
              go_wp2_with fail
              exact bodyPost_ret (v := .tuple #[.agg #[.int .i64 0, .int .i64 0, .int .i64 0, .int .i64 0, .slice none 0 0, .slice none 0 0], .int .i64 n, .int .i64 9]) (by simp [results, Tryd.results12, go_sem, c0, c1, c2, c3, c4, c5]) rfl (parse_bad HF.out ((((((hbE.setCell (p := ⟨w.heap.size, 0, none⟩) (Nat.le_refl _) _).setCell (p := ⟨w.heap.size, 1, none⟩) (Nat.le_refl _) _).setCell (p := ⟨w.heap.size, 2, none⟩) (Nat.le_refl _) _).setCell (p := ⟨w.heap.size, 3, none⟩) (Nat.le_refl _) _).setCell (p := ⟨w.heap.size, 4, none⟩) (Nat.le_refl _) _).setCell (p := ⟨w.heap.size, 5, none⟩) (Nat.le_refl _) _))
            | some d' =>
              have hgr := line_grows hline
              have HPF3 : Hid (parseF m' (n + 1) d' r = parseF (s.data.toList.length + 1) 1 d0 s.data.toList) := hid (by rw [← HPF2.out, hline])
              have HLN := hid hline
              clear hline
              go_wp2_with fail
              refine HLC.out.mono ?_
              rintro e w3 ⟨he, hd3, hb3⟩
              rw [HLN.out] at he
              subst he
              obtain ⟨vr', vf', hD3⟩ := hd3 d' HLN.out
              go_wp2_with fail
              refine ⟨⟨y, n + 1, d', vr', vf', m', rfl, by go_num, by omega, hD3, hB.trans ((below_drewN (Below.refl _ _) k).trans hb3), by rw [HY.out]; exact HPF3.out, by omega, by omega, by omega, by omega, by omega⟩, ?_⟩
              simp only [strLen]; exact hys
          · have e5 : ((n : Int) == 1) = false := by simp; omega
            have e6 : (n == 1) = false := by simp [hn0]
            have e7 : decide (n = 1) = false := by simp [hn0]
            rw [e7] at HLC HPF2
            have HN0 := hid hn0
            clear hn0 e7
            cases hline : lineF false d l with
            | none =>
              have HF : Hid (parseF (s.data.toList.length + 1) 1 d0 s.data.toList = .inr n) := hid (by rw [← HPF2.out, hline])
              have HLN := hid hline
              clear hline
              go_wp2_with fail
              refine HLC.out.mono ?_
              rintro e w3 ⟨he, _, hb3⟩
              rw [HLN.out] at he
              subst he
              have HR := hid ((hb3.block _ (Nat.lt_succ_self _)).trans HR.out)
              have hbE : Below w.heap.size w w3 := hBw.trans ((below_drewN (Below.refl _ _) k).trans (hb3.mono (by omega)))
              have c0 : w3.cell? ⟨w.heap.size, 0, none⟩ = some (.int .i64 0) := by rw [Lib.cell_of_heap HR.out]; rfl
              have c1 : w3.cell? ⟨w.heap.size, 1, none⟩ = some (.int .i64 0) := by rw [Lib.cell_of_heap HR.out]; rfl
              have c2 : w3.cell? ⟨w.heap.size, 2, none⟩ = some (.int .i64 0) := by rw [Lib.cell_of_heap HR.out]; rfl
              have c3 : w3.cell? ⟨w.heap.size, 3, none⟩ = some (.int .i64 0) := by rw [Lib.cell_of_heap HR.out]; rfl
              have c4 : w3.cell? ⟨w.heap.size, 4, none⟩ = some (.slice none 0 0) := by rw [Lib.cell_of_heap HR.out]; rfl
              have c5 : w3.cell? ⟨w.heap.size, 5, none⟩ = some (.slice none 0 0) := by rw [Lib.cell_of_heap HR.out]; rfl
              have f0 : w3.frozen? ⟨w.heap.size, 0, none⟩ = false := Lib.frozen_of_heap HR.out _
              have f1 : w3.frozen? ⟨w.heap.size, 1, none⟩ = false := Lib.frozen_of_heap HR.out _
              have f2 : w3.frozen? ⟨w.heap.size, 2, none⟩ = false := Lib.frozen_of_heap HR.out _
              have f3 : w3.frozen? ⟨w.heap.size, 3, none⟩ = false := Lib.frozen_of_heap HR.out _
              have f4 : w3.frozen? ⟨w.heap.size, 4, none⟩ = false := Lib.frozen_of_heap HR.out _
              have f5 : w3.frozen? ⟨w.heap.size, 5, none⟩ = false := Lib.frozen_of_heap HR.out _
              go_wp2_with fail
              exact bodyPost_ret (v := .tuple #[.agg #[.int .i64 0, .int .i64 0, .int .i64 0, .int .i64 0, .slice none 0 0, .slice none 0 0], .int .i64 n, .int .i64 9]) (by simp [results, Tryd.results12, go_sem, c0, c1, c2, c3, c4, c5]) rfl (parse_bad HF.out ((((((hbE.setCell (p := ⟨w.heap.size, 0, none⟩) (Nat.le_refl _) _).setCell (p := ⟨w.heap.size, 1, none⟩) (Nat.le_refl _) _).setCell (p := ⟨w.heap.size, 2, none⟩) (Nat.le_refl _) _).setCell (p := ⟨w.heap.size, 3, none⟩) (Nat.le_refl _) _).setCell (p := ⟨w.heap.size, 4, none⟩) (Nat.le_refl _) _).setCell (p := ⟨w.heap.size, 5, none⟩) (Nat.le_refl _) _))
            | some d' =>
              have hgr := line_grows hline
              have HPF3 : Hid (parseF m' (n + 1) d' r = parseF (s.data.toList.length + 1) 1 d0 s.data.toList) := hid (by rw [← HPF2.out, hline])
              have HLN := hid hline
              clear hline
              go_wp2_with fail
              refine HLC.out.mono ?_
              rintro e w3 ⟨he, hd3, hb3⟩
              rw [HLN.out] at he
              subst he
              obtain ⟨vr', vf', hD3⟩ := hd3 d' HLN.out
              go_wp2_with fail
              refine ⟨⟨y, n + 1, d', vr', vf', m', rfl, by go_num, by omega, hD3, hB.trans ((below_drewN (Below.refl _ _) k).trans hb3), by rw [HY.out]; exact HPF3.out, by omega, by omega, by omega, by omega, by omega⟩, ?_⟩
              simp only [strLen]; exact hys
end Go.Proofs.YtcdnkmefcldfmaaDoor
