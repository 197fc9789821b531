/-
  The reference's line: a final's; and every line.
-/
import Derived.Test.YtcdnkmefcldfmaaDoorPgQg
namespace Go.Proofs.YtcdnkmefcldfmaaDoor
open Go.RowKit Go.Um

set_option maxHeartbeats 2000000 in
set_option maxRecDepth 100000 in
theorem rline_final (base : Nat) (s : ByteArray) (hs : s.size ≤ 65536) (d : Desc) (vr vf : Value) (w : World) (h : DescV base d w vr vf) (hbw : base ≤ w.heap.size) (hn : d.finals.length ≤ 70000) (hl1 : lit [114, 117, 108, 101, 32] s.data.toList = none) :
    Calls Tryd.prog 30 #[aggD d vr vf, .string s, .bool false] w (RLinePost base false d s.data.toList w) := by
  obtain ⟨infF, hiF, hf0, hf1, hf2⟩ := info_parts infoFn
  obtain ⟨⟨Ar, cr, rfl⟩, Af, cf, rfl⟩ := h.form
  obtain ⟨w0, hw0⟩ : ∃ w0, w0 = (w.alloc (.cells #[.int .i64 d.inn, .int .i64 d.out, .int .i64 d.states, .int .i64 d.start, .slice Ar d.rules.length cr, .slice Af d.finals.length cf] 26)).alloc (.cells #[.int .i64 0, .int .i64 0, .int .i64 0, .int .i64 0, .slice none 0 0, .slice none 0 0] 26) := ⟨_, rfl⟩
  have hB0 : Below w.heap.size w w0 := by rw [hw0]; exact ((Below.refl _ _).alloc (Nat.le_refl _) _).alloc (by simp) _
  have hX0 : w0.heap[w.heap.size]? = some (.cells #[.int .i64 d.inn, .int .i64 d.out, .int .i64 d.states, .int .i64 d.start, .slice Ar d.rules.length cr, .slice Af d.finals.length cf] 26 (0, 0)) := by rw [hw0, Below.heap_alloc _ _ _ (by simp)]; exact heap_alloc_new _ _
  have hR0 : w0.heap[w.heap.size + 1]? = some (.cells #[.int .i64 0, .int .i64 0, .int .i64 0, .int .i64 0, .slice none 0 0, .slice none 0 0] 26 (0, 0)) := by
    have := heap_alloc_new (w.alloc (.cells #[.int .i64 d.inn, .int .i64 d.out, .int .i64 d.states, .int .i64 d.start, .slice Ar d.rules.length cr, .slice Af d.finals.length cf] 26)) (.cells #[.int .i64 0, .int .i64 0, .int .i64 0, .int .i64 0, .slice none 0 0, .slice none 0 0] 26)
    rw [hw0]
    simpa using this
  have HD0 : Hid (DescAt base w.heap.size d w0 (.slice Ar d.rules.length cr) (.slice Af d.finals.length cf)) := hid ((h.later hB0).at hX0 hbw)
  have hs0 : w.heap.size + 2 ≤ w0.heap.size := by rw [hw0]; simp
  have HB0 := hid hB0
  have HX0 := hid hX0
  have HR0 := hid hR0
  have HW0 := hid hw0
  clear h hB0 hX0 hR0 hw0
  have HLE := hid (line_final_eq (d := d) (l := s.data.toList) (by rw [hl1]; split <;> rfl))
  have HL1 := hid hl1
  clear hl1
  unfold aggD
  go_enter Tryd.func30, Tryd.ntmps30
  go_wp2_with fail
  rw [← HW0.out]
  clear HW0
  refine (rtext2 s 0 ⟨#[114, 117, 108, 101, 32]⟩ (Nat.zero_le _) hs (by decide) _).mono ?_
  rintro e w1 ⟨rfl, i', okr, rfl, hatsr, -, -⟩
  have hokr : okr = false := by
    have h1 := hatsr.2.1
    rw [show lit (⟨#[114, 117, 108, 101, 32]⟩ : ByteArray).data.toList (rest s 0) = none from HL1.out] at h1
    exact h1
  subst hokr
  clear hatsr
  go_wp2_with fail
  refine (rtext2 s 0 ⟨#[102, 105, 110, 97, 108, 32]⟩ (Nat.zero_le _) hs (by decide) _).mono ?_
  rintro e w1' ⟨rfl, i, ok0, rfl, hats0, -, -⟩
  have his := hats0.1
  go_wp2_with fail
  refine (rnumber_calls s i his hs _).mono ?_
  rintro e w2 ⟨hb2, x0, k1, ok1, st1, rfl, hIx, hfin1, hats1⟩
  have hk1s := hats1.1
  obtain ⟨st2, hf2', hats2⟩ := AtS.fin hats0 hfin1 hats1
  go_wp2_with fail
  refine (rguards_calls s k1 hk1s hs _).mono ?_
  rintro e w3 ⟨hb3, vg, k2, ok2, stg, gs, rfl, hfg, hatsg, hgg, hgb⟩
  have hk2s := hatsg.1
  obtain ⟨st3, hf3, hats3⟩ := AtS.fin (f := fun l => guardsF2 (l.length + 1) l) hats2 hfg hatsg
  have HGG := hid hgg
  have HGB := hid hgb
  have HF3 := hid hf3
  have HATS3 := hid hats3
  have HFIN1 : Hid (Fin st2 ((lit [102, 105, 110, 97, 108, 32] s.data.toList).bind numF) x0) := hid hf2'
  clear hgg hgb hfg hatsg hats0 hats1 hats2 hf3 hats3 hfin1 hf2'
  go_wp2_with fail
  refine (rterms_calls s k2 hk2s hs _).mono ?_
  rintro e w4 ⟨hb4, vt, ok3, ts, rfl, ht1, ht2⟩
  have HT1 := hid ht1
  have HRES0 := hid (final_res2 (ok3 := ok3) (ts := ts) HFIN1.out HF3.out HATS3.out (fun h => (ht1 h).1) ht2)
  have hb04 : Below w1'.heap.size w1' w4 := hb2.trans ((hb3.trans (hb4.mono hb3.size)).mono hb2.size)
  have hbE : Below base w w4 := (HB0.out.mono hbw).trans (hb04.mono (by omega))
  have HXE := hid ((hb04.block w.heap.size (by omega)).trans HX0.out)
  have HRE := hid ((hb04.block (w.heap.size + 1) (by omega)).trans HR0.out)
  have hsz4 := hb04.size
  clear ht1 ht2
  obtain ⟨Ag, ng, cg, rfl⟩ : ∃ A n c, vg = .slice A n c := by
    cases ok2 with
    | false => exact ⟨_, _, _, HGB.out rfl⟩
    | true => obtain ⟨A, c, h2, _⟩ := list_form (HGG.out rfl); exact ⟨A, _, c, h2⟩
  cases ok0 with
  | false =>
    have HRES : Hid ((false = true → (lit [102, 105, 110, 97, 108, 32] s.data.toList).bind finalF = some ⟨x0, gs, ts⟩) ∧ (false = false → (lit [102, 105, 110, 97, 108, 32] s.data.toList).bind finalF = none)) := hid HRES0.out
    have HN : Hid (lineF false d s.data.toList = none) := hid (by rw [HLE.out, HRES.out.2 rfl]; rfl)
    have c0 : w4.cell? ⟨w.heap.size, 0, none⟩ = some (.int .i64 d.inn) := by rw [Lib.cell_of_heap HXE.out]; rfl
    have c1 : w4.cell? ⟨w.heap.size, 1, none⟩ = some (.int .i64 d.out) := by rw [Lib.cell_of_heap HXE.out]; rfl
    have c2 : w4.cell? ⟨w.heap.size, 2, none⟩ = some (.int .i64 d.states) := by rw [Lib.cell_of_heap HXE.out]; rfl
    have c3 : w4.cell? ⟨w.heap.size, 3, none⟩ = some (.int .i64 d.start) := by rw [Lib.cell_of_heap HXE.out]; rfl
    have c4 : w4.cell? ⟨w.heap.size, 4, none⟩ = some (.slice Ar d.rules.length cr) := by rw [Lib.cell_of_heap HXE.out]; rfl
    have c5 : w4.cell? ⟨w.heap.size, 5, none⟩ = some (.slice Af d.finals.length cf) := by rw [Lib.cell_of_heap HXE.out]; rfl
    have r0 : w4.cell? ⟨w.heap.size + 1, 0, none⟩ = some (.int .i64 0) := by rw [Lib.cell_of_heap HRE.out]; rfl
    have r1 : w4.cell? ⟨w.heap.size + 1, 1, none⟩ = some (.int .i64 0) := by rw [Lib.cell_of_heap HRE.out]; rfl
    have r2 : w4.cell? ⟨w.heap.size + 1, 2, none⟩ = some (.int .i64 0) := by rw [Lib.cell_of_heap HRE.out]; rfl
    have r3 : w4.cell? ⟨w.heap.size + 1, 3, none⟩ = some (.int .i64 0) := by rw [Lib.cell_of_heap HRE.out]; rfl
    have r4 : w4.cell? ⟨w.heap.size + 1, 4, none⟩ = some (.slice none 0 0) := by rw [Lib.cell_of_heap HRE.out]; rfl
    have r5 : w4.cell? ⟨w.heap.size + 1, 5, none⟩ = some (.slice none 0 0) := by rw [Lib.cell_of_heap HRE.out]; rfl
    have rf0 : w4.frozen? ⟨w.heap.size + 1, 0, none⟩ = false := Lib.frozen_of_heap HRE.out _
    have rf1 : w4.frozen? ⟨w.heap.size + 1, 1, none⟩ = false := Lib.frozen_of_heap HRE.out _
    have rf2 : w4.frozen? ⟨w.heap.size + 1, 2, none⟩ = false := Lib.frozen_of_heap HRE.out _
    have rf3 : w4.frozen? ⟨w.heap.size + 1, 3, none⟩ = false := Lib.frozen_of_heap HRE.out _
    have rf4 : w4.frozen? ⟨w.heap.size + 1, 4, none⟩ = false := Lib.frozen_of_heap HRE.out _
    have rf5 : w4.frozen? ⟨w.heap.size + 1, 5, none⟩ = false := Lib.frozen_of_heap HRE.out _
    go_wp2_with fail
    exact bodyPost_ret (v := .tuple #[.agg #[.int .i64 d.inn, .int .i64 d.out, .int .i64 d.states, .int .i64 d.start, .slice Ar d.rules.length cr, .slice Af d.finals.length cf], .bool false]) (by simp [results, Tryd.results30, go_sem, r0, r1, r2, r3, r4, r5]) rfl (rline_none (d2 := d) HN.out (set6_below hbE (by omega)))
  | true =>
    cases ok1 with
    | false =>
      have HRES : Hid ((false = true → (lit [102, 105, 110, 97, 108, 32] s.data.toList).bind finalF = some ⟨x0, gs, ts⟩) ∧ (false = false → (lit [102, 105, 110, 97, 108, 32] s.data.toList).bind finalF = none)) := hid HRES0.out
      have HN : Hid (lineF false d s.data.toList = none) := hid (by rw [HLE.out, HRES.out.2 rfl]; rfl)
      have c0 : w4.cell? ⟨w.heap.size, 0, none⟩ = some (.int .i64 d.inn) := by rw [Lib.cell_of_heap HXE.out]; rfl
      have c1 : w4.cell? ⟨w.heap.size, 1, none⟩ = some (.int .i64 d.out) := by rw [Lib.cell_of_heap HXE.out]; rfl
      have c2 : w4.cell? ⟨w.heap.size, 2, none⟩ = some (.int .i64 d.states) := by rw [Lib.cell_of_heap HXE.out]; rfl
      have c3 : w4.cell? ⟨w.heap.size, 3, none⟩ = some (.int .i64 d.start) := by rw [Lib.cell_of_heap HXE.out]; rfl
      have c4 : w4.cell? ⟨w.heap.size, 4, none⟩ = some (.slice Ar d.rules.length cr) := by rw [Lib.cell_of_heap HXE.out]; rfl
      have c5 : w4.cell? ⟨w.heap.size, 5, none⟩ = some (.slice Af d.finals.length cf) := by rw [Lib.cell_of_heap HXE.out]; rfl
      have r0 : w4.cell? ⟨w.heap.size + 1, 0, none⟩ = some (.int .i64 0) := by rw [Lib.cell_of_heap HRE.out]; rfl
      have r1 : w4.cell? ⟨w.heap.size + 1, 1, none⟩ = some (.int .i64 0) := by rw [Lib.cell_of_heap HRE.out]; rfl
      have r2 : w4.cell? ⟨w.heap.size + 1, 2, none⟩ = some (.int .i64 0) := by rw [Lib.cell_of_heap HRE.out]; rfl
      have r3 : w4.cell? ⟨w.heap.size + 1, 3, none⟩ = some (.int .i64 0) := by rw [Lib.cell_of_heap HRE.out]; rfl
      have r4 : w4.cell? ⟨w.heap.size + 1, 4, none⟩ = some (.slice none 0 0) := by rw [Lib.cell_of_heap HRE.out]; rfl
      have r5 : w4.cell? ⟨w.heap.size + 1, 5, none⟩ = some (.slice none 0 0) := by rw [Lib.cell_of_heap HRE.out]; rfl
      have rf0 : w4.frozen? ⟨w.heap.size + 1, 0, none⟩ = false := Lib.frozen_of_heap HRE.out _
      have rf1 : w4.frozen? ⟨w.heap.size + 1, 1, none⟩ = false := Lib.frozen_of_heap HRE.out _
      have rf2 : w4.frozen? ⟨w.heap.size + 1, 2, none⟩ = false := Lib.frozen_of_heap HRE.out _
      have rf3 : w4.frozen? ⟨w.heap.size + 1, 3, none⟩ = false := Lib.frozen_of_heap HRE.out _
      have rf4 : w4.frozen? ⟨w.heap.size + 1, 4, none⟩ = false := Lib.frozen_of_heap HRE.out _
      have rf5 : w4.frozen? ⟨w.heap.size + 1, 5, none⟩ = false := Lib.frozen_of_heap HRE.out _
      go_wp2_with fail
      exact bodyPost_ret (v := .tuple #[.agg #[.int .i64 d.inn, .int .i64 d.out, .int .i64 d.states, .int .i64 d.start, .slice Ar d.rules.length cr, .slice Af d.finals.length cf], .bool false]) (by simp [results, Tryd.results30, go_sem, r0, r1, r2, r3, r4, r5]) rfl (rline_none (d2 := d) HN.out (set6_below hbE (by omega)))
    | true =>
      cases ok2 with
      | false =>
        have HRES : Hid ((false = true → (lit [102, 105, 110, 97, 108, 32] s.data.toList).bind finalF = some ⟨x0, gs, ts⟩) ∧ (false = false → (lit [102, 105, 110, 97, 108, 32] s.data.toList).bind finalF = none)) := hid HRES0.out
        have HN : Hid (lineF false d s.data.toList = none) := hid (by rw [HLE.out, HRES.out.2 rfl]; rfl)
        have c0 : w4.cell? ⟨w.heap.size, 0, none⟩ = some (.int .i64 d.inn) := by rw [Lib.cell_of_heap HXE.out]; rfl
        have c1 : w4.cell? ⟨w.heap.size, 1, none⟩ = some (.int .i64 d.out) := by rw [Lib.cell_of_heap HXE.out]; rfl
        have c2 : w4.cell? ⟨w.heap.size, 2, none⟩ = some (.int .i64 d.states) := by rw [Lib.cell_of_heap HXE.out]; rfl
        have c3 : w4.cell? ⟨w.heap.size, 3, none⟩ = some (.int .i64 d.start) := by rw [Lib.cell_of_heap HXE.out]; rfl
        have c4 : w4.cell? ⟨w.heap.size, 4, none⟩ = some (.slice Ar d.rules.length cr) := by rw [Lib.cell_of_heap HXE.out]; rfl
        have c5 : w4.cell? ⟨w.heap.size, 5, none⟩ = some (.slice Af d.finals.length cf) := by rw [Lib.cell_of_heap HXE.out]; rfl
        have r0 : w4.cell? ⟨w.heap.size + 1, 0, none⟩ = some (.int .i64 0) := by rw [Lib.cell_of_heap HRE.out]; rfl
        have r1 : w4.cell? ⟨w.heap.size + 1, 1, none⟩ = some (.int .i64 0) := by rw [Lib.cell_of_heap HRE.out]; rfl
        have r2 : w4.cell? ⟨w.heap.size + 1, 2, none⟩ = some (.int .i64 0) := by rw [Lib.cell_of_heap HRE.out]; rfl
        have r3 : w4.cell? ⟨w.heap.size + 1, 3, none⟩ = some (.int .i64 0) := by rw [Lib.cell_of_heap HRE.out]; rfl
        have r4 : w4.cell? ⟨w.heap.size + 1, 4, none⟩ = some (.slice none 0 0) := by rw [Lib.cell_of_heap HRE.out]; rfl
        have r5 : w4.cell? ⟨w.heap.size + 1, 5, none⟩ = some (.slice none 0 0) := by rw [Lib.cell_of_heap HRE.out]; rfl
        have rf0 : w4.frozen? ⟨w.heap.size + 1, 0, none⟩ = false := Lib.frozen_of_heap HRE.out _
        have rf1 : w4.frozen? ⟨w.heap.size + 1, 1, none⟩ = false := Lib.frozen_of_heap HRE.out _
        have rf2 : w4.frozen? ⟨w.heap.size + 1, 2, none⟩ = false := Lib.frozen_of_heap HRE.out _
        have rf3 : w4.frozen? ⟨w.heap.size + 1, 3, none⟩ = false := Lib.frozen_of_heap HRE.out _
        have rf4 : w4.frozen? ⟨w.heap.size + 1, 4, none⟩ = false := Lib.frozen_of_heap HRE.out _
        have rf5 : w4.frozen? ⟨w.heap.size + 1, 5, none⟩ = false := Lib.frozen_of_heap HRE.out _
        go_wp2_with fail
        exact bodyPost_ret (v := .tuple #[.agg #[.int .i64 d.inn, .int .i64 d.out, .int .i64 d.states, .int .i64 d.start, .slice Ar d.rules.length cr, .slice Af d.finals.length cf], .bool false]) (by simp [results, Tryd.results30, go_sem, r0, r1, r2, r3, r4, r5]) rfl (rline_none (d2 := d) HN.out (set6_below hbE (by omega)))
      | true =>
        cases ok3 with
        | false =>
          have HRES : Hid ((false = true → (lit [102, 105, 110, 97, 108, 32] s.data.toList).bind finalF = some ⟨x0, gs, ts⟩) ∧ (false = false → (lit [102, 105, 110, 97, 108, 32] s.data.toList).bind finalF = none)) := hid HRES0.out
          have HN : Hid (lineF false d s.data.toList = none) := hid (by rw [HLE.out, HRES.out.2 rfl]; rfl)
          have c0 : w4.cell? ⟨w.heap.size, 0, none⟩ = some (.int .i64 d.inn) := by rw [Lib.cell_of_heap HXE.out]; rfl
          have c1 : w4.cell? ⟨w.heap.size, 1, none⟩ = some (.int .i64 d.out) := by rw [Lib.cell_of_heap HXE.out]; rfl
          have c2 : w4.cell? ⟨w.heap.size, 2, none⟩ = some (.int .i64 d.states) := by rw [Lib.cell_of_heap HXE.out]; rfl
          have c3 : w4.cell? ⟨w.heap.size, 3, none⟩ = some (.int .i64 d.start) := by rw [Lib.cell_of_heap HXE.out]; rfl
          have c4 : w4.cell? ⟨w.heap.size, 4, none⟩ = some (.slice Ar d.rules.length cr) := by rw [Lib.cell_of_heap HXE.out]; rfl
          have c5 : w4.cell? ⟨w.heap.size, 5, none⟩ = some (.slice Af d.finals.length cf) := by rw [Lib.cell_of_heap HXE.out]; rfl
          have r0 : w4.cell? ⟨w.heap.size + 1, 0, none⟩ = some (.int .i64 0) := by rw [Lib.cell_of_heap HRE.out]; rfl
          have r1 : w4.cell? ⟨w.heap.size + 1, 1, none⟩ = some (.int .i64 0) := by rw [Lib.cell_of_heap HRE.out]; rfl
          have r2 : w4.cell? ⟨w.heap.size + 1, 2, none⟩ = some (.int .i64 0) := by rw [Lib.cell_of_heap HRE.out]; rfl
          have r3 : w4.cell? ⟨w.heap.size + 1, 3, none⟩ = some (.int .i64 0) := by rw [Lib.cell_of_heap HRE.out]; rfl
          have r4 : w4.cell? ⟨w.heap.size + 1, 4, none⟩ = some (.slice none 0 0) := by rw [Lib.cell_of_heap HRE.out]; rfl
          have r5 : w4.cell? ⟨w.heap.size + 1, 5, none⟩ = some (.slice none 0 0) := by rw [Lib.cell_of_heap HRE.out]; rfl
          have rf0 : w4.frozen? ⟨w.heap.size + 1, 0, none⟩ = false := Lib.frozen_of_heap HRE.out _
          have rf1 : w4.frozen? ⟨w.heap.size + 1, 1, none⟩ = false := Lib.frozen_of_heap HRE.out _
          have rf2 : w4.frozen? ⟨w.heap.size + 1, 2, none⟩ = false := Lib.frozen_of_heap HRE.out _
          have rf3 : w4.frozen? ⟨w.heap.size + 1, 3, none⟩ = false := Lib.frozen_of_heap HRE.out _
          have rf4 : w4.frozen? ⟨w.heap.size + 1, 4, none⟩ = false := Lib.frozen_of_heap HRE.out _
          have rf5 : w4.frozen? ⟨w.heap.size + 1, 5, none⟩ = false := Lib.frozen_of_heap HRE.out _
          go_wp2_with fail
          exact bodyPost_ret (v := .tuple #[.agg #[.int .i64 d.inn, .int .i64 d.out, .int .i64 d.states, .int .i64 d.start, .slice Ar d.rules.length cr, .slice Af d.finals.length cf], .bool false]) (by simp [results, Tryd.results30, go_sem, r0, r1, r2, r3, r4, r5]) rfl (rline_none (d2 := d) HN.out (set6_below hbE (by omega)))
        | true =>
          have HRES : Hid ((true = true → (lit [102, 105, 110, 97, 108, 32] s.data.toList).bind finalF = some ⟨x0, gs, ts⟩) ∧ (true = false → (lit [102, 105, 110, 97, 108, 32] s.data.toList).bind finalF = none)) := hid HRES0.out
          have hgs := HGG.out rfl
          have hts := (HT1.out rfl).2
          obtain ⟨A5, c5', hv5, _, _⟩ := list_form hgs
          injection hv5 with e1 e2 e3
          subst e1 e2 e3
          obtain ⟨A6, c6, rfl, _, _⟩ := list_form hts
          have HY : Hid (lineF false d s.data.toList = some (addE d ⟨x0, gs, ts⟩)) := hid (by rw [HLE.out, HRES.out.1 rfl]; rfl)
          have HD4 : Hid (DescAt base w.heap.size d w4 (.slice Ar d.rules.length cr) (.slice Af d.finals.length cf)) := hid (HD0.out.later hb04)
          have HGS := hid ((listR spansR).mono (w' := w4) (S' := Dat w4) (fun p hp => cell_of_heap_eq (hb4.block _ (hp.elim Tag.lt Tag.lt))) (fun g hg' => (show Dat w3 g from hg'.imp id .inl).keep (hb4.block g (hg'.elim Tag.lt Tag.lt))) hgs)
          have HTS := hid ((listR termR).mono (w' := w4) (S' := Dat w4) (fun _ _ => rfl) (fun g hg' => by rcases hg' with h1 | h1; exact .inr (.inr (.inl h1)); exact .inr (.inr (.inr h1))) hts)
          obtain ⟨css, hcl, hown, hel⟩ := HD4.out.finals
          clear hel
          have hrow : ∀ g, (Value.slice Af d.finals.length cf).ownBlock = some g → Tag 47 w4 g ∧ base ≤ g := fun g hg' => own_tag hown g hg'
          have c0 : w4.cell? ⟨w.heap.size, 0, none⟩ = some (.int .i64 d.inn) := by rw [Lib.cell_of_heap HXE.out]; rfl
          have c1 : w4.cell? ⟨w.heap.size, 1, none⟩ = some (.int .i64 d.out) := by rw [Lib.cell_of_heap HXE.out]; rfl
          have c2 : w4.cell? ⟨w.heap.size, 2, none⟩ = some (.int .i64 d.states) := by rw [Lib.cell_of_heap HXE.out]; rfl
          have c3 : w4.cell? ⟨w.heap.size, 3, none⟩ = some (.int .i64 d.start) := by rw [Lib.cell_of_heap HXE.out]; rfl
          have c4 : w4.cell? ⟨w.heap.size, 4, none⟩ = some (.slice Ar d.rules.length cr) := by rw [Lib.cell_of_heap HXE.out]; rfl
          have c5 : w4.cell? ⟨w.heap.size, 5, none⟩ = some (.slice Af d.finals.length cf) := by rw [Lib.cell_of_heap HXE.out]; rfl
          have hbxlt : w.heap.size < w4.heap.size := by omega
          have hbs : base ≤ w4.heap.size := by omega
          have hA7 : Below w4.heap.size w4 (w4.alloc (.cells #[.int .i64 x0, .slice Ag gs.length cg, .slice A6 ts.length c6] 47)) := (Below.refl _ _).alloc (Nat.le_refl _) _
          clear hgs hts
          go_wp2_with (at_builtin; refine Hid.out ?_)
          refine hid ?_
          refine wpList_append_own _ rfl _ _ 24 rfl base 47 infF _ 3 56 Tryd.underlying24 hiF hf0 hf1 hf2 rfl (by decide) _ _ _ rfl (hown.alloc _) ⟨w4.heap.size, 0, none⟩ 1 1 [.int .i64 x0, .slice Ag gs.length cg, .slice A6 ts.length c6] rfl rfl (news_at (w := w4) (cs := #[.int .i64 x0, .slice Ag gs.length cg, .slice A6 ts.length c6]) rfl) (by simp [Value.oneCell']) (by unfold maxLen; omega) (by omega) (by simp; omega) ?_
          intro v9 w9 hown9 hg9 _
          have hk9 := after_append hA7 hg9 (fun g hg => (hrow g hg).1)
          have hkp : w9.heap[w.heap.size]? = w4.heap[w.heap.size]? := hk9 _ hbxlt (fun ht => Tag.ne HD4.out.tag ht (by decide) rfl)
          have hkr : w9.heap[w.heap.size + 1]? = w4.heap[w.heap.size + 1]? := hk9 _ (by omega) (fun ht => Tag.ne (t := 26) (g := w.heap.size + 1) ⟨_, _, HRE.out⟩ ht (by decide) rfl)
          obtain ⟨A9, c9, rfl⟩ := row_form hown9
          have hp9 := hkp.trans HXE.out
          have HO9 := hid hown9
          have HG9 := hid hg9
          have h10 : ∀ g, g ≠ w.heap.size → (w9.setCell ⟨w.heap.size, 5, none⟩ (.slice A9 (d.finals.length + 1) c9)).heap[g]? = w9.heap[g]? := fun g hg => Below.heap_setCell _ _ _ _ hg
          have hp10 := heap_set w9 w.heap.size 5 (.slice A9 (d.finals.length + 1) c9) hp9
          have hb10 : Below base w (w9.setCell ⟨w.heap.size, 5, none⟩ (.slice A9 (d.finals.length + 1) c9)) := ((hbE.trans (hA7.mono hbs)).grown HG9.out (by have := hA7.size; omega) (fun g hg => (hrow g hg).2)).setCell (by show base ≤ w.heap.size; omega) _
          have hr10 := (h10 (w.heap.size + 1) (by omega)).trans (hkr.trans HRE.out)
          have HDE : Hid (DescAt base w.heap.size (addE d ⟨x0, gs, ts⟩) (w9.setCell ⟨w.heap.size, 5, none⟩ (.slice A9 (d.finals.length + 1) c9)) (.slice Ar d.rules.length cr) (.slice A9 (d.finals.length + 1) c9)) := hid (by
            refine DescAt.addFinal (w5 := w4) (wA := (w4.alloc (.cells #[.int .i64 x0, .slice Ag gs.length cg, .slice A6 ts.length c6] 47))) (w6 := w9) (cs := [.int .i64 x0, .slice Ag gs.length cg, .slice A6 ts.length c6]) HD4.out hA7 HG9.out hp10 h10 (fun css' hl' ho' => ?_) ?_
            · have e : css'.flatten = css.flatten := own_same ho' hown
              rw [e]
              exact HO9.out
            · exact ⟨_, _, rfl, hIx, HGS.out, HTS.out⟩)
          have HR10 := hid hr10
          have HB10 := hid hb10
          have z5 : w9.cell? ⟨w.heap.size, 5, none⟩ = some (.slice Af d.finals.length cf) := by rw [Lib.cell_of_heap hp9]; rfl
          have zf : w9.frozen? ⟨w.heap.size, 5, none⟩ = false := Lib.frozen_of_heap hp9 5
          have k0 : w9.cell? ⟨w.heap.size, 0, none⟩ = some (.int .i64 d.inn) := by rw [Lib.cell_of_heap hp9]; rfl
          have k1 : w9.cell? ⟨w.heap.size, 1, none⟩ = some (.int .i64 d.out) := by rw [Lib.cell_of_heap hp9]; rfl
          have k2 : w9.cell? ⟨w.heap.size, 2, none⟩ = some (.int .i64 d.states) := by rw [Lib.cell_of_heap hp9]; rfl
          have k3 : w9.cell? ⟨w.heap.size, 3, none⟩ = some (.int .i64 d.start) := by rw [Lib.cell_of_heap hp9]; rfl
          have k4 : w9.cell? ⟨w.heap.size, 4, none⟩ = some (.slice Ar d.rules.length cr) := by rw [Lib.cell_of_heap hp9]; rfl
          have r0 : w9.cell? ⟨w.heap.size + 1, 0, none⟩ = some (.int .i64 0) := by rw [Lib.cell_of_heap (hkr.trans HRE.out)]; rfl
          have r1 : w9.cell? ⟨w.heap.size + 1, 1, none⟩ = some (.int .i64 0) := by rw [Lib.cell_of_heap (hkr.trans HRE.out)]; rfl
          have r2 : w9.cell? ⟨w.heap.size + 1, 2, none⟩ = some (.int .i64 0) := by rw [Lib.cell_of_heap (hkr.trans HRE.out)]; rfl
          have r3 : w9.cell? ⟨w.heap.size + 1, 3, none⟩ = some (.int .i64 0) := by rw [Lib.cell_of_heap (hkr.trans HRE.out)]; rfl
          have r4 : w9.cell? ⟨w.heap.size + 1, 4, none⟩ = some (.slice none 0 0) := by rw [Lib.cell_of_heap (hkr.trans HRE.out)]; rfl
          have r5 : w9.cell? ⟨w.heap.size + 1, 5, none⟩ = some (.slice none 0 0) := by rw [Lib.cell_of_heap (hkr.trans HRE.out)]; rfl
          have rf0 : w9.frozen? ⟨w.heap.size + 1, 0, none⟩ = false := Lib.frozen_of_heap (hkr.trans HRE.out) _
          have rf1 : w9.frozen? ⟨w.heap.size + 1, 1, none⟩ = false := Lib.frozen_of_heap (hkr.trans HRE.out) _
          have rf2 : w9.frozen? ⟨w.heap.size + 1, 2, none⟩ = false := Lib.frozen_of_heap (hkr.trans HRE.out) _
          have rf3 : w9.frozen? ⟨w.heap.size + 1, 3, none⟩ = false := Lib.frozen_of_heap (hkr.trans HRE.out) _
          have rf4 : w9.frozen? ⟨w.heap.size + 1, 4, none⟩ = false := Lib.frozen_of_heap (hkr.trans HRE.out) _
          have rf5 : w9.frozen? ⟨w.heap.size + 1, 5, none⟩ = false := Lib.frozen_of_heap (hkr.trans HRE.out) _
          clear hrow hk9 h10 hp10 hr10 hb10 hown hown9 hg9 c0 c1 c2 c3 c4 c5
          go_wp2_with fail
          exact bodyPost_ret (v := .tuple #[.agg #[.int .i64 d.inn, .int .i64 d.out, .int .i64 d.states, .int .i64 d.start, .slice Ar d.rules.length cr, .slice A9 (d.finals.length + 1) c9], .bool true]) (by simp [results, Tryd.results30, go_sem, r0, r1, r2, r3, r4, r5]) rfl (rline_some (d2 := addE d ⟨x0, gs, ts⟩) HY.out (HDE.out.val.away ⟨_, _, HR10.out⟩ (fun g hg => set6_heap g hg)) (set6_below HB10.out (by omega)))

theorem rline_calls (base : Nat) (first : Bool) (s : ByteArray) (hs : s.size ≤ 65536) (d : Desc) (vr vf : Value) (w : World) (h : DescV base d w vr vf) (hbw : base ≤ w.heap.size) (hn : d.rules.length ≤ 70000) (hm : d.finals.length ≤ 70000) :
    Calls Tryd.prog 30 #[aggD d vr vf, .string s, .bool first] w (RLinePost base first d s.data.toList w) := by
  cases first with
  | true => exact rline_head base s hs d vr vf w h hbw
  | false =>
    cases hl : lit [114, 117, 108, 101, 32] s.data.toList with
    | none => exact rline_final base s hs d vr vf w h hbw hm hl
    | some l1 => exact rline_rule base s hs d vr vf w h hbw hn l1 hl
end Go.Proofs.YtcdnkmefcldfmaaDoor
