/-
  The reference's line: a rule's.
-/
import Derived.Test.YtcdnkmefcldfmaaDoorPgQf
namespace Go.Proofs.YtcdnkmefcldfmaaDoor
open Go.RowKit Go.Um

theorem no_final {l l1 : By} (h : lit [114, 117, 108, 101, 32] l = some l1) : lit [102, 105, 110, 97, 108, 32] l = none := by
  rw [(lit_some h).1]
  exact lit_none_cons (by decide)
theorem lineF_rule_none {d : Desc} {l l1 : By} (hl : lit [114, 117, 108, 101, 32] l = some l1) (h : ruleF l1 = none ∨ d.finals ≠ []) : lineF false d l = none := by
  by_cases hf : d.finals = []
  · exact line_rule_none hf hl (h.resolve_right (fun h2 => h2 hf))
  · rw [line_final_eq (by rw [if_neg hf]), no_final hl]
    rfl

set_option maxHeartbeats 2000000 in
set_option maxRecDepth 100000 in
theorem rline_rule (base : Nat) (s : ByteArray) (hs : s.size ≤ 65536) (d : Desc) (vr vf : Value) (w : World) (h : DescV base d w vr vf) (hbw : base ≤ w.heap.size) (hn : d.rules.length ≤ 70000) (l1 : By) (hl1 : lit [114, 117, 108, 101, 32] s.data.toList = some l1) :
    Calls Tryd.prog 30 #[aggD d vr vf, .string s, .bool false] w (RLinePost base false d s.data.toList w) := by
  obtain ⟨infR, hiR, hr0, hr1, hr2⟩ := info_parts infoRl
  obtain ⟨⟨Ar, cr, rfl⟩, Af, cf, rfl⟩ := h.form
  obtain ⟨w0, hw0⟩ : ∃ w0, w0 = (w.alloc (.cells #[.int .i64 d.inn, .int .i64 d.out, .int .i64 d.states, .int .i64 d.start, .slice Ar d.rules.length cr, .slice Af d.finals.length cf] 26)).alloc (.cells #[.int .i64 0, .int .i64 0, .int .i64 0, .int .i64 0, .slice none 0 0, .slice none 0 0] 26) := ⟨_, rfl⟩
  have hB0 : Below w.heap.size w w0 := by rw [hw0]; exact ((Below.refl _ _).alloc (Nat.le_refl _) _).alloc (by simp) _
  have hX0 : w0.heap[w.heap.size]? = some (.cells #[.int .i64 d.inn, .int .i64 d.out, .int .i64 d.states, .int .i64 d.start, .slice Ar d.rules.length cr, .slice Af d.finals.length cf] 26 (0, 0)) := by rw [hw0, Below.heap_alloc _ _ _ (by simp)]; exact heap_alloc_new _ _
  have hR0 : w0.heap[w.heap.size + 1]? = some (.cells #[.int .i64 0, .int .i64 0, .int .i64 0, .int .i64 0, .slice none 0 0, .slice none 0 0] 26 (0, 0)) := by
    have := heap_alloc_new (w.alloc (.cells #[.int .i64 d.inn, .int .i64 d.out, .int .i64 d.states, .int .i64 d.start, .slice Ar d.rules.length cr, .slice Af d.finals.length cf] 26)) (.cells #[.int .i64 0, .int .i64 0, .int .i64 0, .int .i64 0, .slice none 0 0, .slice none 0 0] 26)
    rw [hw0]
    simpa using this
  have HD0 : Hid (DescAt base w.heap.size d w0 (.slice Ar d.rules.length cr) (.slice Af d.finals.length cf)) := hid ((h.later hB0).at hX0 hbw)
  have hs0 : w.heap.size + 2 ≤ w0.heap.size := by rw [hw0]; simp
  have HB0 := hid hB0
  have HX0 := hid hX0
  have HR0 := hid hR0
  have HW0 := hid hw0
  clear h hB0 hX0 hR0 hw0
  have HL1 := hid hl1
  clear hl1
  unfold aggD
  go_enter Tryd.func30, Tryd.ntmps30
  go_wp2_with fail
  rw [← HW0.out]
  clear HW0
  refine (rtext2 s 0 ⟨#[114, 117, 108, 101, 32]⟩ (Nat.zero_le _) hs (by decide) _).mono ?_
  rintro e w1 ⟨rfl, i, ok0, rfl, hats0, -, -⟩
  have his := hats0.1
  have hok0 : ok0 = true := by
    have h1 := hats0.2.1
    rw [show lit (⟨#[114, 117, 108, 101, 32]⟩ : ByteArray).data.toList (rest s 0) = some l1 from HL1.out] at h1
    exact h1
  have hri : rest s i = l1 := (hats0.2.2 l1 HL1.out).symm
  subst hok0
  clear hats0
  go_wp2_with fail
  refine (rlist_calls s i 3 his hs (by decide) _).mono ?_
  rintro e w2 ⟨hb2, v1, k1, ok1, st1, xs, rfl, hfin1, hats1, hgood, hbadv⟩
  have hk1s := hats1.1
  rw [hri] at hfin1
  have HGOOD := hid hgood
  have HBADV := hid hbadv
  clear hgood hbadv
  go_wp2_with fail
  refine (rguards_calls s k1 hk1s hs _).mono ?_
  rintro e w3 ⟨hb3, vg, k2, ok2, stg, gs, rfl, hfg, hatsg, hgg, hgb⟩
  have hk2s := hatsg.1
  obtain ⟨st3, hf3, hats3⟩ := AtS.fin (f := fun l => guardsF2 (l.length + 1) l) hats1 hfg hatsg
  have HGG := hid hgg
  have HGB := hid hgb
  have HF3 := hid hf3
  have HATS3 := hid hats3
  have HFIN1 := hid hfin1
  clear hgg hgb hfg hatsg hats1 hf3 hats3 hfin1
  go_wp2_with fail
  refine (rterms_calls s k2 hk2s hs _).mono ?_
  rintro e w4 ⟨hb4, vt, ok3, ts, rfl, ht1, ht2⟩
  have HT1 := hid ht1
  have HRES0 := hid (rule_res2 (ok3 := ok3) (ts := ts) HFIN1.out HF3.out HATS3.out (fun h => (ht1 h).1) ht2)
  have hb04 : Below w1.heap.size w1 w4 := hb2.trans ((hb3.trans (hb4.mono hb3.size)).mono hb2.size)
  have hbE : Below base w w4 := (HB0.out.mono hbw).trans (hb04.mono (by omega))
  have HXE := hid ((hb04.block w.heap.size (by omega)).trans HX0.out)
  have HRE := hid ((hb04.block (w.heap.size + 1) (by omega)).trans HR0.out)
  have hsz4 := hb04.size
  clear ht1 ht2
  obtain ⟨A1, n1, c1, rfl⟩ : ∃ A n c, v1 = .slice A n c := by
    cases ok1 with
    | false => exact ⟨_, _, _, HBADV.out rfl⟩
    | true => obtain ⟨h1, _⟩ := HGOOD.out rfl; obtain ⟨A, c, h2⟩ := row_form h1; exact ⟨A, _, c, h2⟩
  obtain ⟨Ag, ng, cg, rfl⟩ : ∃ A n c, vg = .slice A n c := by
    cases ok2 with
    | false => exact ⟨_, _, _, HGB.out rfl⟩
    | true => obtain ⟨A, c, h2, _⟩ := list_form (HGG.out rfl); exact ⟨A, _, c, h2⟩
  cases ok1 with
  | false =>
    have HRES : Hid ((false = true → ruleF l1 = some (ruleOf gs ts xs)) ∧ (false = false → ruleF l1 = none)) := hid HRES0.out
    have HN : Hid (lineF false d s.data.toList = none) := hid (lineF_rule_none HL1.out (.inl (HRES.out.2 rfl)))
    have c0 : w4.cell? ⟨w.heap.size, 0, none⟩ = some (.int .i64 d.inn) := by rw [Lib.cell_of_heap HXE.out]; rfl
    have c1 : w4.cell? ⟨w.heap.size, 1, none⟩ = some (.int .i64 d.out) := by rw [Lib.cell_of_heap HXE.out]; rfl
    have c2 : w4.cell? ⟨w.heap.size, 2, none⟩ = some (.int .i64 d.states) := by rw [Lib.cell_of_heap HXE.out]; rfl
    have c3 : w4.cell? ⟨w.heap.size, 3, none⟩ = some (.int .i64 d.start) := by rw [Lib.cell_of_heap HXE.out]; rfl
    have c4 : w4.cell? ⟨w.heap.size, 4, none⟩ = some (.slice Ar d.rules.length cr) := by rw [Lib.cell_of_heap HXE.out]; rfl
    have c5 : w4.cell? ⟨w.heap.size, 5, none⟩ = some (.slice Af d.finals.length cf) := by rw [Lib.cell_of_heap HXE.out]; rfl
    have r0 : w4.cell? ⟨w.heap.size + 1, 0, none⟩ = some (.int .i64 0) := by rw [Lib.cell_of_heap HRE.out]; rfl
    have r1 : w4.cell? ⟨w.heap.size + 1, 1, none⟩ = some (.int .i64 0) := by rw [Lib.cell_of_heap HRE.out]; rfl
    have r2 : w4.cell? ⟨w.heap.size + 1, 2, none⟩ = some (.int .i64 0) := by rw [Lib.cell_of_heap HRE.out]; rfl
    have r3 : w4.cell? ⟨w.heap.size + 1, 3, none⟩ = some (.int .i64 0) := by rw [Lib.cell_of_heap HRE.out]; rfl
    have r4 : w4.cell? ⟨w.heap.size + 1, 4, none⟩ = some (.slice none 0 0) := by rw [Lib.cell_of_heap HRE.out]; rfl
    have r5 : w4.cell? ⟨w.heap.size + 1, 5, none⟩ = some (.slice none 0 0) := by rw [Lib.cell_of_heap HRE.out]; rfl
    have rf0 : w4.frozen? ⟨w.heap.size + 1, 0, none⟩ = false := Lib.frozen_of_heap HRE.out _
    have rf1 : w4.frozen? ⟨w.heap.size + 1, 1, none⟩ = false := Lib.frozen_of_heap HRE.out _
    have rf2 : w4.frozen? ⟨w.heap.size + 1, 2, none⟩ = false := Lib.frozen_of_heap HRE.out _
    have rf3 : w4.frozen? ⟨w.heap.size + 1, 3, none⟩ = false := Lib.frozen_of_heap HRE.out _
    have rf4 : w4.frozen? ⟨w.heap.size + 1, 4, none⟩ = false := Lib.frozen_of_heap HRE.out _
    have rf5 : w4.frozen? ⟨w.heap.size + 1, 5, none⟩ = false := Lib.frozen_of_heap HRE.out _
    go_wp2_with fail
    exact bodyPost_ret (v := .tuple #[.agg #[.int .i64 d.inn, .int .i64 d.out, .int .i64 d.states, .int .i64 d.start, .slice Ar d.rules.length cr, .slice Af d.finals.length cf], .bool false]) (by simp [results, Tryd.results30, go_sem, r0, r1, r2, r3, r4, r5]) rfl (rline_none (d2 := d) HN.out (set6_below hbE (by omega)))
  | true =>
    cases ok2 with
    | false =>
      have HRES : Hid ((false = true → ruleF l1 = some (ruleOf gs ts xs)) ∧ (false = false → ruleF l1 = none)) := hid HRES0.out
      have HN : Hid (lineF false d s.data.toList = none) := hid (lineF_rule_none HL1.out (.inl (HRES.out.2 rfl)))
      have c0 : w4.cell? ⟨w.heap.size, 0, none⟩ = some (.int .i64 d.inn) := by rw [Lib.cell_of_heap HXE.out]; rfl
      have c1 : w4.cell? ⟨w.heap.size, 1, none⟩ = some (.int .i64 d.out) := by rw [Lib.cell_of_heap HXE.out]; rfl
      have c2 : w4.cell? ⟨w.heap.size, 2, none⟩ = some (.int .i64 d.states) := by rw [Lib.cell_of_heap HXE.out]; rfl
      have c3 : w4.cell? ⟨w.heap.size, 3, none⟩ = some (.int .i64 d.start) := by rw [Lib.cell_of_heap HXE.out]; rfl
      have c4 : w4.cell? ⟨w.heap.size, 4, none⟩ = some (.slice Ar d.rules.length cr) := by rw [Lib.cell_of_heap HXE.out]; rfl
      have c5 : w4.cell? ⟨w.heap.size, 5, none⟩ = some (.slice Af d.finals.length cf) := by rw [Lib.cell_of_heap HXE.out]; rfl
      have r0 : w4.cell? ⟨w.heap.size + 1, 0, none⟩ = some (.int .i64 0) := by rw [Lib.cell_of_heap HRE.out]; rfl
      have r1 : w4.cell? ⟨w.heap.size + 1, 1, none⟩ = some (.int .i64 0) := by rw [Lib.cell_of_heap HRE.out]; rfl
      have r2 : w4.cell? ⟨w.heap.size + 1, 2, none⟩ = some (.int .i64 0) := by rw [Lib.cell_of_heap HRE.out]; rfl
      have r3 : w4.cell? ⟨w.heap.size + 1, 3, none⟩ = some (.int .i64 0) := by rw [Lib.cell_of_heap HRE.out]; rfl
      have r4 : w4.cell? ⟨w.heap.size + 1, 4, none⟩ = some (.slice none 0 0) := by rw [Lib.cell_of_heap HRE.out]; rfl
      have r5 : w4.cell? ⟨w.heap.size + 1, 5, none⟩ = some (.slice none 0 0) := by rw [Lib.cell_of_heap HRE.out]; rfl
      have rf0 : w4.frozen? ⟨w.heap.size + 1, 0, none⟩ = false := Lib.frozen_of_heap HRE.out _
      have rf1 : w4.frozen? ⟨w.heap.size + 1, 1, none⟩ = false := Lib.frozen_of_heap HRE.out _
      have rf2 : w4.frozen? ⟨w.heap.size + 1, 2, none⟩ = false := Lib.frozen_of_heap HRE.out _
      have rf3 : w4.frozen? ⟨w.heap.size + 1, 3, none⟩ = false := Lib.frozen_of_heap HRE.out _
      have rf4 : w4.frozen? ⟨w.heap.size + 1, 4, none⟩ = false := Lib.frozen_of_heap HRE.out _
      have rf5 : w4.frozen? ⟨w.heap.size + 1, 5, none⟩ = false := Lib.frozen_of_heap HRE.out _
      go_wp2_with fail
      exact bodyPost_ret (v := .tuple #[.agg #[.int .i64 d.inn, .int .i64 d.out, .int .i64 d.states, .int .i64 d.start, .slice Ar d.rules.length cr, .slice Af d.finals.length cf], .bool false]) (by simp [results, Tryd.results30, go_sem, r0, r1, r2, r3, r4, r5]) rfl (rline_none (d2 := d) HN.out (set6_below hbE (by omega)))
    | true =>
      cases ok3 with
      | false =>
        have HRES : Hid ((false = true → ruleF l1 = some (ruleOf gs ts xs)) ∧ (false = false → ruleF l1 = none)) := hid HRES0.out
        have HN : Hid (lineF false d s.data.toList = none) := hid (lineF_rule_none HL1.out (.inl (HRES.out.2 rfl)))
        have c0 : w4.cell? ⟨w.heap.size, 0, none⟩ = some (.int .i64 d.inn) := by rw [Lib.cell_of_heap HXE.out]; rfl
        have c1 : w4.cell? ⟨w.heap.size, 1, none⟩ = some (.int .i64 d.out) := by rw [Lib.cell_of_heap HXE.out]; rfl
        have c2 : w4.cell? ⟨w.heap.size, 2, none⟩ = some (.int .i64 d.states) := by rw [Lib.cell_of_heap HXE.out]; rfl
        have c3 : w4.cell? ⟨w.heap.size, 3, none⟩ = some (.int .i64 d.start) := by rw [Lib.cell_of_heap HXE.out]; rfl
        have c4 : w4.cell? ⟨w.heap.size, 4, none⟩ = some (.slice Ar d.rules.length cr) := by rw [Lib.cell_of_heap HXE.out]; rfl
        have c5 : w4.cell? ⟨w.heap.size, 5, none⟩ = some (.slice Af d.finals.length cf) := by rw [Lib.cell_of_heap HXE.out]; rfl
        have r0 : w4.cell? ⟨w.heap.size + 1, 0, none⟩ = some (.int .i64 0) := by rw [Lib.cell_of_heap HRE.out]; rfl
        have r1 : w4.cell? ⟨w.heap.size + 1, 1, none⟩ = some (.int .i64 0) := by rw [Lib.cell_of_heap HRE.out]; rfl
        have r2 : w4.cell? ⟨w.heap.size + 1, 2, none⟩ = some (.int .i64 0) := by rw [Lib.cell_of_heap HRE.out]; rfl
        have r3 : w4.cell? ⟨w.heap.size + 1, 3, none⟩ = some (.int .i64 0) := by rw [Lib.cell_of_heap HRE.out]; rfl
        have r4 : w4.cell? ⟨w.heap.size + 1, 4, none⟩ = some (.slice none 0 0) := by rw [Lib.cell_of_heap HRE.out]; rfl
        have r5 : w4.cell? ⟨w.heap.size + 1, 5, none⟩ = some (.slice none 0 0) := by rw [Lib.cell_of_heap HRE.out]; rfl
        have rf0 : w4.frozen? ⟨w.heap.size + 1, 0, none⟩ = false := Lib.frozen_of_heap HRE.out _
        have rf1 : w4.frozen? ⟨w.heap.size + 1, 1, none⟩ = false := Lib.frozen_of_heap HRE.out _
        have rf2 : w4.frozen? ⟨w.heap.size + 1, 2, none⟩ = false := Lib.frozen_of_heap HRE.out _
        have rf3 : w4.frozen? ⟨w.heap.size + 1, 3, none⟩ = false := Lib.frozen_of_heap HRE.out _
        have rf4 : w4.frozen? ⟨w.heap.size + 1, 4, none⟩ = false := Lib.frozen_of_heap HRE.out _
        have rf5 : w4.frozen? ⟨w.heap.size + 1, 5, none⟩ = false := Lib.frozen_of_heap HRE.out _
        go_wp2_with fail
        exact bodyPost_ret (v := .tuple #[.agg #[.int .i64 d.inn, .int .i64 d.out, .int .i64 d.states, .int .i64 d.start, .slice Ar d.rules.length cr, .slice Af d.finals.length cf], .bool false]) (by simp [results, Tryd.results30, go_sem, r0, r1, r2, r3, r4, r5]) rfl (rline_none (d2 := d) HN.out (set6_below hbE (by omega)))
      | true =>
        have HRES : Hid ((true = true → ruleF l1 = some (ruleOf gs ts xs)) ∧ (true = false → ruleF l1 = none)) := hid HRES0.out
        by_cases hfin : d.finals = []
        · have hfl : d.finals.length = 0 := by rw [hfin]; rfl
          have hfl' : ¬ (0 : Int) < d.finals.length := by omega
          obtain ⟨hown1, hxl, hall⟩ := HGOOD.out rfl
          obtain ⟨x0, x1, x2, rfl⟩ := list3 hxl
          obtain ⟨g1, c1', hv1, hg1ge, hg1lt, hcells⟩ := own_cells hown1 (by simp)
          injection hv1 with e1 e2 e3
          subst e1 e2 e3
          have hgs := HGG.out rfl
          have hts := (HT1.out rfl).2
          obtain ⟨A5, c5', hv5, _, _⟩ := list_form hgs
          injection hv5 with e1 e2 e3
          subst e1 e2 e3
          obtain ⟨A6, c6, rfl, _, _⟩ := list_form hts
          have HIX : Hid (I64 x0 ∧ I64 x1 ∧ I64 x2) := hid ⟨hall x0 (by simp), hall x1 (by simp), hall x2 (by simp)⟩
          have HY : Hid (lineF false d s.data.toList = some (addR d (ruleOf gs ts [x0, x1, x2]))) := hid (line_rule_some hfin HL1.out (HRES.out.1 rfl))
          have hbc : Below w2.heap.size w2 w4 := hb3.trans (hb4.mono hb3.size)
          have HC := hid (And.intro ((cell_of_heap_eq (hbc.block g1 hg1lt)).trans (hcells 0 x0 rfl)) (And.intro ((cell_of_heap_eq (hbc.block g1 hg1lt)).trans (hcells 1 x1 rfl)) ((cell_of_heap_eq (hbc.block g1 hg1lt)).trans (hcells 2 x2 rfl))))
          have HTG : Hid (Tag 3 w4 g1) := hid ((own_tag hown1 g1 rfl).1.keep (hbc.block g1 hg1lt))
          have HD4 : Hid (DescAt base w.heap.size d w4 (.slice Ar d.rules.length cr) (.slice Af d.finals.length cf)) := hid (HD0.out.later hb04)
          have HGS := hid ((listR spansR).mono (w' := w4) (S' := Dat w4) (fun p hp => cell_of_heap_eq (hb4.block _ (hp.elim Tag.lt Tag.lt))) (fun g hg' => (show Dat w3 g from hg'.imp id .inl).keep (hb4.block g (hg'.elim Tag.lt Tag.lt))) hgs)
          have HTS := hid ((listR termR).mono (w' := w4) (S' := Dat w4) (fun _ _ => rfl) (fun g hg' => by rcases hg' with h1 | h1; exact .inr (.inr (.inl h1)); exact .inr (.inr (.inr h1))) hts)
          have hg1lt4 : g1 < w4.heap.size := Nat.lt_of_lt_of_le hg1lt hbc.size
          obtain ⟨css, hcl, hown, hel⟩ := HD4.out.rules
          clear hel
          have hrow : ∀ g, (Value.slice Ar d.rules.length cr).ownBlock = some g → Tag 45 w4 g ∧ base ≤ g := fun g hg' => own_tag hown g hg'
          have c0 : w4.cell? ⟨w.heap.size, 0, none⟩ = some (.int .i64 d.inn) := by rw [Lib.cell_of_heap HXE.out]; rfl
          have c1 : w4.cell? ⟨w.heap.size, 1, none⟩ = some (.int .i64 d.out) := by rw [Lib.cell_of_heap HXE.out]; rfl
          have c2 : w4.cell? ⟨w.heap.size, 2, none⟩ = some (.int .i64 d.states) := by rw [Lib.cell_of_heap HXE.out]; rfl
          have c3 : w4.cell? ⟨w.heap.size, 3, none⟩ = some (.int .i64 d.start) := by rw [Lib.cell_of_heap HXE.out]; rfl
          have c4 : w4.cell? ⟨w.heap.size, 4, none⟩ = some (.slice Ar d.rules.length cr) := by rw [Lib.cell_of_heap HXE.out]; rfl
          have c5 : w4.cell? ⟨w.heap.size, 5, none⟩ = some (.slice Af d.finals.length cf) := by rw [Lib.cell_of_heap HXE.out]; rfl
          have HFIN := hid hfin
          clear hown1 hxl hall hcells hgs hts hbc
          go_wp2_with fail
          obtain ⟨ι, W, ⟨i0, hi0⟩, hW, Wsur⟩ := held_class w4.drew (fun g => g = w.heap.size ∨ g = g1)
          have hne : Nonempty ι := ⟨i0⟩
          have q0 : ∀ i, (W i).cell? ⟨g1, 0, none⟩ = some (.int .i64 x0) := fun i => (cell_of_heap_eq (w := w4) (hW i _ (.inr rfl))).trans HC.out.1
          have q1 : ∀ i, (W i).cell? ⟨g1, 1, none⟩ = some (.int .i64 x1) := fun i => (cell_of_heap_eq (w := w4) (hW i _ (.inr rfl))).trans HC.out.2.1
          have q2 : ∀ i, (W i).cell? ⟨g1, 2, none⟩ = some (.int .i64 x2) := fun i => (cell_of_heap_eq (w := w4) (hW i _ (.inr rfl))).trans HC.out.2.2
          have q3 : ∀ i, (W i).cell? ⟨w.heap.size, 4, none⟩ = some (.slice Ar d.rules.length cr) := fun i => by rw [Lib.cell_of_heap ((hW i _ (.inl rfl)).trans HXE.out)]; rfl
          have WS := hid Wsur; clear Wsur
          have HW := hid hW; clear hW
          have Hi0 := hid hi0; clear hi0
          have hbxlt : w.heap.size < w4.heap.size := by omega
          refine region_anyL (S := fun w' => ∃ i, w' = W i) (last := 17) (by kernel_rfl) ?_
          refine anyL_seg 0 14 (by kernel_rfl) (fun _ _ _ _ _ h => h) ⟨i0, Hi0.out.symm⟩ (f := 4) rfl (by kernel_rfl) (by kernel_rfl) ?_
          simp only [List.drop_zero, List.take_succ_cons, List.take_zero]
          repeat go_big_quiet_step (fail)
          refine wpQuiet_nil ?_
          refine anyL_act (i := 14) (by kernel_rfl) rfl rfl ?_
          intro K hK
          go_wp2_with fail
          refine hK.out _ _ (fun _ => WS.out _ (fun g hg => by rcases hg with rfl | rfl; exact Below.heap_alloc _ _ _ hbxlt; exact Below.heap_alloc _ _ _ hg1lt4)) ?_
          clear hK K
          have hA7 : Below w4.heap.size w4 (w4.alloc (.cells #[.int .i64 x0, .int .i64 x1, .slice Ag gs.length cg, .int .i64 x2, .slice A6 ts.length c6] 45)).drew := ((Below.refl _ _).alloc (Nat.le_refl _) _).drew
          have hown7 : (w4.alloc (.cells #[.int .i64 x0, .int .i64 x1, .slice Ag gs.length cg, .int .i64 x2, .slice A6 ts.length c6] 45)).drew.ownsRow base 45 5 (.slice Ar d.rules.length cr) d.rules.length css.flatten := hown.alloc _
          have hbs : base ≤ w4.heap.size := by omega
          refine anyL_act (i := 15) (by kernel_rfl) rfl rfl ?_
          intro K hK
          refine act_append_at _ _ 23 rfl base 45 infR _ 5 72 Tryd.underlying23 hiR hr0 hr1 hr2 rfl (by decide) _ _ _ rfl hown7 ⟨w4.heap.size, 0, none⟩ 1 1 [.int .i64 x0, .int .i64 x1, .slice Ag gs.length cg, .int .i64 x2, .slice A6 ts.length c6] rfl rfl (news_at (w := w4) (cs := #[.int .i64 x0, .int .i64 x1, .slice Ag gs.length cg, .int .i64 x2, .slice A6 ts.length c6]) rfl) (by simp [Value.oneCell']) (by unfold maxLen; omega) (by omega) (by simp; omega) ?_
          intro v9 w9 hown9 hg9 _ _
          go_simp
          have hk9 := after_append hA7 hg9 (fun g hg => (hrow g hg).1)
          have hkp : w9.heap[w.heap.size]? = w4.heap[w.heap.size]? := hk9 _ hbxlt (fun ht => Tag.ne HD4.out.tag ht (by decide) rfl)
          have hkq : w9.heap[g1]? = w4.heap[g1]? := hk9 _ hg1lt4 (fun ht => Tag.ne HTG.out ht (by decide) rfl)
          have hkr : w9.heap[w.heap.size + 1]? = w4.heap[w.heap.size + 1]? := hk9 _ (by omega) (fun ht => Tag.ne (t := 26) (g := w.heap.size + 1) ⟨_, _, HRE.out⟩ ht (by decide) rfl)
          have hs9 : ∃ i, w9 = W i := WS.out _ (fun g hg => by rcases hg with rfl | rfl; exact hkp; exact hkq)
          refine hK.out _ _ (fun _ => hs9) ?_
          clear hK K
          refine anyL_seg 16 1 (by kernel_rfl) (fun _ _ _ _ _ h => h) hs9 (f := 1) rfl (by kernel_rfl) (by kernel_rfl) ?_
          simp only [List.drop_succ_cons, List.drop_zero, List.take_succ_cons, List.take_zero]
          repeat go_big_quiet_step (fail)
          refine wpQuiet_nil ?_
          obtain ⟨A9, c9, rfl⟩ := row_form hown9
          have hp9 := hkp.trans HXE.out
          have z4 : w9.cell? ⟨w.heap.size, 4, none⟩ = some (.slice Ar d.rules.length cr) := by rw [Lib.cell_of_heap hp9]; rfl
          have zf : w9.frozen? ⟨w.heap.size, 4, none⟩ = false := Lib.frozen_of_heap hp9 4
          have HP9 := hid hp9
          have HO9 := hid hown9
          have HG9 := hid hg9
          clear hown9 hg9 hp9
          refine anyL_act (i := 17) (by kernel_rfl) rfl rfl ?_
          intro K hK
          go_wp2_with fail
          refine hK.out _ _ (fun h => absurd rfl h) ?_
          clear hK K
          refine anyL_done (by kernel_rfl) ?_ _
          clear q0 q1 q2 q3 hs9 WS HW Hi0 hne i0 W ι z4 zf c0 c1 c2 c3 c4 c5
          have h10 : ∀ g, g ≠ w.heap.size → (w9.setCell ⟨w.heap.size, 4, none⟩ (.slice A9 (d.rules.length + 1) c9)).heap[g]? = w9.heap[g]? := fun g hg => Below.heap_setCell _ _ _ _ hg
          have hp10 := heap_set w9 w.heap.size 4 (.slice A9 (d.rules.length + 1) c9) HP9.out
          have hb10 : Below base w (w9.setCell ⟨w.heap.size, 4, none⟩ (.slice A9 (d.rules.length + 1) c9)) := ((hbE.trans (hA7.mono hbs)).grown HG9.out (by have := hA7.size; omega) (fun g hg => (hrow g hg).2)).setCell (by show base ≤ w.heap.size; omega) _
          have hr10 := (h10 (w.heap.size + 1) (by omega)).trans (hkr.trans HRE.out)
          generalize w9.setCell ⟨w.heap.size, 4, none⟩ (.slice A9 (d.rules.length + 1) c9) = w10 at h10 hp10 hb10 hr10 ⊢
          have HDE : Hid (DescAt base w.heap.size (addR d (ruleOf gs ts [x0, x1, x2])) w10 (.slice A9 (d.rules.length + 1) c9) (.slice Af d.finals.length cf)) := hid (by
            refine DescAt.addRule (w5 := w4) (wA := (w4.alloc (.cells #[.int .i64 x0, .int .i64 x1, .slice Ag gs.length cg, .int .i64 x2, .slice A6 ts.length c6] 45)).drew) (w6 := w9) (cs := [.int .i64 x0, .int .i64 x1, .slice Ag gs.length cg, .int .i64 x2, .slice A6 ts.length c6]) HD4.out hA7 HG9.out hp10 h10 (fun css' hl' ho' => ?_) ?_
            · have e : css'.flatten = css.flatten := own_same ho' hown
              rw [e]
              exact HO9.out
            · exact ⟨_, _, rfl, HIX.out, HGS.out, HTS.out⟩)
          have HP10 := hid hp10
          have HR10 := hid hr10
          clear hrow hk9 hkp hkq hkr h10 hp10 hr10 hown hown7 hfl hfl' hfin
          have c0 : w10.cell? ⟨w.heap.size, 0, none⟩ = some (.int .i64 d.inn) := by rw [Lib.cell_of_heap HDE.out.cells]; rfl
          have c1 : w10.cell? ⟨w.heap.size, 1, none⟩ = some (.int .i64 d.out) := by rw [Lib.cell_of_heap HDE.out.cells]; rfl
          have c2 : w10.cell? ⟨w.heap.size, 2, none⟩ = some (.int .i64 d.states) := by rw [Lib.cell_of_heap HDE.out.cells]; rfl
          have c3 : w10.cell? ⟨w.heap.size, 3, none⟩ = some (.int .i64 d.start) := by rw [Lib.cell_of_heap HDE.out.cells]; rfl
          have c4 : w10.cell? ⟨w.heap.size, 4, none⟩ = some (.slice A9 (d.rules.length + 1) c9) := by rw [Lib.cell_of_heap HDE.out.cells]; rfl
          have c5 : w10.cell? ⟨w.heap.size, 5, none⟩ = some (.slice Af d.finals.length cf) := by rw [Lib.cell_of_heap HDE.out.cells]; rfl
          have r0 : w10.cell? ⟨w.heap.size + 1, 0, none⟩ = some (.int .i64 0) := by rw [Lib.cell_of_heap HR10.out]; rfl
          have r1 : w10.cell? ⟨w.heap.size + 1, 1, none⟩ = some (.int .i64 0) := by rw [Lib.cell_of_heap HR10.out]; rfl
          have r2 : w10.cell? ⟨w.heap.size + 1, 2, none⟩ = some (.int .i64 0) := by rw [Lib.cell_of_heap HR10.out]; rfl
          have r3 : w10.cell? ⟨w.heap.size + 1, 3, none⟩ = some (.int .i64 0) := by rw [Lib.cell_of_heap HR10.out]; rfl
          have r4 : w10.cell? ⟨w.heap.size + 1, 4, none⟩ = some (.slice none 0 0) := by rw [Lib.cell_of_heap HR10.out]; rfl
          have r5 : w10.cell? ⟨w.heap.size + 1, 5, none⟩ = some (.slice none 0 0) := by rw [Lib.cell_of_heap HR10.out]; rfl
          have rf0 : w10.frozen? ⟨w.heap.size + 1, 0, none⟩ = false := Lib.frozen_of_heap HR10.out _
          have rf1 : w10.frozen? ⟨w.heap.size + 1, 1, none⟩ = false := Lib.frozen_of_heap HR10.out _
          have rf2 : w10.frozen? ⟨w.heap.size + 1, 2, none⟩ = false := Lib.frozen_of_heap HR10.out _
          have rf3 : w10.frozen? ⟨w.heap.size + 1, 3, none⟩ = false := Lib.frozen_of_heap HR10.out _
          have rf4 : w10.frozen? ⟨w.heap.size + 1, 4, none⟩ = false := Lib.frozen_of_heap HR10.out _
          have rf5 : w10.frozen? ⟨w.heap.size + 1, 5, none⟩ = false := Lib.frozen_of_heap HR10.out _
          go_wp2_with fail
          exact bodyPost_ret (v := .tuple #[.agg #[.int .i64 d.inn, .int .i64 d.out, .int .i64 d.states, .int .i64 d.start, .slice A9 (d.rules.length + 1) c9, .slice Af d.finals.length cf], .bool true]) (by simp [results, Tryd.results30, go_sem, r0, r1, r2, r3, r4, r5]) rfl (rline_some (d2 := addR d (ruleOf gs ts [x0, x1, x2])) HY.out (HDE.out.val.away ⟨_, _, HR10.out⟩ (fun g hg => set6_heap g hg)) (set6_below hb10 (by omega)))
        · have hfl : (0 : Int) < d.finals.length := by have := List.length_pos_iff.2 hfin; omega
          have HN : Hid (lineF false d s.data.toList = none) := hid (lineF_rule_none HL1.out (.inr hfin))
          have c0 : w4.cell? ⟨w.heap.size, 0, none⟩ = some (.int .i64 d.inn) := by rw [Lib.cell_of_heap HXE.out]; rfl
          have c1 : w4.cell? ⟨w.heap.size, 1, none⟩ = some (.int .i64 d.out) := by rw [Lib.cell_of_heap HXE.out]; rfl
          have c2 : w4.cell? ⟨w.heap.size, 2, none⟩ = some (.int .i64 d.states) := by rw [Lib.cell_of_heap HXE.out]; rfl
          have c3 : w4.cell? ⟨w.heap.size, 3, none⟩ = some (.int .i64 d.start) := by rw [Lib.cell_of_heap HXE.out]; rfl
          have c4 : w4.cell? ⟨w.heap.size, 4, none⟩ = some (.slice Ar d.rules.length cr) := by rw [Lib.cell_of_heap HXE.out]; rfl
          have c5 : w4.cell? ⟨w.heap.size, 5, none⟩ = some (.slice Af d.finals.length cf) := by rw [Lib.cell_of_heap HXE.out]; rfl
          have r0 : w4.cell? ⟨w.heap.size + 1, 0, none⟩ = some (.int .i64 0) := by rw [Lib.cell_of_heap HRE.out]; rfl
          have r1 : w4.cell? ⟨w.heap.size + 1, 1, none⟩ = some (.int .i64 0) := by rw [Lib.cell_of_heap HRE.out]; rfl
          have r2 : w4.cell? ⟨w.heap.size + 1, 2, none⟩ = some (.int .i64 0) := by rw [Lib.cell_of_heap HRE.out]; rfl
          have r3 : w4.cell? ⟨w.heap.size + 1, 3, none⟩ = some (.int .i64 0) := by rw [Lib.cell_of_heap HRE.out]; rfl
          have r4 : w4.cell? ⟨w.heap.size + 1, 4, none⟩ = some (.slice none 0 0) := by rw [Lib.cell_of_heap HRE.out]; rfl
          have r5 : w4.cell? ⟨w.heap.size + 1, 5, none⟩ = some (.slice none 0 0) := by rw [Lib.cell_of_heap HRE.out]; rfl
          have rf0 : w4.frozen? ⟨w.heap.size + 1, 0, none⟩ = false := Lib.frozen_of_heap HRE.out _
          have rf1 : w4.frozen? ⟨w.heap.size + 1, 1, none⟩ = false := Lib.frozen_of_heap HRE.out _
          have rf2 : w4.frozen? ⟨w.heap.size + 1, 2, none⟩ = false := Lib.frozen_of_heap HRE.out _
          have rf3 : w4.frozen? ⟨w.heap.size + 1, 3, none⟩ = false := Lib.frozen_of_heap HRE.out _
          have rf4 : w4.frozen? ⟨w.heap.size + 1, 4, none⟩ = false := Lib.frozen_of_heap HRE.out _
          have rf5 : w4.frozen? ⟨w.heap.size + 1, 5, none⟩ = false := Lib.frozen_of_heap HRE.out _
          go_wp2_with fail
          exact bodyPost_ret (v := .tuple #[.agg #[.int .i64 d.inn, .int .i64 d.out, .int .i64 d.states, .int .i64 d.start, .slice Ar d.rules.length cr, .slice Af d.finals.length cf], .bool false]) (by simp [results, Tryd.results30, go_sem, r0, r1, r2, r3, r4, r5]) rfl (rline_none (d2 := d) HN.out (set6_below hbE (by omega)))
end Go.Proofs.YtcdnkmefcldfmaaDoor
