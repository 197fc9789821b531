/-
  The reference's line: the head.
-/
import Derived.Test.YtcdnkmefcldfmaaDoorPgQe
import Derived.Test.YtcdnkmefcldfmaaDoorPgLn
namespace Go.Proofs.YtcdnkmefcldfmaaDoor
open Go.RowKit Go.Um

def aggD (d : Desc) (vr vf : Value) : Value := .agg #[.int .i64 d.inn, .int .i64 d.out, .int .i64 d.states, .int .i64 d.start, vr, vf]
/-- a description by its value, whose rows the call owns. -/
structure DescV (base : Nat) (d : Desc) (w : World) (vr vf : Value) : Prop where
  rules : OwnR 45 ruleR w (Dat w) base vr d.rules
  finals : OwnR 47 finalR w (Dat w) base vf d.finals
  nums : I64 d.inn ∧ I64 d.out ∧ I64 d.states ∧ I64 d.start
theorem DescV.later {base : Nat} {d : Desc} {w w' : World} {vr vf : Value} (h : DescV base d w vr vf) (hb : Below w.heap.size w w') : DescV base d w' vr vf :=
  ⟨h.rules.keep (fun g hg => hb.block g (h.rules.tag g hg).1.lt) (fun _ hq => cell_of_heap_eq (hb.block _ hq.lt)) (fun g hg => hg.keep (hb.block g hg.lt)),
    h.finals.keep (fun g hg => hb.block g (h.finals.tag g hg).1.lt) (fun _ hq => cell_of_heap_eq (hb.block _ hq.lt)) (fun g hg => hg.keep (hb.block g hg.lt)), h.nums⟩
theorem DescV.at {base p : Nat} {d : Desc} {w : World} {vr vf : Value} (h : DescV base d w vr vf) (hc : w.heap[p]? = some (.cells #[.int .i64 d.inn, .int .i64 d.out, .int .i64 d.states, .int .i64 d.start, vr, vf] 26 (0, 0))) (hp : base ≤ p) : DescAt base p d w vr vf :=
  ⟨hc, h.rules, h.finals, h.nums, hp⟩
theorem DescAt.val {base p : Nat} {d : Desc} {w : World} {vr vf : Value} (h : DescAt base p d w vr vf) : DescV base d w vr vf := ⟨h.rules, h.finals, h.nums⟩
/-- what changes one description's block alone leaves it. -/
theorem DescV.away {base rb : Nat} {d : Desc} {w w' : World} {vr vf : Value} (h : DescV base d w vr vf) (ht : Tag 26 w rb) (hk : ∀ g, g ≠ rb → w'.heap[g]? = w.heap[g]?) : DescV base d w' vr vf :=
  ⟨h.rules.keep (fun g hg => hk g (Tag.ne (h.rules.tag g hg).1 ht (by decide))) (fun _ hq => cell_of_heap_eq (hk _ (Dat.ne hq ht (by decide) (by decide) (by decide) (by decide)))) (fun g hg => hg.keep (hk g (Dat.ne hg ht (by decide) (by decide) (by decide) (by decide)))),
    h.finals.keep (fun g hg => hk g (Tag.ne (h.finals.tag g hg).1 ht (by decide))) (fun _ hq => cell_of_heap_eq (hk _ (Dat.ne hq ht (by decide) (by decide) (by decide) (by decide)))) (fun g hg => hg.keep (hk g (Dat.ne hg ht (by decide) (by decide) (by decide) (by decide)))), h.nums⟩
theorem DescV.form {base : Nat} {d : Desc} {w : World} {vr vf : Value} (h : DescV base d w vr vf) : (∃ A c, vr = .slice A d.rules.length c) ∧ ∃ A c, vf = .slice A d.finals.length c := by
  obtain ⟨_, _, h1, _⟩ := h.rules
  obtain ⟨_, _, h2, _⟩ := h.finals
  exact ⟨row_form h1, row_form h2⟩
def set6 (w : World) (b : Nat) (v0 v1 v2 v3 v4 v5 : Value) : World := (((((w.setCell ⟨b, 0, none⟩ v0).setCell ⟨b, 1, none⟩ v1).setCell ⟨b, 2, none⟩ v2).setCell ⟨b, 3, none⟩ v3).setCell ⟨b, 4, none⟩ v4).setCell ⟨b, 5, none⟩ v5
theorem set6_heap {w : World} {b : Nat} {v0 v1 v2 v3 v4 v5 : Value} (g : Nat) (hg : g ≠ b) : (set6 w b v0 v1 v2 v3 v4 v5).heap[g]? = w.heap[g]? := by
  unfold set6
  rw [Below.heap_setCell _ _ _ _ hg, Below.heap_setCell _ _ _ _ hg, Below.heap_setCell _ _ _ _ hg, Below.heap_setCell _ _ _ _ hg, Below.heap_setCell _ _ _ _ hg, Below.heap_setCell _ _ _ _ hg]
theorem set6_below {w a : World} {base b : Nat} {v0 v1 v2 v3 v4 v5 : Value} (h : Below base a w) (hb : base ≤ b) : Below base a (set6 w b v0 v1 v2 v3 v4 v5) :=
  (((((h.setCell (p := ⟨b, 0, none⟩) hb _).setCell (p := ⟨b, 1, none⟩) hb _).setCell (p := ⟨b, 2, none⟩) hb _).setCell (p := ⟨b, 3, none⟩) hb _).setCell (p := ⟨b, 4, none⟩) hb _).setCell (p := ⟨b, 5, none⟩) hb _
theorem set6_at {w : World} {b : Nat} {v0 v1 v2 v3 v4 v5 u0 u1 u2 u3 u4 u5 : Value} {t : TypeId} (h : w.heap[b]? = some (.cells #[u0, u1, u2, u3, u4, u5] t (0, 0))) : (set6 w b v0 v1 v2 v3 v4 v5).heap[b]? = some (.cells #[v0, v1, v2, v3, v4, v5] t (0, 0)) :=
  heap_set _ b 5 v5 (heap_set _ b 4 v4 (heap_set _ b 3 v3 (heap_set _ b 2 v2 (heap_set _ b 1 v1 (heap_set w b 0 v0 h)))))
theorem set6_size {w : World} {b : Nat} {v0 v1 v2 v3 v4 v5 : Value} : (set6 w b v0 v1 v2 v3 v4 v5).heap.size = w.heap.size := by simp [set6, World.setCell]
def RLinePost (base : Nat) (first : Bool) (d : Desc) (l : By) (w : World) (e : Ending) (w' : World) : Prop := ∃ (d2 : Desc) (Ar Af : Option Addr) (nr nf cr cf : Nat), e = .returned (.tuple #[aggD d2 (.slice Ar nr cr) (.slice Af nf cf), .bool (lineF first d l).isSome]) ∧
  (∀ d', lineF first d l = some d' → d2 = d' ∧ DescV base d' w' (.slice Ar nr cr) (.slice Af nf cf)) ∧ Below base w w'
theorem rline_none {base : Nat} {first : Bool} {d d2 : Desc} {l : By} {w w' : World} {Ar Af : Option Addr} {nr nf cr cf : Nat} (h : lineF first d l = none) (hb : Below base w w') : RLinePost base first d l w (.returned (.tuple #[aggD d2 (.slice Ar nr cr) (.slice Af nf cf), .bool false])) w' :=
  ⟨d2, Ar, Af, nr, nf, cr, cf, by rw [h]; rfl, (fun d' hd' => by rw [h] at hd'; cases hd'), hb⟩
theorem rline_some {base : Nat} {first : Bool} {d d2 : Desc} {l : By} {w w' : World} {Ar Af : Option Addr} {nr nf cr cf : Nat} (h : lineF first d l = some d2) (hd : DescV base d2 w' (.slice Ar nr cr) (.slice Af nf cf)) (hb : Below base w w') : RLinePost base first d l w (.returned (.tuple #[aggD d2 (.slice Ar nr cr) (.slice Af nf cf), .bool true])) w' :=
  ⟨d2, Ar, Af, nr, nf, cr, cf, by rw [h]; rfl, (fun d' hd' => by rw [h] at hd'; cases hd'; exact ⟨rfl, hd⟩), hb⟩
theorem rest_zero (s : ByteArray) : rest s 0 = s.data.toList := rfl
theorem rule_res2 {s : ByteArray} {l : By} {k2 : Nat} {ok12 ok3 : Bool} {st1 st3 : Option By} {xs : List Int} {gs : List (List Span)} {ts : List Term} (h0 : Fin st1 (numsF 0 3 l) xs) (h1 : Fin st3 (st1.bind fun l => guardsF2 (l.length + 1) l) gs) (h2 : AtS s k2 ok12 st3)
    (h3 : ok3 = true → tailF (rest s k2) = some ts) (h4 : ok3 = false → tailF (rest s k2) = none) : ((ok12 && ok3) = true → ruleF l = some (ruleOf gs ts xs)) ∧ ((ok12 && ok3) = false → ruleF l = none) := by
  cases ok12 with
  | false =>
    have := rule_res h0 h1 (s4 := none) (ts := ts) (.inr ⟨rfl, by rw [h2.none]; rfl⟩)
    rcases this with ⟨h, _⟩ | ⟨_, h⟩
    · cases h
    · exact ⟨fun h => by simp at h, fun _ => h⟩
  | true =>
    cases ok3 with
    | false =>
      have := rule_res h0 h1 (s4 := none) (ts := ts) (.inr ⟨rfl, by rw [h2.some]; exact h4 rfl⟩)
      rcases this with ⟨h, _⟩ | ⟨_, h⟩
      · cases h
      · exact ⟨fun h => by simp at h, fun _ => h⟩
    | true =>
      have := rule_res h0 h1 (s4 := some []) (ts := ts) (.inl ⟨rfl, by rw [h2.some]; exact h3 rfl⟩)
      rcases this with ⟨_, h⟩ | ⟨h, _⟩
      · exact ⟨fun _ => h, fun h => by simp at h⟩
      · cases h
theorem final_res2 {s : ByteArray} {s1 : Option By} {k2 : Nat} {ok12 ok3 : Bool} {st2 st3 : Option By} {x : Int} {gs : List (List Span)} {ts : List Term} (h0 : Fin st2 (s1.bind numF) x) (h1 : Fin st3 (st2.bind fun l => guardsF2 (l.length + 1) l) gs) (h2 : AtS s k2 ok12 st3)
    (h3 : ok3 = true → tailF (rest s k2) = some ts) (h4 : ok3 = false → tailF (rest s k2) = none) : ((ok12 && ok3) = true → s1.bind finalF = some ⟨x, gs, ts⟩) ∧ ((ok12 && ok3) = false → s1.bind finalF = none) := by
  cases ok12 with
  | false =>
    have := final_res h0 h1 (s4 := none) (ts := ts) (.inr ⟨rfl, by rw [h2.none]; rfl⟩)
    rcases this with ⟨h, _⟩ | ⟨_, h⟩
    · cases h
    · exact ⟨fun h => by simp at h, fun _ => h⟩
  | true =>
    cases ok3 with
    | false =>
      have := final_res h0 h1 (s4 := none) (ts := ts) (.inr ⟨rfl, by rw [h2.some]; exact h4 rfl⟩)
      rcases this with ⟨h, _⟩ | ⟨_, h⟩
      · cases h
      · exact ⟨fun h => by simp at h, fun _ => h⟩
    | true =>
      have := final_res h0 h1 (s4 := some []) (ts := ts) (.inl ⟨rfl, by rw [h2.some]; exact h3 rfl⟩)
      rcases this with ⟨_, h⟩ | ⟨h, _⟩
      · exact ⟨fun _ => h, fun h => by simp at h⟩
      · cases h

set_option maxHeartbeats 2000000 in
set_option maxRecDepth 100000 in
theorem rline_head (base : Nat) (s : ByteArray) (hs : s.size ≤ 65536) (d : Desc) (vr vf : Value) (w : World) (h : DescV base d w vr vf) (hbw : base ≤ w.heap.size) :
    Calls Tryd.prog 30 #[aggD d vr vf, .string s, .bool true] w (RLinePost base true d s.data.toList w) := by
  obtain ⟨⟨Ar, cr, rfl⟩, Af, cf, rfl⟩ := h.form
  obtain ⟨w0, hw0⟩ : ∃ w0, w0 = (w.alloc (.cells #[.int .i64 d.inn, .int .i64 d.out, .int .i64 d.states, .int .i64 d.start, .slice Ar d.rules.length cr, .slice Af d.finals.length cf] 26)).alloc (.cells #[.int .i64 0, .int .i64 0, .int .i64 0, .int .i64 0, .slice none 0 0, .slice none 0 0] 26) := ⟨_, rfl⟩
  have hB0 : Below w.heap.size w w0 := by rw [hw0]; exact ((Below.refl _ _).alloc (Nat.le_refl _) _).alloc (by simp) _
  have hX0 : w0.heap[w.heap.size]? = some (.cells #[.int .i64 d.inn, .int .i64 d.out, .int .i64 d.states, .int .i64 d.start, .slice Ar d.rules.length cr, .slice Af d.finals.length cf] 26 (0, 0)) := by rw [hw0, Below.heap_alloc _ _ _ (by simp)]; exact heap_alloc_new _ _
  have hR0 : w0.heap[w.heap.size + 1]? = some (.cells #[.int .i64 0, .int .i64 0, .int .i64 0, .int .i64 0, .slice none 0 0, .slice none 0 0] 26 (0, 0)) := by
    have := heap_alloc_new (w.alloc (.cells #[.int .i64 d.inn, .int .i64 d.out, .int .i64 d.states, .int .i64 d.start, .slice Ar d.rules.length cr, .slice Af d.finals.length cf] 26)) (.cells #[.int .i64 0, .int .i64 0, .int .i64 0, .int .i64 0, .slice none 0 0, .slice none 0 0] 26)
    rw [hw0]
    simpa using this
  have HD0 : Hid (DescAt base w.heap.size d w0 (.slice Ar d.rules.length cr) (.slice Af d.finals.length cf)) := hid ((h.later hB0).at hX0 hbw)
  have hs0 : w.heap.size + 2 ≤ w0.heap.size := by rw [hw0]; simp
  have HB0 := hid hB0
  have HX0 := hid hX0
  have HR0 := hid hR0
  have HW0 := hid hw0
  clear h hB0 hX0 hR0 hw0
  unfold aggD
  go_enter Tryd.func30, Tryd.ntmps30
  go_wp2_with fail
  rw [← HW0.out]
  clear HW0
  refine (rtext2 s 0 ⟨#[117, 109, 108, 97, 117, 116, 32]⟩ (Nat.zero_le _) hs (by decide) _).mono ?_
  rintro e w1 ⟨rfl, i, ok1, rfl, hats1, -, -⟩
  have his := hats1.1
  go_wp2_with fail
  refine (rlist_calls s i 4 his hs (by decide) _).mono ?_
  rintro e w2 ⟨hb2, v1, k, ok2, st1, xs, rfl, hfin1, hats2, hgood, hbadv⟩
  have hks := hats2.1
  obtain ⟨st3, hf3, hats3⟩ := AtS.fin hats1 hfin1 hats2
  have HF3 : Hid (Fin st3 ((lit [117, 109, 108, 97, 117, 116, 32] s.data.toList).bind (numsF 0 4)) xs) := hid hf3
  have HATS0 : Hid (AtS s k (ok1 && ok2) st3) := hid hats3
  have HGOOD := hid hgood
  have HBADV := hid hbadv
  have hbE : Below base w w2 := (HB0.out.mono hbw).trans (hb2.mono (by omega))
  have HXE := hid ((hb2.block w.heap.size (by omega)).trans HX0.out)
  have HRE := hid ((hb2.block (w.heap.size + 1) (by omega)).trans HR0.out)
  have hsz2 := hb2.size
  clear hats1 hfin1 hats2 hf3 hats3 hgood hbadv
  obtain ⟨A1, n1, c1, rfl⟩ : ∃ A n c, v1 = .slice A n c := by
    cases ok2 with
    | false => exact ⟨_, _, _, HBADV.out rfl⟩
    | true => obtain ⟨h1, _⟩ := HGOOD.out rfl; obtain ⟨A, c, h2⟩ := row_form h1; exact ⟨A, _, c, h2⟩
  cases ok1 with
  | false =>
    have HATS : Hid (AtS s k false st3) := hid HATS0.out
    have HN : Hid (lineF true d s.data.toList = none) := hid (by show headF s.data.toList = none; exact (head_res HF3.out).2 (by rw [HATS.out.none]; simp))
    have c0 : w2.cell? ⟨w.heap.size, 0, none⟩ = some (.int .i64 d.inn) := by rw [Lib.cell_of_heap HXE.out]; rfl
    have c1 : w2.cell? ⟨w.heap.size, 1, none⟩ = some (.int .i64 d.out) := by rw [Lib.cell_of_heap HXE.out]; rfl
    have c2 : w2.cell? ⟨w.heap.size, 2, none⟩ = some (.int .i64 d.states) := by rw [Lib.cell_of_heap HXE.out]; rfl
    have c3 : w2.cell? ⟨w.heap.size, 3, none⟩ = some (.int .i64 d.start) := by rw [Lib.cell_of_heap HXE.out]; rfl
    have c4 : w2.cell? ⟨w.heap.size, 4, none⟩ = some (.slice Ar d.rules.length cr) := by rw [Lib.cell_of_heap HXE.out]; rfl
    have c5 : w2.cell? ⟨w.heap.size, 5, none⟩ = some (.slice Af d.finals.length cf) := by rw [Lib.cell_of_heap HXE.out]; rfl
    have r0 : w2.cell? ⟨w.heap.size + 1, 0, none⟩ = some (.int .i64 0) := by rw [Lib.cell_of_heap HRE.out]; rfl
    have r1 : w2.cell? ⟨w.heap.size + 1, 1, none⟩ = some (.int .i64 0) := by rw [Lib.cell_of_heap HRE.out]; rfl
    have r2 : w2.cell? ⟨w.heap.size + 1, 2, none⟩ = some (.int .i64 0) := by rw [Lib.cell_of_heap HRE.out]; rfl
    have r3 : w2.cell? ⟨w.heap.size + 1, 3, none⟩ = some (.int .i64 0) := by rw [Lib.cell_of_heap HRE.out]; rfl
    have r4 : w2.cell? ⟨w.heap.size + 1, 4, none⟩ = some (.slice none 0 0) := by rw [Lib.cell_of_heap HRE.out]; rfl
    have r5 : w2.cell? ⟨w.heap.size + 1, 5, none⟩ = some (.slice none 0 0) := by rw [Lib.cell_of_heap HRE.out]; rfl
    have rf0 : w2.frozen? ⟨w.heap.size + 1, 0, none⟩ = false := Lib.frozen_of_heap HRE.out _
    have rf1 : w2.frozen? ⟨w.heap.size + 1, 1, none⟩ = false := Lib.frozen_of_heap HRE.out _
    have rf2 : w2.frozen? ⟨w.heap.size + 1, 2, none⟩ = false := Lib.frozen_of_heap HRE.out _
    have rf3 : w2.frozen? ⟨w.heap.size + 1, 3, none⟩ = false := Lib.frozen_of_heap HRE.out _
    have rf4 : w2.frozen? ⟨w.heap.size + 1, 4, none⟩ = false := Lib.frozen_of_heap HRE.out _
    have rf5 : w2.frozen? ⟨w.heap.size + 1, 5, none⟩ = false := Lib.frozen_of_heap HRE.out _
    go_wp2_with fail
    exact bodyPost_ret (v := .tuple #[.agg #[.int .i64 d.inn, .int .i64 d.out, .int .i64 d.states, .int .i64 d.start, .slice Ar d.rules.length cr, .slice Af d.finals.length cf], .bool false]) (by simp [results, Tryd.results30, go_sem, r0, r1, r2, r3, r4, r5]) rfl (rline_none (d2 := d) HN.out (set6_below hbE (by omega)))
  | true =>
    cases ok2 with
    | false =>
      have HATS : Hid (AtS s k false st3) := hid HATS0.out
      have HN : Hid (lineF true d s.data.toList = none) := hid (by show headF s.data.toList = none; exact (head_res HF3.out).2 (by rw [HATS.out.none]; simp))
      have c0 : w2.cell? ⟨w.heap.size, 0, none⟩ = some (.int .i64 d.inn) := by rw [Lib.cell_of_heap HXE.out]; rfl
      have c1 : w2.cell? ⟨w.heap.size, 1, none⟩ = some (.int .i64 d.out) := by rw [Lib.cell_of_heap HXE.out]; rfl
      have c2 : w2.cell? ⟨w.heap.size, 2, none⟩ = some (.int .i64 d.states) := by rw [Lib.cell_of_heap HXE.out]; rfl
      have c3 : w2.cell? ⟨w.heap.size, 3, none⟩ = some (.int .i64 d.start) := by rw [Lib.cell_of_heap HXE.out]; rfl
      have c4 : w2.cell? ⟨w.heap.size, 4, none⟩ = some (.slice Ar d.rules.length cr) := by rw [Lib.cell_of_heap HXE.out]; rfl
      have c5 : w2.cell? ⟨w.heap.size, 5, none⟩ = some (.slice Af d.finals.length cf) := by rw [Lib.cell_of_heap HXE.out]; rfl
      have r0 : w2.cell? ⟨w.heap.size + 1, 0, none⟩ = some (.int .i64 0) := by rw [Lib.cell_of_heap HRE.out]; rfl
      have r1 : w2.cell? ⟨w.heap.size + 1, 1, none⟩ = some (.int .i64 0) := by rw [Lib.cell_of_heap HRE.out]; rfl
      have r2 : w2.cell? ⟨w.heap.size + 1, 2, none⟩ = some (.int .i64 0) := by rw [Lib.cell_of_heap HRE.out]; rfl
      have r3 : w2.cell? ⟨w.heap.size + 1, 3, none⟩ = some (.int .i64 0) := by rw [Lib.cell_of_heap HRE.out]; rfl
      have r4 : w2.cell? ⟨w.heap.size + 1, 4, none⟩ = some (.slice none 0 0) := by rw [Lib.cell_of_heap HRE.out]; rfl
      have r5 : w2.cell? ⟨w.heap.size + 1, 5, none⟩ = some (.slice none 0 0) := by rw [Lib.cell_of_heap HRE.out]; rfl
      have rf0 : w2.frozen? ⟨w.heap.size + 1, 0, none⟩ = false := Lib.frozen_of_heap HRE.out _
      have rf1 : w2.frozen? ⟨w.heap.size + 1, 1, none⟩ = false := Lib.frozen_of_heap HRE.out _
      have rf2 : w2.frozen? ⟨w.heap.size + 1, 2, none⟩ = false := Lib.frozen_of_heap HRE.out _
      have rf3 : w2.frozen? ⟨w.heap.size + 1, 3, none⟩ = false := Lib.frozen_of_heap HRE.out _
      have rf4 : w2.frozen? ⟨w.heap.size + 1, 4, none⟩ = false := Lib.frozen_of_heap HRE.out _
      have rf5 : w2.frozen? ⟨w.heap.size + 1, 5, none⟩ = false := Lib.frozen_of_heap HRE.out _
      go_wp2_with fail
      exact bodyPost_ret (v := .tuple #[.agg #[.int .i64 d.inn, .int .i64 d.out, .int .i64 d.states, .int .i64 d.start, .slice Ar d.rules.length cr, .slice Af d.finals.length cf], .bool false]) (by simp [results, Tryd.results30, go_sem, r0, r1, r2, r3, r4, r5]) rfl (rline_none (d2 := d) HN.out (set6_below hbE (by omega)))
    | true =>
      have HATS : Hid (AtS s k true st3) := hid HATS0.out
      by_cases hk : k = s.size
      · obtain ⟨hown1, hxl, hall⟩ := HGOOD.out rfl
        obtain ⟨a0, a1, a2, a3, rfl⟩ := list4 hxl
        obtain ⟨g1, c1', hv1, hg1ge, hg1lt, hcells⟩ := own_cells hown1 (by simp)
        injection hv1 with e1 e2 e3
        subst e1 e2 e3
        have HI : Hid (I64 a0 ∧ I64 a1 ∧ I64 a2 ∧ I64 a3) := hid ⟨hall a0 (by simp), hall a1 (by simp), hall a2 (by simp), hall a3 (by simp)⟩
        have HY : Hid (lineF true d s.data.toList = some (headOf [a0, a1, a2, a3])) := hid (by show headF s.data.toList = _; exact (head_res HF3.out).1 (by rw [HATS.out.some, rest_end (by omega)]))
        have HC := hid (And.intro (hcells 0 a0 rfl) (And.intro (hcells 1 a1 rfl) (And.intro (hcells 2 a2 rfl) (hcells 3 a3 rfl))))
        have hg1r : g1 ≠ w.heap.size + 1 := by omega
        have hk' : (k : Int) = s.size := by omega
        clear hown1 hxl hall hcells hk
        go_wp2_with fail
        obtain ⟨ι, W, ⟨i0, hi0⟩, hW, Wsur⟩ := held_class w2.drew (fun g => g = g1)
        have hne : Nonempty ι := ⟨i0⟩
        have q0 : ∀ i, (W i).cell? ⟨g1, 0, none⟩ = some (.int .i64 a0) := fun i => (cell_of_heap_eq (w := w2) (hW i _ rfl)).trans HC.out.1
        have q1 : ∀ i, (W i).cell? ⟨g1, 1, none⟩ = some (.int .i64 a1) := fun i => (cell_of_heap_eq (w := w2) (hW i _ rfl)).trans HC.out.2.1
        have q2 : ∀ i, (W i).cell? ⟨g1, 2, none⟩ = some (.int .i64 a2) := fun i => (cell_of_heap_eq (w := w2) (hW i _ rfl)).trans HC.out.2.2.1
        have q3 : ∀ i, (W i).cell? ⟨g1, 3, none⟩ = some (.int .i64 a3) := fun i => (cell_of_heap_eq (w := w2) (hW i _ rfl)).trans HC.out.2.2.2
        have WS := hid Wsur; clear Wsur
        have HW := hid hW; clear hW
        have Hi0 := hid hi0; clear hi0
        refine region_anyL (S := fun w' => ∃ i, w' = W i) (last := 15) (by kernel_rfl) ?_
        refine anyL_seg 0 13 (by kernel_rfl) (fun _ _ _ _ _ h => h) ⟨i0, Hi0.out.symm⟩ (f := 2) rfl (by kernel_rfl) (by kernel_rfl) ?_
        simp only [List.drop_zero, List.take_succ_cons, List.take_zero]
        repeat go_big_quiet_step (fail)
        refine wpQuiet_nil ?_
        refine anyL_act (i := 13) (by kernel_rfl) rfl rfl ?_
        intro K hK
        have r0 : w2.cell? ⟨w.heap.size + 1, 0, none⟩ = some (.int .i64 0) := by rw [Lib.cell_of_heap HRE.out]; rfl
        have r1 : w2.cell? ⟨w.heap.size + 1, 1, none⟩ = some (.int .i64 0) := by rw [Lib.cell_of_heap HRE.out]; rfl
        have r2 : w2.cell? ⟨w.heap.size + 1, 2, none⟩ = some (.int .i64 0) := by rw [Lib.cell_of_heap HRE.out]; rfl
        have r3 : w2.cell? ⟨w.heap.size + 1, 3, none⟩ = some (.int .i64 0) := by rw [Lib.cell_of_heap HRE.out]; rfl
        have r4 : w2.cell? ⟨w.heap.size + 1, 4, none⟩ = some (.slice none 0 0) := by rw [Lib.cell_of_heap HRE.out]; rfl
        have r5 : w2.cell? ⟨w.heap.size + 1, 5, none⟩ = some (.slice none 0 0) := by rw [Lib.cell_of_heap HRE.out]; rfl
        have rf0 : w2.frozen? ⟨w.heap.size + 1, 0, none⟩ = false := Lib.frozen_of_heap HRE.out _
        have rf1 : w2.frozen? ⟨w.heap.size + 1, 1, none⟩ = false := Lib.frozen_of_heap HRE.out _
        have rf2 : w2.frozen? ⟨w.heap.size + 1, 2, none⟩ = false := Lib.frozen_of_heap HRE.out _
        have rf3 : w2.frozen? ⟨w.heap.size + 1, 3, none⟩ = false := Lib.frozen_of_heap HRE.out _
        have rf4 : w2.frozen? ⟨w.heap.size + 1, 4, none⟩ = false := Lib.frozen_of_heap HRE.out _
        have rf5 : w2.frozen? ⟨w.heap.size + 1, 5, none⟩ = false := Lib.frozen_of_heap HRE.out _
        go_wp2_with fail
        have hk6 := fun g hg => set6_heap (w := w2) (b := w.heap.size + 1) (v0 := .int .i64 a0) (v1 := .int .i64 a1) (v2 := .int .i64 a2) (v3 := .int .i64 a3) (v4 := .slice none 0 0) (v5 := .slice none 0 0) g hg
        have ha6 := set6_at (v0 := .int .i64 a0) (v1 := .int .i64 a1) (v2 := .int .i64 a2) (v3 := .int .i64 a3) (v4 := .slice none 0 0) (v5 := .slice none 0 0) HRE.out
        have hb6 := set6_below (b := w.heap.size + 1) (v0 := .int .i64 a0) (v1 := .int .i64 a1) (v2 := .int .i64 a2) (v3 := .int .i64 a3) (v4 := .slice none 0 0) (v5 := .slice none 0 0) hbE (by omega)
        unfold set6 at hk6 ha6 hb6
        generalize ((((((w2.setCell ⟨w.heap.size + 1, 0, none⟩ (.int .i64 a0)).setCell ⟨w.heap.size + 1, 1, none⟩ (.int .i64 a1)).setCell ⟨w.heap.size + 1, 2, none⟩ (.int .i64 a2)).setCell ⟨w.heap.size + 1, 3, none⟩ (.int .i64 a3)).setCell ⟨w.heap.size + 1, 4, none⟩ (.slice none 0 0)).setCell ⟨w.heap.size + 1, 5, none⟩ (.slice none 0 0)) = w3 at hk6 ha6 hb6 ⊢
        clear r0 r1 r2 r3 r4 r5 rf0 rf1 rf2 rf3 rf4 rf5
        have hsur : ∃ i, w3.drew = W i := WS.out _ (fun g hg => by subst hg; exact hk6 _ hg1r)
        refine hK.out _ _ (fun _ => hsur) ?_
        clear hK K
        refine anyL_seg 14 1 (by kernel_rfl) (fun _ _ _ _ _ h => h) hsur (f := 0) rfl (by kernel_rfl) (by kernel_rfl) ?_
        simp only [List.drop_succ_cons, List.drop_zero, List.take_succ_cons, List.take_zero]
        repeat go_big_quiet_step (fail)
        refine wpQuiet_nil ?_
        refine anyL_done (by kernel_rfl) ?_ _
        clear q0 q1 q2 q3 WS HW hsur Hi0 hne i0 W ι
        have r0 : w3.cell? ⟨w.heap.size + 1, 0, none⟩ = some (.int .i64 a0) := by rw [Lib.cell_of_heap ha6]; rfl
        have r1 : w3.cell? ⟨w.heap.size + 1, 1, none⟩ = some (.int .i64 a1) := by rw [Lib.cell_of_heap ha6]; rfl
        have r2 : w3.cell? ⟨w.heap.size + 1, 2, none⟩ = some (.int .i64 a2) := by rw [Lib.cell_of_heap ha6]; rfl
        have r3 : w3.cell? ⟨w.heap.size + 1, 3, none⟩ = some (.int .i64 a3) := by rw [Lib.cell_of_heap ha6]; rfl
        have r4 : w3.cell? ⟨w.heap.size + 1, 4, none⟩ = some (.slice none 0 0) := by rw [Lib.cell_of_heap ha6]; rfl
        have r5 : w3.cell? ⟨w.heap.size + 1, 5, none⟩ = some (.slice none 0 0) := by rw [Lib.cell_of_heap ha6]; rfl
        go_wp2_with fail
        exact bodyPost_ret (v := .tuple #[.agg #[.int .i64 a0, .int .i64 a1, .int .i64 a2, .int .i64 a3, .slice none 0 0, .slice none 0 0], .bool true]) (by simp [results, Tryd.results30, go_sem, r0, r1, r2, r3, r4, r5]) rfl (rline_some HY.out ⟨OwnR.nil, OwnR.nil, HI.out⟩ hb6.drew)
      · have HN : Hid (lineF true d s.data.toList = none) := hid (by
          show headF s.data.toList = none
          exact (head_res HF3.out).2 (by rw [HATS.out.some]; intro h; injection h with h; exact rest_more (by omega) h))
        have hk' : ¬ (k : Int) = s.size := by omega
        have hk2 : ((k : Int) == s.size) = false := by simpa using hk'
        have c0 : w2.cell? ⟨w.heap.size, 0, none⟩ = some (.int .i64 d.inn) := by rw [Lib.cell_of_heap HXE.out]; rfl
        have c1 : w2.cell? ⟨w.heap.size, 1, none⟩ = some (.int .i64 d.out) := by rw [Lib.cell_of_heap HXE.out]; rfl
        have c2 : w2.cell? ⟨w.heap.size, 2, none⟩ = some (.int .i64 d.states) := by rw [Lib.cell_of_heap HXE.out]; rfl
        have c3 : w2.cell? ⟨w.heap.size, 3, none⟩ = some (.int .i64 d.start) := by rw [Lib.cell_of_heap HXE.out]; rfl
        have c4 : w2.cell? ⟨w.heap.size, 4, none⟩ = some (.slice Ar d.rules.length cr) := by rw [Lib.cell_of_heap HXE.out]; rfl
        have c5 : w2.cell? ⟨w.heap.size, 5, none⟩ = some (.slice Af d.finals.length cf) := by rw [Lib.cell_of_heap HXE.out]; rfl
        have r0 : w2.cell? ⟨w.heap.size + 1, 0, none⟩ = some (.int .i64 0) := by rw [Lib.cell_of_heap HRE.out]; rfl
        have r1 : w2.cell? ⟨w.heap.size + 1, 1, none⟩ = some (.int .i64 0) := by rw [Lib.cell_of_heap HRE.out]; rfl
        have r2 : w2.cell? ⟨w.heap.size + 1, 2, none⟩ = some (.int .i64 0) := by rw [Lib.cell_of_heap HRE.out]; rfl
        have r3 : w2.cell? ⟨w.heap.size + 1, 3, none⟩ = some (.int .i64 0) := by rw [Lib.cell_of_heap HRE.out]; rfl
        have r4 : w2.cell? ⟨w.heap.size + 1, 4, none⟩ = some (.slice none 0 0) := by rw [Lib.cell_of_heap HRE.out]; rfl
        have r5 : w2.cell? ⟨w.heap.size + 1, 5, none⟩ = some (.slice none 0 0) := by rw [Lib.cell_of_heap HRE.out]; rfl
        have rf0 : w2.frozen? ⟨w.heap.size + 1, 0, none⟩ = false := Lib.frozen_of_heap HRE.out _
        have rf1 : w2.frozen? ⟨w.heap.size + 1, 1, none⟩ = false := Lib.frozen_of_heap HRE.out _
        have rf2 : w2.frozen? ⟨w.heap.size + 1, 2, none⟩ = false := Lib.frozen_of_heap HRE.out _
        have rf3 : w2.frozen? ⟨w.heap.size + 1, 3, none⟩ = false := Lib.frozen_of_heap HRE.out _
        have rf4 : w2.frozen? ⟨w.heap.size + 1, 4, none⟩ = false := Lib.frozen_of_heap HRE.out _
        have rf5 : w2.frozen? ⟨w.heap.size + 1, 5, none⟩ = false := Lib.frozen_of_heap HRE.out _
        go_wp2_with fail
        exact bodyPost_ret (v := .tuple #[.agg #[.int .i64 d.inn, .int .i64 d.out, .int .i64 d.states, .int .i64 d.start, .slice Ar d.rules.length cr, .slice Af d.finals.length cf], .bool false]) (by simp [results, Tryd.results30, go_sem, r0, r1, r2, r3, r4, r5]) rfl (rline_none (d2 := d) HN.out (set6_below hbE (by omega)))
end Go.Proofs.YtcdnkmefcldfmaaDoor
