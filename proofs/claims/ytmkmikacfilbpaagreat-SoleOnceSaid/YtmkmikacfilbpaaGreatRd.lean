import Derived.Test.YtmkmikacfilbpaaGreatKPlain
import Derived.Test.YtmkmikacfilbpaaGreatRwA
import Derived.WalkKit
import Derived.ProofKit
import Derived.OpenShut
import Derived.ChangeOld
namespace Go.Proofs.YtmkmikacfilbpaaGreat
open Go.RowKit Go.Um Go.ChangeShapes Go.WideShapes Go.ChangeAt Go.Deep

section
variable {H : Type} {enc : TypeId × Value → H} {w : World} {base : Nat} {spare : Nat → Bool} {held : Bool}
theorem rd_int {fuel : Nat} {v : Value} {x : DataW H × List MemPlace} {t : TypeId} (ht : Tryz.prog.underlying t = some (.int .i64)) (h : DataW.trod enc Tryz.prog w base spare held fuel t [v] = some x) : ∃ n : Int, v = .int .i64 n ∧ I64 n := by
  obtain ⟨n, h1, h2, h3⟩ := DataW.trod_int ht h
  simp at h1
  subst h1
  refine ⟨n, rfl, ?_⟩
  simp [Lit.wf] at h3
  exact ⟨h3.1, h3.2⟩
theorem rd_span {fuel : Nat} {cs : List Value} {x : DataW H × List MemPlace} (h : DataW.trod enc Tryz.prog w base spare held fuel 64 cs = some x) : ∃ y, spanR.rel w (upto w.heap.size) cs y := by
  obtain ⟨hl, n, hf⟩ := open_fields Tryz.underlying64 (by kernel_rfl) (by kernel_rfl) h
  obtain ⟨v0, y0, c0, t0⟩ := hf 0 _ rfl
  obtain ⟨v1, y1, c1, t1⟩ := hf 1 _ rfl
  obtain ⟨n0, rfl, i0⟩ := rd_int Tryz.underlying3 t0
  obtain ⟨n1, rfl, i1⟩ := rd_int Tryz.underlying3 t1
  match cs, hl with
  | [a, b], _ =>
    simp at c0 c1
    subst c0 c1
    exact ⟨⟨n0, n1⟩, rfl, i0, i1⟩
theorem rd_part {fuel : Nat} {cs : List Value} {x : DataW H × List MemPlace} (h : DataW.trod enc Tryz.prog w base spare held fuel 102 cs = some x) : ∃ y, partR.rel w (upto w.heap.size) cs y := by
  obtain ⟨hl, n, hf⟩ := open_fields Tryz.underlying102 (by kernel_rfl) (by kernel_rfl) h
  obtain ⟨v0, y0, c0, t0⟩ := hf 0 _ rfl
  obtain ⟨v1, y1, c1, t1⟩ := hf 1 _ rfl
  obtain ⟨v2, y2, c2, t2⟩ := hf 2 _ rfl
  obtain ⟨v3, y3, c3, t3⟩ := hf 3 _ rfl
  obtain ⟨n0, rfl, i0⟩ := rd_int Tryz.underlying3 t0
  obtain ⟨n1, rfl, i1⟩ := rd_int Tryz.underlying3 t1
  obtain ⟨n2, rfl, i2⟩ := rd_int Tryz.underlying3 t2
  obtain ⟨n3, rfl, i3⟩ := rd_int Tryz.underlying3 t3
  match cs, hl with
  | [a, b, c, d], _ =>
    simp at c0 c1 c2 c3
    subst c0 c1 c2 c3
    exact ⟨⟨n0, n1, n2, n3⟩, rfl, i0, i1, i2, i3⟩
theorem rd_spans {fuel : Nat} {cs : List Value} {x : DataW H × List MemPlace} (h : DataW.trod enc Tryz.prog w base spare held fuel 65 cs = some x) : ∃ ys, spansR.rel w (upto w.heap.size) cs ys :=
  open_rep (r := spanR) Tryz.underlying65 (by kernel_rfl) (by decide) (fun _ _ _ h => rd_span h) h
theorem rd_guards {fuel : Nat} {cs : List Value} {x : DataW H × List MemPlace} (h : DataW.trod enc Tryz.prog w base spare held fuel 53 cs = some x) : ∃ ys, (listR spansR).rel w (upto w.heap.size) cs ys :=
  open_rep (r := spansR) Tryz.underlying53 (by kernel_rfl) (by decide) (fun _ _ _ h => rd_spans h) h
theorem rd_parts {fuel : Nat} {cs : List Value} {x : DataW H × List MemPlace} (h : DataW.trod enc Tryz.prog w base spare held fuel 88 cs = some x) : ∃ ys, (listR partR).rel w (upto w.heap.size) cs ys :=
  open_rep (r := partR) Tryz.underlying88 (by kernel_rfl) (by decide) (fun _ _ _ h => rd_part h) h
theorem rd_term {fuel : Nat} {cs : List Value} {x : DataW H × List MemPlace} (h : DataW.trod enc Tryz.prog w base spare held fuel 90 cs = some x) : ∃ y, termR.rel w (upto w.heap.size) cs y := by
  obtain ⟨hl, n, hf⟩ := open_fields Tryz.underlying90 (by kernel_rfl) (by kernel_rfl) h
  obtain ⟨v0, y0, c0, t0⟩ := hf 0 _ rfl
  obtain ⟨v1, y1, c1, t1⟩ := hf 1 _ rfl
  obtain ⟨v2, y2, c2, t2⟩ := hf 2 _ rfl
  obtain ⟨v3, y3, c3, t3⟩ := hf 3 _ rfl
  obtain ⟨v4, y4, c4, t4⟩ := hf 4 _ rfl
  obtain ⟨v5, y5, c5, t5⟩ := hf 5 _ rfl
  obtain ⟨n0, rfl, i0⟩ := rd_int Tryz.underlying3 t0
  obtain ⟨n1, rfl, i1⟩ := rd_int Tryz.underlying3 t1
  obtain ⟨n2, rfl, i2⟩ := rd_int Tryz.underlying3 t2
  obtain ⟨n3, rfl, i3⟩ := rd_int Tryz.underlying3 t3
  obtain ⟨n4, rfl, i4⟩ := rd_int Tryz.underlying3 t4
  obtain ⟨ps, hp⟩ := rd_parts t5
  match cs, hl with
  | [a, b, c, d, e, f], _ =>
    simp at c0 c1 c2 c3 c4 c5
    subst c0 c1 c2 c3 c4 c5
    exact ⟨⟨n0, n1, n2, n3, n4, ps⟩, _, rfl, ⟨i0, i1, i2, i3, i4⟩, hp⟩
theorem rd_terms {fuel : Nat} {cs : List Value} {x : DataW H × List MemPlace} (h : DataW.trod enc Tryz.prog w base spare held fuel 54 cs = some x) : ∃ ys, (listR termR).rel w (upto w.heap.size) cs ys :=
  open_rep (r := termR) Tryz.underlying54 (by kernel_rfl) (by decide) (fun _ _ _ h => rd_term h) h
theorem rd_rule {fuel : Nat} {cs : List Value} {x : DataW H × List MemPlace} (h : DataW.trod enc Tryz.prog w base spare held fuel 56 cs = some x) : ∃ y, ruleR.rel w (upto w.heap.size) cs y := by
  obtain ⟨hl, n, hf⟩ := open_fields Tryz.underlying56 (by kernel_rfl) (by kernel_rfl) h
  obtain ⟨v0, y0, c0, t0⟩ := hf 0 _ rfl
  obtain ⟨v1, y1, c1, t1⟩ := hf 1 _ rfl
  obtain ⟨v2, y2, c2, t2⟩ := hf 2 _ rfl
  obtain ⟨v3, y3, c3, t3⟩ := hf 3 _ rfl
  obtain ⟨v4, y4, c4, t4⟩ := hf 4 _ rfl
  obtain ⟨n0, rfl, i0⟩ := rd_int Tryz.underlying3 t0
  obtain ⟨n1, rfl, i1⟩ := rd_int Tryz.underlying3 t1
  obtain ⟨gs, hg⟩ := rd_guards t2
  obtain ⟨n3, rfl, i3⟩ := rd_int Tryz.underlying3 t3
  obtain ⟨ts, ht⟩ := rd_terms t4
  match cs, hl with
  | [a, b, c, d, e], _ =>
    simp at c0 c1 c2 c3 c4
    subst c0 c1 c2 c3 c4
    exact ⟨⟨n0, n1, gs, n3, ts⟩, _, _, rfl, ⟨i0, i1, i3⟩, hg, ht⟩
theorem rd_final {fuel : Nat} {cs : List Value} {x : DataW H × List MemPlace} (h : DataW.trod enc Tryz.prog w base spare held fuel 59 cs = some x) : ∃ y, finalR.rel w (upto w.heap.size) cs y := by
  obtain ⟨hl, n, hf⟩ := open_fields Tryz.underlying59 (by kernel_rfl) (by kernel_rfl) h
  obtain ⟨v0, y0, c0, t0⟩ := hf 0 _ rfl
  obtain ⟨v1, y1, c1, t1⟩ := hf 1 _ rfl
  obtain ⟨v2, y2, c2, t2⟩ := hf 2 _ rfl
  obtain ⟨n0, rfl, i0⟩ := rd_int Tryz.underlying3 t0
  obtain ⟨gs, hg⟩ := rd_guards t1
  obtain ⟨ts, ht⟩ := rd_terms t2
  match cs, hl with
  | [a, b, c], _ =>
    simp at c0 c1 c2
    subst c0 c1 c2
    exact ⟨⟨n0, gs, ts⟩, _, _, rfl, i0, hg, ht⟩
theorem rd_rules {fuel : Nat} {cs : List Value} {x : DataW H × List MemPlace} (h : DataW.trod enc Tryz.prog w base spare held fuel 23 cs = some x) : ∃ ys, (listR ruleR).rel w (upto w.heap.size) cs ys :=
  open_rep (r := ruleR) Tryz.underlying23 (by kernel_rfl) (by decide) (fun _ _ _ h => rd_rule h) h
theorem rd_finals {fuel : Nat} {cs : List Value} {x : DataW H × List MemPlace} (h : DataW.trod enc Tryz.prog w base spare held fuel 24 cs = some x) : ∃ ys, (listR finalR).rel w (upto w.heap.size) cs ys :=
  open_rep (r := finalR) Tryz.underlying24 (by kernel_rfl) (by decide) (fun _ _ _ h => rd_final h) h
theorem rd_desc {fuel : Nat} {cs : List Value} {x : DataW H × List MemPlace} (h : DataW.trod enc Tryz.prog w base spare held fuel 26 cs = some x) : ∃ y, descR.rel w (upto w.heap.size) cs y := by
  obtain ⟨hl, n, hf⟩ := open_fields Tryz.underlying26 (by kernel_rfl) (by kernel_rfl) h
  obtain ⟨v0, y0, c0, t0⟩ := hf 0 _ rfl
  obtain ⟨v1, y1, c1, t1⟩ := hf 1 _ rfl
  obtain ⟨v2, y2, c2, t2⟩ := hf 2 _ rfl
  obtain ⟨v3, y3, c3, t3⟩ := hf 3 _ rfl
  obtain ⟨v4, y4, c4, t4⟩ := hf 4 _ rfl
  obtain ⟨v5, y5, c5, t5⟩ := hf 5 _ rfl
  obtain ⟨n0, rfl, i0⟩ := rd_int Tryz.underlying22 t0
  obtain ⟨n1, rfl, i1⟩ := rd_int Tryz.underlying22 t1
  obtain ⟨n2, rfl, i2⟩ := rd_int Tryz.underlying3 t2
  obtain ⟨n3, rfl, i3⟩ := rd_int Tryz.underlying3 t3
  obtain ⟨rs, hr⟩ := rd_rules t4
  obtain ⟨fs, hf'⟩ := rd_finals t5
  match cs, hl with
  | [a, b, c, d, e, f], _ =>
    simp at c0 c1 c2 c3 c4 c5
    subst c0 c1 c2 c3 c4 c5
    exact ⟨⟨n0, n1, n2, n3, rs, fs⟩, _, _, rfl, ⟨i0, i1, i2, i3⟩, hr, hf'⟩
theorem rd_rune {fuel : Nat} {cs : List Value} {x : DataW H × List MemPlace} (h : DataW.trod enc Tryz.prog w base spare held fuel 21 cs = some x) : ∃ y, runeR.rel w (upto w.heap.size) cs y := by
  obtain ⟨n, h1, h2, h3⟩ := DataW.trod_int Tryz.underlying21 h
  refine ⟨n, h1, ?_⟩
  simp [Lit.wf] at h3
  exact ⟨h3.1, h3.2⟩
theorem rd_word {fuel : Nat} {cs : List Value} {x : DataW H × List MemPlace} (h : DataW.trod enc Tryz.prog w base spare held fuel 27 cs = some x) : ∃ ys, wordR.rel w (upto w.heap.size) cs ys :=
  open_rep (r := runeR) Tryz.underlying27 (by kernel_rfl) (by decide) (fun _ _ _ h => rd_rune h) h
/-- one byte. -/
def byteR : RepOf Int where
  width := 1
  rel := fun _ _ cs x => cs = [.int .u8 x] ∧ 0 ≤ x ∧ x ≤ 255
  len := by rintro w S cs x ⟨rfl, _⟩; rfl
  mono := by intro w w' S S' cs x _ _ h; exact h
abbrev bytesR : RepOf (List Int) := listR byteR
theorem rd_byte {fuel : Nat} {cs : List Value} {x : DataW H × List MemPlace} (h : DataW.trod enc Tryz.prog w base spare held fuel 5 cs = some x) : ∃ y, byteR.rel w (upto w.heap.size) cs y := by
  obtain ⟨n, h1, h2, h3⟩ := DataW.trod_int Tryz.underlying5 h
  refine ⟨n, h1, ?_⟩
  simp [Lit.wf] at h3
  exact ⟨h3.1, h3.2⟩
theorem rd_bytes {fuel : Nat} {cs : List Value} {x : DataW H × List MemPlace} (h : DataW.trod enc Tryz.prog w base spare held fuel 37 cs = some x) : ∃ ys, bytesR.rel w (upto w.heap.size) cs ys :=
  open_rep (r := byteR) Tryz.underlying37 (by kernel_rfl) (by decide) (fun _ _ _ h => rd_byte h) h
end
end Go.Proofs.YtmkmikacfilbpaaGreat
