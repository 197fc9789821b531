/-
  page.line: a line, read into a description.
-/
import Derived.Test.YtcdnkmefcldfmaaDoorPgTs
namespace Go.Proofs.YtcdnkmefcldfmaaDoor
open Go.RowKit Go.Um

/-- where what is read lies. -/
def Dat (w : World) (g : Nat) : Prop := Tag 73 w g ∨ Tag 86 w g ∨ Tag 76 w g ∨ Tag 88 w g
theorem Dat.lt {w : World} {g : Nat} (h : Dat w g) : g < w.heap.size := by rcases h with h | h | h | h <;> exact h.lt
theorem Dat.keep {w w' : World} {g : Nat} (h : Dat w g) (hk : w'.heap[g]? = w.heap[g]?) : Dat w' g := by
  rcases h with h | h | h | h
  · exact .inl (h.keep hk)
  · exact .inr (.inl (h.keep hk))
  · exact .inr (.inr (.inl (h.keep hk)))
  · exact .inr (.inr (.inr (h.keep hk)))
theorem Dat.ne {w : World} {g g' : Nat} {t : TypeId} (h : Dat w g) (h' : Tag t w g') (h1 : 73 ≠ t) (h2 : 86 ≠ t) (h3 : 76 ≠ t) (h4 : 88 ≠ t) : g ≠ g' := by
  rcases h with h | h | h | h
  · exact Tag.ne h h' h1
  · exact Tag.ne h h' h2
  · exact Tag.ne h h' h3
  · exact Tag.ne h h' h4
/-- a description that is being read, in block p. -/
structure DescAt (base p : Nat) (d : Desc) (w : World) (vr vf : Value) : Prop where
  cells : w.heap[p]? = some (.cells #[.int .i64 d.inn, .int .i64 d.out, .int .i64 d.states, .int .i64 d.start, vr, vf] 26 (0, 0))
  rules : OwnR 45 ruleR w (Dat w) base vr d.rules
  finals : OwnR 47 finalR w (Dat w) base vf d.finals
  nums : I64 d.inn ∧ I64 d.out ∧ I64 d.states ∧ I64 d.start
  low : base ≤ p
theorem DescAt.lt {base p : Nat} {d : Desc} {w : World} {vr vf : Value} (h : DescAt base p d w vr vf) : p < w.heap.size := by
  have h := h.cells
  rcases Nat.lt_or_ge p w.heap.size with h' | h'
  · exact h'
  · simp [Array.getElem?_eq_none h'] at h
theorem DescAt.tag {base p : Nat} {d : Desc} {w : World} {vr vf : Value} (h : DescAt base p d w vr vf) : Tag 26 w p := ⟨_, _, h.cells⟩
theorem DescAt.later {base p : Nat} {d : Desc} {w w' : World} {vr vf : Value} (h : DescAt base p d w vr vf) (hb : Below w.heap.size w w') : DescAt base p d w' vr vf :=
  ⟨(hb.block p h.lt).trans h.cells, h.rules.keep (fun g hg => hb.block g (h.rules.tag g hg).1.lt) (fun _ hq => cell_of_heap_eq (hb.block _ hq.lt)) (fun g hg => hg.keep (hb.block g hg.lt)),
    h.finals.keep (fun g hg => hb.block g (h.finals.tag g hg).1.lt) (fun _ hq => cell_of_heap_eq (hb.block _ hq.lt)) (fun g hg => hg.keep (hb.block g hg.lt)), h.nums, h.low⟩
/-- what an append to a row of the call's own leaves. -/
theorem after_append {t : TypeId} {w5 wA w6 : World} {row : Option Nat} (hA : Below w5.heap.size w5 wA) (hg : wA.grownBy w6 row) (hrow : ∀ g, row = some g → Tag t w5 g) : ∀ g, g < w5.heap.size → ¬ Tag t w5 g → w6.heap[g]? = w5.heap[g]? :=
  fun g hlt hn => (hg.block g (Nat.lt_of_lt_of_le hlt hA.size) (fun he => hn (hrow g he.symm))).trans (hA.block g hlt)
theorem DescAt.addRule {base p : Nat} {d : Desc} {w5 wA w6 w7 : World} {vr vf v' : Value} {x : Rule} {cs : List Value} (h : DescAt base p d w5 vr vf) (hA : Below w5.heap.size w5 wA) (hg : wA.grownBy w6 vr.ownBlock)
    (hcells : w7.heap[p]? = some (.cells #[.int .i64 d.inn, .int .i64 d.out, .int .i64 d.states, .int .i64 d.start, v', vf] 26 (0, 0))) (h7 : ∀ g, g ≠ p → w7.heap[g]? = w6.heap[g]?)
    (hown : ∀ css : List (List Value), css.length = d.rules.length → w5.ownsRow base 45 5 vr d.rules.length css.flatten → w6.ownsRow base 45 5 v' (d.rules.length + 1) (css.flatten ++ cs)) (hx : ruleR.rel w5 (Dat w5) cs x) : DescAt base p (addR d x) w7 v' vf := by
  have hk := after_append hA hg (fun g hg => (h.rules.tag g hg).1)
  have hdat : ∀ g, Dat w5 g → w7.heap[g]? = w5.heap[g]? := fun g hg' =>
    (h7 g (Dat.ne hg' h.tag (by decide) (by decide) (by decide) (by decide))).trans (hk g hg'.lt (fun ht => Dat.ne hg' ht (by decide) (by decide) (by decide) (by decide) rfl))
  refine ⟨hcells, ?_, ?_, h.nums, h.low⟩
  · obtain ⟨css, hl, ho, hel⟩ := h.rules
    have ho6 := hown css hl ho
    have ho7 : w7.ownsRow base 45 5 v' (d.rules.length + 1) (css.flatten ++ cs) := by
      refine ⟨ho6.1, ?_⟩
      rcases ho6.2 with h2 | ⟨g, cap, cur, rfl, h3, h4, h5⟩
      · exact .inl h2
      · refine .inr ⟨g, cap, cur, rfl, h3, (h7 g ?_).trans h4, h5⟩
        rintro rfl
        have h6 := hk _ h.lt (fun ht => Tag.ne h.tag ht (by decide) rfl)
        rw [h4, h.cells] at h6
        injection h6 with h6
        injection h6 with _ h6
        exact absurd h6 (by decide)
    exact OwnR.push (r := ruleR) hl ho7 (fun i y ds h1 h2 => ruleR.mono (fun q hq => cell_of_heap_eq (hdat _ hq)) (fun g hg' => hg'.keep (hdat g hg')) (hel i y ds h1 h2)) (ruleR.mono (fun q hq => cell_of_heap_eq (hdat _ hq)) (fun g hg' => hg'.keep (hdat g hg')) hx)
  · exact h.finals.keep (fun g hg' => (h7 g (fun he => Tag.ne (h.finals.tag g hg').1 h.tag (by decide) he)).trans (hk g (h.finals.tag g hg').1.lt (fun ht => Tag.ne (h.finals.tag g hg').1 ht (by decide) rfl)))
      (fun q hq => cell_of_heap_eq (hdat _ hq)) (fun g hg' => hg'.keep (hdat g hg'))
theorem DescAt.addFinal {base p : Nat} {d : Desc} {w5 wA w6 w7 : World} {vr vf v' : Value} {x : Final} {cs : List Value} (h : DescAt base p d w5 vr vf) (hA : Below w5.heap.size w5 wA) (hg : wA.grownBy w6 vf.ownBlock)
    (hcells : w7.heap[p]? = some (.cells #[.int .i64 d.inn, .int .i64 d.out, .int .i64 d.states, .int .i64 d.start, vr, v'] 26 (0, 0))) (h7 : ∀ g, g ≠ p → w7.heap[g]? = w6.heap[g]?)
    (hown : ∀ css : List (List Value), css.length = d.finals.length → w5.ownsRow base 47 3 vf d.finals.length css.flatten → w6.ownsRow base 47 3 v' (d.finals.length + 1) (css.flatten ++ cs)) (hx : finalR.rel w5 (Dat w5) cs x) : DescAt base p (addE d x) w7 vr v' := by
  have hk := after_append hA hg (fun g hg => (h.finals.tag g hg).1)
  have hdat : ∀ g, Dat w5 g → w7.heap[g]? = w5.heap[g]? := fun g hg' =>
    (h7 g (Dat.ne hg' h.tag (by decide) (by decide) (by decide) (by decide))).trans (hk g hg'.lt (fun ht => Dat.ne hg' ht (by decide) (by decide) (by decide) (by decide) rfl))
  refine ⟨hcells, ?_, ?_, h.nums, h.low⟩
  · exact h.rules.keep (fun g hg' => (h7 g (fun he => Tag.ne (h.rules.tag g hg').1 h.tag (by decide) he)).trans (hk g (h.rules.tag g hg').1.lt (fun ht => Tag.ne (h.rules.tag g hg').1 ht (by decide) rfl)))
      (fun q hq => cell_of_heap_eq (hdat _ hq)) (fun g hg' => hg'.keep (hdat g hg'))
  · obtain ⟨css, hl, ho, hel⟩ := h.finals
    have ho6 := hown css hl ho
    have ho7 : w7.ownsRow base 47 3 v' (d.finals.length + 1) (css.flatten ++ cs) := by
      refine ⟨ho6.1, ?_⟩
      rcases ho6.2 with h2 | ⟨g, cap, cur, rfl, h3, h4, h5⟩
      · exact .inl h2
      · refine .inr ⟨g, cap, cur, rfl, h3, (h7 g ?_).trans h4, h5⟩
        rintro rfl
        have h6 := hk _ h.lt (fun ht => Tag.ne h.tag ht (by decide) rfl)
        rw [h4, h.cells] at h6
        injection h6 with h6
        injection h6 with _ h6
        exact absurd h6 (by decide)
    exact OwnR.push (r := finalR) hl ho7 (fun i y ds h1 h2 => finalR.mono (fun q hq => cell_of_heap_eq (hdat _ hq)) (fun g hg' => hg'.keep (hdat g hg')) (hel i y ds h1 h2)) (finalR.mono (fun q hq => cell_of_heap_eq (hdat _ hq)) (fun g hg' => hg'.keep (hdat g hg')) hx)
/-- the end of a rule's or a final's line. -/
def TailAt (st' st : Option By) (ts : List Term) : Prop := (st' = some [] ∧ st.bind tailF = some ts) ∨ (st' = none ∧ st.bind tailF = none)
theorem body_res {s2 s3 s4 : Option By} {gs : List (List Span)} {ts : List Term} (h1 : Fin s3 (s2.bind fun l => guardsF2 (l.length + 1) l) gs) (h2 : TailAt s4 s3 ts) : (s4 = some [] ∧ s2.bind bodyF = some (gs, ts)) ∨ (s4 = none ∧ s2.bind bodyF = none) := by
  cases s2 with
  | none =>
    rcases h1 with ⟨r, rfl, h⟩ | ⟨rfl, _⟩
    · cases h
    · rcases h2 with ⟨_, h⟩ | ⟨rfl, _⟩
      · cases h
      · exact .inr ⟨rfl, rfl⟩
  | some l =>
    simp only [Option.bind_some] at h1 ⊢
    unfold bodyF
    rcases h1 with ⟨r, rfl, h⟩ | ⟨rfl, h⟩
    · rw [h]
      rcases h2 with ⟨rfl, h⟩ | ⟨rfl, h⟩
      · simp only [Option.bind_some] at h
        exact .inl ⟨rfl, by simp [h]⟩
      · simp only [Option.bind_some] at h
        exact .inr ⟨rfl, by simp [h]⟩
    · rw [h]
      rcases h2 with ⟨_, h⟩ | ⟨rfl, _⟩
      · cases h
      · exact .inr ⟨rfl, rfl⟩
theorem rule_res {l : By} {s2 s3 s4 : Option By} {xs : List Int} {gs : List (List Span)} {ts : List Term} (h0 : Fin s2 (numsF 0 3 l) xs) (h1 : Fin s3 (s2.bind fun l => guardsF2 (l.length + 1) l) gs) (h2 : TailAt s4 s3 ts) :
    (s4 = some [] ∧ ruleF l = some (ruleOf gs ts xs)) ∨ (s4 = none ∧ ruleF l = none) := by
  have hb := body_res h1 h2
  unfold ruleF
  rcases h0 with ⟨r, rfl, h⟩ | ⟨rfl, h⟩
  · rw [h]
    simp only [Option.bind_some] at hb ⊢
    rcases hb with ⟨h3, h4⟩ | ⟨h3, h4⟩
    · exact .inl ⟨h3, by rw [h4]; rfl⟩
    · exact .inr ⟨h3, by rw [h4]; rfl⟩
  · rw [h]
    rcases hb with ⟨h3, h4⟩ | ⟨h3, h4⟩
    · cases h4
    · exact .inr ⟨h3, rfl⟩
theorem final_res {s1 s2 s3 s4 : Option By} {x : Int} {gs : List (List Span)} {ts : List Term} (h0 : Fin s2 (s1.bind numF) x) (h1 : Fin s3 (s2.bind fun l => guardsF2 (l.length + 1) l) gs) (h2 : TailAt s4 s3 ts) :
    (s4 = some [] ∧ s1.bind finalF = some ⟨x, gs, ts⟩) ∨ (s4 = none ∧ s1.bind finalF = none) := by
  have hb := body_res h1 h2
  cases s1 with
  | none =>
    rcases h0 with ⟨r, rfl, h⟩ | ⟨rfl, h⟩
    · cases h
    · rcases hb with ⟨h3, h4⟩ | ⟨h3, h4⟩
      · cases h4
      · exact .inr ⟨h3, rfl⟩
  | some l =>
    simp only [Option.bind_some] at h0 ⊢
    unfold finalF
    rcases h0 with ⟨r, rfl, h⟩ | ⟨rfl, h⟩
    · rw [h]
      simp only [Option.bind_some] at hb ⊢
      rcases hb with ⟨h3, h4⟩ | ⟨h3, h4⟩
      · exact .inl ⟨h3, by rw [h4]; rfl⟩
      · exact .inr ⟨h3, by rw [h4]; rfl⟩
    · rw [h]
      rcases hb with ⟨h3, h4⟩ | ⟨h3, h4⟩
      · cases h4
      · exact .inr ⟨h3, rfl⟩
theorem head_res {l : By} {s2 : Option By} {xs : List Int} (h : Fin s2 ((lit [117, 109, 108, 97, 117, 116, 32] l).bind (numsF 0 4)) xs) : (s2 = some [] → headF l = some (headOf xs)) ∧ (s2 ≠ some [] → headF l = none) := by
  unfold headF
  rcases h with ⟨r, rfl, h⟩ | ⟨rfl, h⟩
  · obtain ⟨l1, h1, h2⟩ := Option.bind_eq_some_iff.1 h
    rw [h1]
    simp only [Option.bind_some, h2]
    exact ⟨fun e => by injection e with e; rw [if_pos e], fun e => by rw [if_neg (fun e' => e (by rw [e']))]⟩
  · refine ⟨fun e => (by cases e), fun _ => ?_⟩
    rw [Option.bind_eq_none_iff] at h ⊢
    intro l1 h1
    rw [h l1 h1]
    rfl
def LinePost (base p : Nat) (first : Bool) (d : Desc) (l : By) (w : World) (e : Ending) (w' : World) : Prop :=
  e = .returned (.bool (lineF first d l).isSome) ∧ (∀ d', lineF first d l = some d' → ∃ vr vf, DescAt base p d' w' vr vf) ∧ Below base w w'
theorem post_none {base p : Nat} {first : Bool} {d : Desc} {l : By} {w w' : World} (h : lineF first d l = none) (hb : Below base w w') : LinePost base p first d l w (.returned (.bool false)) w' :=
  ⟨by rw [h]; rfl, (fun d' hd' => by rw [h] at hd'; cases hd'), hb⟩
theorem post_some {base p : Nat} {first : Bool} {d d1 : Desc} {l : By} {w w' : World} (h : lineF first d l = some d1) (hd : ∃ vr vf, DescAt base p d1 w' vr vf) (hb : Below base w w') : LinePost base p first d l w (.returned (.bool true)) w' :=
  ⟨by rw [h]; rfl, (fun d' hd' => by rw [h] at hd'; cases hd'; exact hd), hb⟩
theorem rd_new {w : World} {s : ByteArray} (hs : s.size ≤ 65536) : RdS w.heap.size (w.alloc (.cells #[.string s, .bool false] 92)) (some s.data.toList) := ⟨s, false, heap_alloc_new _ _, hs, rfl, rfl⟩
theorem below_only {a c : World} {b : Nat} {w : World} (h : Below w.heap.size w a) (hg : a.grownBy c (some b)) (hb : w.heap.size ≤ b) : Below w.heap.size w c := h.grown hg h.size (fun k hk => by injection hk with hk; omega)

set_option maxHeartbeats 4000000 in
set_option maxRecDepth 100000 in
theorem line_head (base p B : Nat) (hBb : B ≤ base) (s : ByteArray) (hs : s.size ≤ 65536) (d : Desc) (vr vf : Value) (w : World) (h : DescAt base p d w vr vf) (hv : Vars B w) :
    Calls Tryd.prog 26 #[.pointer (some ⟨p, 0, none⟩), .string s, .bool true] w (LinePost base p true d s.data.toList w) := by
  have hlt := h.lt
  have hlow := h.low
  have hBw : B ≤ w.heap.size := by omega
  have hA : Below w.heap.size w (w.alloc (.cells #[.string s, .bool false] 92)) := (Below.refl _ _).alloc (Nat.le_refl _) _
  have HV := hid (hv.on (hA.mono hBw))
  have HRD := hid (rd_new (w := w) hs)
  have HD := hid h
  clear hv h
  go_enter Tryd.func26, Tryd.ntmps26
  go_wp2_with fail
  refine (must_calls w.heap.size (some s.data.toList) ⟨#[117, 109, 108, 97, 117, 116, 32]⟩ _ HRD.out).mono ?_
  rintro e w1 ⟨rfl, hrd1, hg1⟩
  have hb1 := below_only hA hg1 (Nat.le_refl _)
  have HV1 := hid (HV.out.on (below_of_only hg1 hBw HRD.out.lt))
  go_wp2_with fail
  refine (rnums_calls w.heap.size B hBw _ 4 (by decide) _ hrd1 HV1.out).mono ?_
  rintro e w2 ⟨g1, xs, s2, rfl, hg1ge, hgc, hxl, hall, hrd2, hfin, hg2⟩
  obtain ⟨a0, a1, a2, a3, rfl⟩ := list4 hxl
  have HG1 := hid hgc
  have hb2 := below_only hb1 hg2 (Nat.le_refl _)
  have HD2 := hid (HD.out.later hb2)
  have HFIN := hid hfin
  clear hgc hfin hxl
  have hgp : g1 ≠ p := by have := hb1.size; omega
  have hI : I64 a0 ∧ I64 a1 ∧ I64 a2 ∧ I64 a3 := ⟨hall a0 (by simp), hall a1 (by simp), hall a2 (by simp), hall a3 (by simp)⟩
  have HI := hid hI
  clear hI hall
  go_wp2_with fail
  obtain ⟨ι, W, ⟨i0, hi0⟩, hW, Wsur⟩ := held_class w2.drew (fun g => g = g1)
  have hne : Nonempty ι := ⟨i0⟩
  have q0 : ∀ i, (W i).cell? ⟨g1, 0, none⟩ = some (.int .i64 a0) := fun i => by rw [Lib.cell_of_heap ((hW i _ rfl).trans HG1.out)]; rfl
  have q1 : ∀ i, (W i).cell? ⟨g1, 1, none⟩ = some (.int .i64 a1) := fun i => by rw [Lib.cell_of_heap ((hW i _ rfl).trans HG1.out)]; rfl
  have q2 : ∀ i, (W i).cell? ⟨g1, 2, none⟩ = some (.int .i64 a2) := fun i => by rw [Lib.cell_of_heap ((hW i _ rfl).trans HG1.out)]; rfl
  have q3 : ∀ i, (W i).cell? ⟨g1, 3, none⟩ = some (.int .i64 a3) := fun i => by rw [Lib.cell_of_heap ((hW i _ rfl).trans HG1.out)]; rfl
  have WS := hid Wsur; clear Wsur
  have HW := hid hW; clear hW
  have Hi0 := hid hi0; clear hi0
  refine region_anyL (S := fun w' => ∃ i, w' = W i) (last := 15) (by kernel_rfl) ?_
  refine anyL_seg 0 15 (by kernel_rfl) (fun _ _ _ _ _ h => h) ⟨i0, Hi0.out.symm⟩ (f := 1) rfl (by kernel_rfl) (by kernel_rfl) ?_
  simp only [List.drop_zero, List.take_succ_cons, List.take_zero]
  repeat go_big_quiet_step (fail)
  refine wpQuiet_nil ?_
  refine anyL_act (i := 15) (by kernel_rfl) rfl rfl ?_
  intro K hK
  have z0 : w2.cell? ⟨p, 0, none⟩ = some (.int .i64 d.inn) := by rw [Lib.cell_of_heap HD2.out.cells]; rfl
  have z1 : w2.cell? ⟨p, 1, none⟩ = some (.int .i64 d.out) := by rw [Lib.cell_of_heap HD2.out.cells]; rfl
  have z2 : w2.cell? ⟨p, 2, none⟩ = some (.int .i64 d.states) := by rw [Lib.cell_of_heap HD2.out.cells]; rfl
  have z3 : w2.cell? ⟨p, 3, none⟩ = some (.int .i64 d.start) := by rw [Lib.cell_of_heap HD2.out.cells]; rfl
  have z4 : w2.cell? ⟨p, 4, none⟩ = some vr := by rw [Lib.cell_of_heap HD2.out.cells]; rfl
  have z5 : w2.cell? ⟨p, 5, none⟩ = some vf := by rw [Lib.cell_of_heap HD2.out.cells]; rfl
  have y0 : w2.frozen? ⟨p, 0, none⟩ = false := Lib.frozen_of_heap HD2.out.cells _
  have y1 : w2.frozen? ⟨p, 1, none⟩ = false := Lib.frozen_of_heap HD2.out.cells _
  have y2 : w2.frozen? ⟨p, 2, none⟩ = false := Lib.frozen_of_heap HD2.out.cells _
  have y3 : w2.frozen? ⟨p, 3, none⟩ = false := Lib.frozen_of_heap HD2.out.cells _
  have y4 : w2.frozen? ⟨p, 4, none⟩ = false := Lib.frozen_of_heap HD2.out.cells _
  have y5 : w2.frozen? ⟨p, 5, none⟩ = false := Lib.frozen_of_heap HD2.out.cells _
  go_wp2_with fail
  refine hK.out _ _ (fun h => absurd rfl h) ?_
  clear hK K z0 z1 z2 z3 z4 z5 y0 y1 y2 y3 y4 y5
  refine anyL_done (by kernel_rfl) ?_ _
  clear q0 q1 q2 q3 WS HW Hi0 hne i0 W ι
  have hp0 : w2.heap[p]? = _ := HD2.out.cells
  have hp6 := heap_set _ p 5 (.slice none 0 0) (heap_set _ p 4 (.slice none 0 0) (heap_set _ p 3 (.int .i64 a3) (heap_set _ p 2 (.int .i64 a2) (heap_set _ p 1 (.int .i64 a1) (heap_set w2 p 0 (.int .i64 a0) hp0)))))
  have ho6 : ∀ g, g ≠ p → ((((((w2.setCell ⟨p, 0, none⟩ (.int .i64 a0)).setCell ⟨p, 1, none⟩ (.int .i64 a1)).setCell ⟨p, 2, none⟩ (.int .i64 a2)).setCell ⟨p, 3, none⟩ (.int .i64 a3)).setCell ⟨p, 4, none⟩ (.slice none 0 0)).setCell ⟨p, 5, none⟩ (.slice none 0 0)).heap[g]? = w2.heap[g]? := fun g hg => by
    rw [Below.heap_setCell _ _ _ _ hg, Below.heap_setCell _ _ _ _ hg, Below.heap_setCell _ _ _ _ hg, Below.heap_setCell _ _ _ _ hg, Below.heap_setCell _ _ _ _ hg, Below.heap_setCell _ _ _ _ hg]
  have hb6 : Below base w2 ((((((w2.setCell ⟨p, 0, none⟩ (.int .i64 a0)).setCell ⟨p, 1, none⟩ (.int .i64 a1)).setCell ⟨p, 2, none⟩ (.int .i64 a2)).setCell ⟨p, 3, none⟩ (.int .i64 a3)).setCell ⟨p, 4, none⟩ (.slice none 0 0)).setCell ⟨p, 5, none⟩ (.slice none 0 0)) :=
    ((((((Below.refl base w2).setCell (p := ⟨p, 0, none⟩) hlow _).setCell (p := ⟨p, 1, none⟩) hlow _).setCell (p := ⟨p, 2, none⟩) hlow _).setCell (p := ⟨p, 3, none⟩) hlow _).setCell (p := ⟨p, 4, none⟩) hlow _).setCell (p := ⟨p, 5, none⟩) hlow _
  generalize ((((((w2.setCell ⟨p, 0, none⟩ (.int .i64 a0)).setCell ⟨p, 1, none⟩ (.int .i64 a1)).setCell ⟨p, 2, none⟩ (.int .i64 a2)).setCell ⟨p, 3, none⟩ (.int .i64 a3)).setCell ⟨p, 4, none⟩ (.slice none 0 0)).setCell ⟨p, 5, none⟩ (.slice none 0 0)) = w3 at hp6 ho6 hb6 ⊢
  have HDE : Hid (DescAt base p (headOf [a0, a1, a2, a3]) w3 (.slice none 0 0) (.slice none 0 0)) := hid ⟨hp6, OwnR.nil, OwnR.nil, HI.out, hlow⟩
  have hbE : Below base w w3.drew := ((hb2.mono (by omega)).trans hb6).drew
  have hrdb : w.heap.size ≠ p := by omega
  have hrd3 : RdS w.heap.size w3 s2 := hrd2.keep (ho6 _ hrdb)
  have HR := hid (head_res HFIN.out)
  obtain ⟨s', bad, hbb, hsz', hst'⟩ := hrd3
  have x0 : w3.cell? ⟨w.heap.size, 0, none⟩ = some (.string s') := by rw [Lib.cell_of_heap hbb]; rfl
  have x1 : w3.cell? ⟨w.heap.size, 1, none⟩ = some (.bool bad) := by rw [Lib.cell_of_heap hbb]; rfl
  have HDL : Hid (∃ vr vf, DescAt base p (headOf [a0, a1, a2, a3]) w3.drew vr vf) := hid ⟨_, _, HDE.out.later (Below.refl _ _).drew⟩
  clear hp0 hp6 ho6 hb6 hbb hrdb
  cases hs2 : s2 with
  | none =>
    subst hs2
    simp only at hst'
    subst hst'
    have HF := hid (HR.out.2 (by simp))
    go_wp2_with fail
    go_ret
    exact post_none (first := true) (d := d) HF.out hbE
  | some r =>
    subst hs2
    simp only at hst'
    obtain ⟨rfl, hst'⟩ := hst'
    by_cases hr : r = []
    · have HF := hid (HR.out.1 (by rw [hr]))
      have hsn : s'.toList = [] := by rw [ByteArray.toList_eq, hst', hr]
      have hsn2 : s'.toList.isEmpty = true := by rw [hsn]; rfl
      clear hst' hr
      go_wp2_with fail
      go_ret
      exact post_some (first := true) (d := d) HF.out HDL.out hbE
    · have HF := hid (HR.out.2 (by simpa using hr))
      have hsn : ¬ s'.toList = [] := by rw [ByteArray.toList_eq, hst']; exact hr
      have hsn2 : s'.toList.isEmpty = false := by rw [ByteArray.toList_eq, hst']; simpa using hr
      clear hst' hr
      go_wp2_with fail
      go_ret
      exact post_none (first := true) (d := d) HF.out hbE

theorem infoRl : (Tryd.prog.info? 45).map (fun i => (i.zero, i.size, i.bytes)) = some (some (.agg #[.int .i64 0, .int .i64 0, .slice none 0 0, .int .i64 0, .slice none 0 0]), 5, 72) := by kernel_rfl
theorem infoFn : (Tryd.prog.info? 47).map (fun i => (i.zero, i.size, i.bytes)) = some (some (.agg #[.int .i64 0, .slice none 0 0, .slice none 0 0]), 3, 56) := by kernel_rfl
theorem own_same {w : World} {base : Nat} {e : TypeId} {size n : Nat} {v : Value} {xs ys : List Value} (h : w.ownsRow base e size v n xs) (k : w.ownsRow base e size v n ys) : xs = ys := by
  have h1 := h.1
  have k1 := k.1
  rcases h.2 with ⟨rfl, h0⟩ | ⟨g, cap, cur, rfl, _, hh, _, _, _, ht⟩
  · subst h0
    have e1 : xs = [] := List.eq_nil_of_length_eq_zero (by rw [h1, Nat.zero_mul])
    have e2 : ys = [] := List.eq_nil_of_length_eq_zero (by rw [k1, Nat.zero_mul])
    rw [e1, e2]
  · rcases k.2 with ⟨hv, _⟩ | ⟨g', cap', cur', hv, _, hh', _, _, _, ht'⟩
    · cases hv
    · injection hv with hv
      injection hv with hv
      injection hv with hg _
      subst hg
      rw [hh] at hh'
      injection hh' with hh'
      injection hh' with hc _ _
      subst hc
      rw [← ht, ← ht']
theorem line_rule_none {d : Desc} {l l1 : By} (hf : d.finals = []) (hl : lit [114, 117, 108, 101, 32] l = some l1) (h : ruleF l1 = none) : lineF false d l = none := by
  unfold lineF
  simp only [Bool.false_eq_true, if_false, hf, if_true, hl, h]
  rfl
theorem line_rule_some {d : Desc} {l l1 : By} {x : Rule} (hf : d.finals = []) (hl : lit [114, 117, 108, 101, 32] l = some l1) (h : ruleF l1 = some x) : lineF false d l = some (addR d x) := by
  unfold lineF
  simp only [Bool.false_eq_true, if_false, hf, if_true, hl, h]
  rfl
theorem line_final_eq {d : Desc} {l : By} (hl : (if d.finals = [] then lit [114, 117, 108, 101, 32] l else none) = none) : lineF false d l = ((lit [102, 105, 110, 97, 108, 32] l).bind finalF).map (addE d) := by
  unfold lineF
  simp only [Bool.false_eq_true, if_false, hl]
  cases lit [102, 105, 110, 97, 108, 32] l <;> rfl

end Go.Proofs.YtcdnkmefcldfmaaDoor
