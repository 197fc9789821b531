/-
  The reader's guards.
-/
import Derived.Test.YtcdnkmefcldfmaaDoorPgNums
import Derived.Test.YtcdnkmefcldfmaaDoorPgOwn
namespace Go.Proofs.YtcdnkmefcldfmaaDoor
open Go.RowKit Go.Um

theorem infoSp : (Tryd.prog.info? 86).map (fun i => (i.zero, i.size, i.bytes)) = some (some (.agg #[.int .i64 0, .int .i64 0]), 2, 16) := by kernel_rfl
theorem infoSs : (Tryd.prog.info? 73).map (fun i => (i.zero, i.size, i.bytes)) = some (some (.slice none 0 0), 1, 24) := by kernel_rfl
theorem RdS.tag {b : Nat} {w : World} {st : Option By} (h : RdS b w st) : Tag 92 w b := by
  obtain ⟨s, bad, h, _⟩ := h
  exact ⟨_, _, h⟩
theorem row_form {w : World} {base : Nat} {e : TypeId} {size n : Nat} {v : Value} {xs : List Value} (h : w.ownsRow base e size v n xs) : ∃ A c, v = .slice A n c := by
  rcases h.2 with ⟨rfl, h0⟩ | ⟨g, cap, cur, h1, _⟩
  · exact ⟨none, 0, by rw [h0]⟩
  · exact ⟨_, cap, h1⟩
theorem Fin.len {st1 st2 : Option By} {x : Int} (h : Fin st2 (st1.bind numF) x) : stLen st2 ≤ stLen st1 ∧ (0 < stLen st1 → stLen st2 < stLen st1) := by
  rcases h with ⟨r, rfl, h⟩ | ⟨rfl, h⟩
  · obtain ⟨l, rfl, h2⟩ := Option.bind_eq_some_iff.1 h
    have := (numF_some h2).2.2.2
    simp only [stLen]
    omega
  · simp only [stLen]; omega
theorem lit_len (st : Option By) (p : By) : stLen (st.bind (lit p)) ≤ stLen st := by
  cases st with
  | none => simp [stLen]
  | some l =>
    simp only [Option.bind_some]
    cases h : lit p l with
    | none => simp [stLen]
    | some r => have := (lit_some h).2; simp only [stLen]; omega
/-- how far guards has come, and the spans of one guard. -/
def GsAt (st : Option By) (T : Option (List (List Span) × By)) (gs : List (List Span)) : Prop := (∃ l n, st = some l ∧ l.length < n ∧ T = (guardsF2 n l).map fun p => (gs ++ p.1, p.2)) ∨ (st = none ∧ T = none)
def SpAt (st : Option By) (T : Option (List Span × By)) (ss : List Span) : Prop := (∃ l n, st = some l ∧ l.length < n ∧ T = (spansF n ss.length l).map fun p => (ss ++ p.1, p.2)) ∨ (st = none ∧ T = none)
theorem SpAt.step {l : By} {st2 st3 st4 : Option By} {T : Option (List Span × By)} {ss : List Span} {x y : Int} (h : SpAt (some l) T ss) (hl : lit [93] l = none)
    (h2 : Fin st2 ((if ss.length = 0 then some l else lit [44] l).bind numF) x) (h3 : st3 = st2.bind (lit [46, 46])) (h4 : Fin st4 (st3.bind numF) y) : SpAt st4 T (ss ++ [⟨x, y⟩]) ∧ stLen st4 < l.length + 1 := by
  have hlen : stLen st4 < l.length + 1 := by
    have a := Fin.len h2
    have b := Fin.len h4
    have c := lit_len st2 [46, 46]
    rw [← h3] at c
    have d : stLen (if ss.length = 0 then some l else lit [44] l) ≤ l.length + 1 := by
      split
      · simp [stLen]
      · exact lit_len (some l) [44]
    rcases Nat.eq_zero_or_pos (stLen (if ss.length = 0 then some l else lit [44] l)) with h0 | h0
    · omega
    · have := a.2 h0; omega
  refine ⟨?_, hlen⟩
  rcases h with ⟨l', n, h0, hn, hT⟩ | ⟨h0, _⟩
  · cases h0
    obtain ⟨m, rfl⟩ : ∃ m, n = m + 1 := ⟨n - 1, by omega⟩
    unfold spansF at hT
    rw [hl] at hT
    simp only at hT
    rcases h2 with ⟨r2, rfl, h2⟩ | ⟨rfl, h2⟩
    · obtain ⟨l1, hl1, hl2⟩ := Option.bind_eq_some_iff.1 h2
      rw [hl1] at hT
      simp only [Option.bind_some, hl2] at hT
      rcases h4 with ⟨r4, rfl, h4⟩ | ⟨rfl, h4⟩
      · obtain ⟨l3, rfl, hl4⟩ := Option.bind_eq_some_iff.1 h4
        simp only [Option.bind_some] at h3
        rw [← h3] at hT
        simp only [Option.bind_some, hl4] at hT
        refine .inl ⟨r4, m, rfl, by simp only [stLen] at hlen; omega, ?_⟩
        rw [hT, List.length_append, List.length_singleton]
        cases spansF m (ss.length + 1) r4 with
        | none => rfl
        | some p => simp
      · refine .inr ⟨rfl, ?_⟩
        rw [hT]
        subst h3
        simp only [Option.bind_some] at h4
        cases hq : lit [46, 46] r2 with
        | none => rfl
        | some l3 =>
          rw [hq] at h4
          simp only [Option.bind_some] at h4 ⊢
          rw [h4]
          rfl
    · subst h3
      rcases h4 with ⟨r4, rfl, h4⟩ | ⟨rfl, h4⟩
      · cases h4
      · refine .inr ⟨rfl, ?_⟩
        rw [hT]
        cases hq : (if ss.length = 0 then some l else lit [44] l) with
        | none => rfl
        | some l1 =>
          rw [hq] at h2
          simp only [Option.bind_some] at h2 ⊢
          rw [h2]
          rfl
  · cases h0
theorem SpAt.fin {l r : By} {T : Option (List Span × By)} {ss : List Span} (h : SpAt (some l) T ss) (hl : lit [93] l = some r) : Fin (some r) T ss := by
  rcases h with ⟨l', n, h0, hn, hT⟩ | ⟨h0, _⟩
  · cases h0
    obtain ⟨m, rfl⟩ : ∃ m, n = m + 1 := ⟨n - 1, by omega⟩
    unfold spansF at hT
    rw [hl] at hT
    exact .inl ⟨r, rfl, by rw [hT]; simp⟩
  · cases h0
theorem SpAt.bad {T : Option (List Span × By)} {ss : List Span} (h : SpAt none T ss) : Fin none T ss := by
  rcases h with ⟨l', n, h0, _⟩ | ⟨_, h1⟩
  · cases h0
  · exact .inr ⟨rfl, h1⟩
theorem GsAt.step {l r : By} {st2 : Option By} {T : Option (List (List Span) × By)} {gs : List (List Span)} {g : List Span} (h : GsAt (some l) T gs) (hl : lit [32, 91] l = some r) (h2 : Fin st2 (spansF (r.length + 1) 0 r) g) : GsAt st2 T (gs ++ [g]) := by
  rcases h with ⟨l', n, h0, hn, hT⟩ | ⟨h0, _⟩
  · cases h0
    obtain ⟨m, rfl⟩ : ∃ m, n = m + 1 := ⟨n - 1, by omega⟩
    unfold guardsF2 at hT
    rw [hl] at hT
    simp only at hT
    rcases h2 with ⟨r2, rfl, h2⟩ | ⟨rfl, h2⟩
    · rw [h2] at hT
      simp only [Option.bind_some] at hT
      have a := (spansF_some h2).2.2
      have b := (lit_some hl).2
      refine .inl ⟨r2, m, rfl, by omega, ?_⟩
      rw [hT]
      cases guardsF2 m r2 with
      | none => rfl
      | some p => simp
    · rw [h2] at hT
      exact .inr ⟨rfl, hT⟩
  · cases h0
theorem GsAt.fin {st : Option By} {T : Option (List (List Span) × By)} {gs : List (List Span)} (h : GsAt st T gs) (hl : (st.bind (lit [32, 91])).isSome = false) : Fin st T gs := by
  rcases h with ⟨l', n, rfl, hn, hT⟩ | ⟨h0, h1⟩
  · obtain ⟨m, rfl⟩ : ∃ m, n = m + 1 := ⟨n - 1, by omega⟩
    simp only [Option.bind_some] at hl
    have hl' : lit [32, 91] l' = none := by simpa using hl
    unfold guardsF2 at hT
    rw [hl'] at hT
    exact .inl ⟨l', rfl, by rw [hT]; simp⟩
  · exact .inr ⟨h0, h1⟩
theorem ownS_reader {e : TypeId} {w w' : World} {base b : Nat} {v : Value} {ss : List Span} (h : OwnS e w base v ss) (hg : w.grownBy w' (some b)) (hb : b < base) : OwnS e w' base v ss :=
  ⟨h.1.kept hg (.inr (fun he => by have := (h.1.lt b he).1; omega)), h.2⟩

def GuardsPost (b : Nat) (st : Option By) (w : World) (e : Ending) (w' : World) : Prop := ∃ v gs st', e = .returned v ∧ (listR spansR).rel w' (fun g => Tag 73 w' g ∨ Tag 86 w' g) [v] gs ∧
  RdS b w' st' ∧ Fin st' (st.bind fun l => guardsF2 (l.length + 1) l) gs ∧ w.grownBy w' (some b)

set_option maxHeartbeats 4000000 in
set_option maxRecDepth 100000 in
theorem guards_calls (b B : Nat) (hBb : B ≤ b) (st : Option By) (w : World) (h : RdS b w st) (hv : Vars B w) :
    Calls Tryd.prog 41 #[.pointer (some ⟨b, 0, none⟩)] w (GuardsPost b st w) := by
  obtain ⟨infS, hiS, hx0, hx1, hx2⟩ := info_parts infoSp
  obtain ⟨inf73, hi73, hy0, hy1, hy2⟩ := info_parts infoSs
  have HV := hid hv
  have hlt := h.lt
  clear hv
  have hlen : stLen st ≤ 65537 := by
    obtain ⟨s, bad, _, hs, hm⟩ := h
    cases st with
    | none => simp [stLen]
    | some l => simp only at hm; obtain ⟨_, rfl⟩ := hm; simp only [stLen]; rw [Array.length_toList]; have : s.data.size = s.size := rfl; omega
  go_enter Tryd.func41, Tryd.ntmps41
  go_wp2_with fail
  go_loopw [3] (fun vl' wr => ∃ (vl : Value) (gs : List (List Span)) (sr : Option By), vl = vl' ∧ OwnR 73 spansR wr (Tag 86 wr) w.heap.size vl gs ∧ RdS b wr sr ∧ GsAt sr (st.bind fun l => guardsF2 (l.length + 1) l) gs ∧ w.grownBy wr (some b) ∧ gs.length + stLen sr ≤ 70000) (fun _ wr => rdLen b wr)
  case atStart =>
    refine ⟨_, [], st, rfl, OwnR.nil, h, ?_, World.grownBy.refl w _, by simp; omega⟩
    cases st with
    | none => exact .inr ⟨rfl, rfl⟩
    | some l =>
      refine .inl ⟨l, l.length + 1, rfl, by omega, ?_⟩
      simp only [Option.bind_some, List.nil_append]
      cases guardsF2 (l.length + 1) l <;> rfl
  case round =>
    obtain ⟨wo, hwo⟩ : ∃ wo, wo = wr := ⟨_, rfl⟩
    subst hwo
    obtain ⟨vl, gs, sr, rfl, hog, hrd, hat, hg, hgl⟩ := hrel
    have HAT := hid hat
    clear hat
    have HVR := hid (HV.out.on (below_of_only hg hBb hlt))
    have hc := eat_calls b sr ⟨#[32, 91]⟩ wo hrd
    cases he : sr.bind (lit [32, 91]) with
    | none =>
      rw [show sr.bind (lit (⟨#[32, 91]⟩ : ByteArray).data.toList) = none from he] at hc
      have HC := hid hc
      have HFIN := hid (HAT.out.fin (by rw [he]; rfl))
      have HS : Hid (sr.map (fun l => (lit (⟨#[32, 91]⟩ : ByteArray).data.toList l).getD l) = sr) := hid (by
        cases sr with
        | none => rfl
        | some l => simp only [Option.bind_some] at he; simp only [Option.map_some]; rw [show lit (⟨#[32, 91]⟩ : ByteArray).data.toList l = none from he]; rfl)
      obtain ⟨A, c, rfl⟩ : ∃ A c, vl = .slice A gs.length c := by obtain ⟨_, _, ho, _⟩ := hog; exact row_form ho
      clear he hc
      go_wp2_with fail
      refine HC.out.mono ?_
      rintro e w1 ⟨rfl, hrd1, hg1⟩
      rw [HS.out] at hrd1
      go_wp2_with fail
      go_ret
      have hog1 := hog.keep (w' := w1) (S' := Tag 86 w1) (fun g hg' => hg1.block g (hog.tag g hg').1.lt (by simp; exact Tag.ne (hog.tag g hg').1 hrd.tag (by decide)))
        (fun p hp => cell_of_heap_eq (hg1.block p.block hp.lt (by simp; exact Tag.ne hp hrd.tag (by decide)))) (fun g hg' => hg'.keep (hg1.block g hg'.lt (by simp; exact Tag.ne hg' hrd.tag (by decide))))
      exact ⟨_, gs, sr, rfl, hog1.rel (fun g hg' => .inr hg') (fun g hg' => .inl (hog1.tag g hg').1), hrd1, HFIN.out, only_trans hg hg1⟩
    | some r =>
      rw [show sr.bind (lit (⟨#[32, 91]⟩ : ByteArray).data.toList) = some r from he] at hc
      have HC := hid hc
      obtain ⟨l, rfl, hl⟩ := Option.bind_eq_some_iff.1 he
      have HL := hid hl
      have hrl := (lit_some hl).2
      simp only [List.length_cons, List.length_nil] at hrl
      simp only [stLen] at hgl
      clear he hc hl
      go_wp2_with fail
      refine HC.out.mono ?_
      rintro e w1 ⟨rfl, hrd1, hg1⟩
      have e1 : (some l).map (fun l => (lit (⟨#[32, 91]⟩ : ByteArray).data.toList l).getD l) = some r := by simp only [Option.map_some]; rw [show lit (⟨#[32, 91]⟩ : ByteArray).data.toList l = some r from HL.out]; rfl
      rw [e1] at hrd1
      have hog1 := hog.keep (w' := w1) (S' := Tag 86 w1) (fun g hg' => hg1.block g (hog.tag g hg').1.lt (by simp; exact Tag.ne (hog.tag g hg').1 hrd.tag (by decide)))
        (fun p hp => cell_of_heap_eq (hg1.block p.block hp.lt (by simp; exact Tag.ne hp hrd.tag (by decide)))) (fun g hg' => hg'.keep (hg1.block g hg'.lt (by simp; exact Tag.ne hg' hrd.tag (by decide))))
      have HV1 := hid (HVR.out.on (below_of_only hg1 hBb hrd.lt))
      have hmu : rdLen b wo = l.length + 1 := hrd.len
      have HMU := hid hmu
      clear e1 hog HC hmu HVR
      go_wp2_with fail
      go_loopw [4] (fun vg' wq => ∃ (vg : Value) (ss : List Span) (s2 : Option By), vg = vg' ∧ OwnS 86 wq w1.heap.size vg ss ∧ RdS b wq s2 ∧ SpAt s2 (spansF (r.length + 1) 0 r) ss ∧ w1.grownBy wq (some b) ∧ ss.length + stLen s2 ≤ 70000 ∧ stLen s2 ≤ r.length + 1) (fun _ wq => rdLen b wq)
      case atStart =>
        refine ⟨_, [], some r, rfl, ⟨World.ownsRow_nil _ _ _ _, by simp⟩, hrd1, .inl ⟨r, r.length + 1, rfl, by omega, ?_⟩, World.grownBy.refl w1 _, by simp [stLen]; omega, by simp [stLen]⟩
        simp only [List.length_nil, List.nil_append]
        cases spansF (r.length + 1) 0 r <;> rfl
      case round =>
        obtain ⟨wq, hwq'⟩ : ∃ wq, wq = wr := ⟨_, rfl⟩
        subst hwq'
        obtain ⟨vg, ss, s2, rfl, hos, hrdq, hatq, hgq, hsl, hs2⟩ := hrel
        have HATQ := hid hatq
        clear hatq
        have HVQ := hid (HV1.out.on (below_of_only hgq hBb hrd1.lt))
        have hb1 : b < w1.heap.size := hrd1.lt
        obtain ⟨A, c, rfl⟩ := row_form hos.1
        have hec := eat_calls b s2 ⟨#[93]⟩ wq hrdq
        cases hs : s2 with
        | none =>
          subst hs
          have HEC := hid hec
          have HF2 := hid HATQ.out.bad
          clear hec
          go_wp2_with fail
          refine HEC.out.mono ?_
          rintro e w2 ⟨rfl, hrd2, hg2⟩
          obtain ⟨s, bad, hb2, hsz2, hst2⟩ := hrd2
          simp only [Option.map_none] at hst2
          subst hst2
          have cb : w2.cell? ⟨b, 1, none⟩ = some (.bool true) := by rw [Lib.cell_of_heap hb2]; rfl
          have hrd2 : RdS b w2 none := ⟨s, true, hb2, hsz2, rfl⟩
          have hgq2 := only_trans hgq hg2
          have hos2 := ownS_reader hos hg2 hb1
          clear hb2 hos HEC
          have hogr : OwnR 73 spansR w2 (Tag 86 w2) w.heap.size vl gs := hog1.keep (fun g hg' => hgq2.block g (hog1.tag g hg').1.lt (by simp; exact Tag.ne (hog1.tag g hg').1 hrd1.tag (by decide)))
            (fun p hp => cell_of_heap_eq (hgq2.block p.block hp.lt (by simp; exact Tag.ne hp hrd1.tag (by decide)))) (fun g hg' => hg'.keep (hgq2.block g hg'.lt (by simp; exact Tag.ne hg' hrd1.tag (by decide))))
          obtain ⟨css, hcl, hown, hel⟩ := hogr
          have HEL := hid hel
          have HCL := hid hcl
          clear hel hcl
          obtain ⟨A4, c4, rfl⟩ := row_form hown
          have hsz2 := hgq2.size
          have hszw := (only_trans hg hg1).size
          go_wp2_with (at_builtin; refine Hid.out ?_)
          refine hid ?_
          refine wpList_append_own _ rfl _ _ 42 rfl w.heap.size 73 inf73 _ 1 24 Tryd.underlying42 hi73 hy0 hy1 hy2 rfl (by decide) _ _ _ rfl (hown.alloc _) ⟨w2.heap.size, 0, none⟩ 1 1 [.slice A ss.length c] rfl rfl (news_at (w := w2) (cs := #[_]) rfl) (by simp [Value.oneCell']) (by unfold maxLen; omega) (by omega) (by simp; omega) ?_
          intro v' w6 hown6 hg6 hn6
          have hrow : ∀ g, (Value.slice A4 gs.length c4).ownBlock = some g → Tag 73 w2 g ∧ w.heap.size ≤ g := fun g hg' => own_tag hown g hg'
          have hblk : ∀ g, g < w2.heap.size → ¬ Tag 73 w2 g → w6.heap[g]? = w2.heap[g]? := fun g hg' hnt =>
            (hg6.block g (by simp; omega) (fun he => hnt (hrow g he.symm).1)).trans (Below.heap_alloc w2 _ g hg')
          have hsp : ∀ g, Tag 86 w2 g → w6.heap[g]? = w2.heap[g]? := fun g hg' => hblk g hg'.lt (fun ht => Tag.ne hg' ht (by decide) rfl)
          have hrdE := hrd2.keep (hblk b hrd2.lt (fun ht => Tag.ne hrd2.tag ht (by decide) rfl))
          have hssE : spansR.rel w6 (Tag 86 w6) [.slice A ss.length c] ss :=
            spansR.mono (S := Tag 86 w2) (fun p hp => cell_of_heap_eq (hsp p.block hp)) (fun g hg' => hg'.keep (hsp g hg')) (hos2.rel_in fun g hg' => (own_tag hos2.1 g hg').1)
          have hogE : OwnR 73 spansR w6 (Tag 86 w6) w.heap.size v' (gs ++ [ss]) :=
            OwnR.push HCL.out hown6 (fun i x cs h1 h2 => spansR.mono (fun p hp => cell_of_heap_eq (hsp p.block hp)) (fun g hg' => hg'.keep (hsp g hg')) (HEL.out i x cs h1 h2)) hssE
          have hgE : w.grownBy w6 (some b) := only_new (only_alloc (only_trans (only_trans hg hg1) hgq2) _) hg6 (fun g hg' => .inl (hrow g hg').2)
          have HGS := hid (GsAt.step HAT.out HL.out HF2.out)
          clear hown6 hn6 hown hos2 hg6 hsp hblk hrow
          go_wp2_with fail
          refine ⟨⟨_, gs ++ [ss], _, rfl, hogE, hrdE, HGS.out, hgE, by simp [stLen]; omega⟩, ?_⟩
          rw [hrdE.len, HMU.out]
          simp only [stLen]; omega
        | some l2 =>
          subst hs
          simp only [stLen] at hs2 hsl
          cases hl2 : lit [93] l2 with
          | some r2 =>
            have HEC := hid hec
            have HF2 := hid (HATQ.out.fin hl2)
            have e2 : (some l2).bind (lit (⟨#[93]⟩ : ByteArray).data.toList) = some r2 := hl2
            have e3 : (some l2).map (fun l => (lit (⟨#[93]⟩ : ByteArray).data.toList l).getD l) = some r2 := by simp only [Option.map_some]; rw [show lit (⟨#[93]⟩ : ByteArray).data.toList l2 = some r2 from hl2]; rfl
            rw [e2, e3] at HEC
            have hr2 := (lit_some hl2).2
            simp only [List.length_cons, List.length_nil] at hr2
            clear hec e2 e3 hl2
            go_wp2_with fail
            refine HEC.out.mono ?_
            rintro e w2 ⟨rfl, hrd2, hg2⟩
            have hgq2 := only_trans hgq hg2
            have hos2 := ownS_reader hos hg2 hb1
            clear hos HEC
            have hogr : OwnR 73 spansR w2 (Tag 86 w2) w.heap.size vl gs := hog1.keep (fun g hg' => hgq2.block g (hog1.tag g hg').1.lt (by simp; exact Tag.ne (hog1.tag g hg').1 hrd1.tag (by decide)))
              (fun p hp => cell_of_heap_eq (hgq2.block p.block hp.lt (by simp; exact Tag.ne hp hrd1.tag (by decide)))) (fun g hg' => hg'.keep (hgq2.block g hg'.lt (by simp; exact Tag.ne hg' hrd1.tag (by decide))))
            obtain ⟨css, hcl, hown, hel⟩ := hogr
            have HEL := hid hel
            have HCL := hid hcl
            clear hel hcl
            obtain ⟨A4, c4, rfl⟩ := row_form hown
            have hsz2 := hgq2.size
            have hszw := (only_trans hg hg1).size
            go_wp2_with (at_builtin; refine Hid.out ?_)
            refine hid ?_
            refine wpList_append_own _ rfl _ _ 42 rfl w.heap.size 73 inf73 _ 1 24 Tryd.underlying42 hi73 hy0 hy1 hy2 rfl (by decide) _ _ _ rfl (hown.alloc _) ⟨w2.heap.size, 0, none⟩ 1 1 [.slice A ss.length c] rfl rfl (news_at (w := w2) (cs := #[_]) rfl) (by simp [Value.oneCell']) (by unfold maxLen; omega) (by omega) (by simp; omega) ?_
            intro v' w6 hown6 hg6 hn6
            have hrow : ∀ g, (Value.slice A4 gs.length c4).ownBlock = some g → Tag 73 w2 g ∧ w.heap.size ≤ g := fun g hg' => own_tag hown g hg'
            have hblk : ∀ g, g < w2.heap.size → ¬ Tag 73 w2 g → w6.heap[g]? = w2.heap[g]? := fun g hg' hnt =>
              (hg6.block g (by simp; omega) (fun he => hnt (hrow g he.symm).1)).trans (Below.heap_alloc w2 _ g hg')
            have hsp : ∀ g, Tag 86 w2 g → w6.heap[g]? = w2.heap[g]? := fun g hg' => hblk g hg'.lt (fun ht => Tag.ne hg' ht (by decide) rfl)
            have hrdE := hrd2.keep (hblk b hrd2.lt (fun ht => Tag.ne hrd2.tag ht (by decide) rfl))
            have hssE : spansR.rel w6 (Tag 86 w6) [.slice A ss.length c] ss :=
              spansR.mono (S := Tag 86 w2) (fun p hp => cell_of_heap_eq (hsp p.block hp)) (fun g hg' => hg'.keep (hsp g hg')) (hos2.rel_in fun g hg' => (own_tag hos2.1 g hg').1)
            have hogE : OwnR 73 spansR w6 (Tag 86 w6) w.heap.size v' (gs ++ [ss]) :=
              OwnR.push HCL.out hown6 (fun i x cs h1 h2 => spansR.mono (fun p hp => cell_of_heap_eq (hsp p.block hp)) (fun g hg' => hg'.keep (hsp g hg')) (HEL.out i x cs h1 h2)) hssE
            have hgE : w.grownBy w6 (some b) := only_new (only_alloc (only_trans (only_trans hg hg1) hgq2) _) hg6 (fun g hg' => .inl (hrow g hg').2)
            have HGS := hid (GsAt.step HAT.out HL.out HF2.out)
            clear hown6 hn6 hown hos2 hg6 hsp hblk hrow
            go_wp2_with fail
            refine ⟨⟨_, gs ++ [ss], _, rfl, hogE, hrdE, HGS.out, hgE, by simp [stLen]; omega⟩, ?_⟩
            rw [hrdE.len, HMU.out]
            simp only [stLen]; omega
          | none =>
            have HEC := hid hec
            have e2 : (some l2).bind (lit (⟨#[93]⟩ : ByteArray).data.toList) = none := hl2
            have e3 : (some l2).map (fun l => (lit (⟨#[93]⟩ : ByteArray).data.toList l).getD l) = some l2 := by simp only [Option.map_some]; rw [show lit (⟨#[93]⟩ : ByteArray).data.toList l2 = none from hl2]; rfl
            rw [e2, e3] at HEC
            have HL2 := hid hl2
            have HMQ : Hid (rdLen b wq = l2.length + 1) := hid hrdq.len
            clear hec e2 e3 hl2
            go_wp2_with fail
            refine HEC.out.mono ?_
            rintro e w2 ⟨rfl, hrd2, hg2⟩
            have hrd2' := hrd2
            obtain ⟨s, bad, hb2, hsz2, hst2⟩ := hrd2'
            simp only at hst2
            obtain ⟨rfl, hst2⟩ := hst2
            have cb : w2.cell? ⟨b, 1, none⟩ = some (.bool false) := by rw [Lib.cell_of_heap hb2]; rfl
            have hos2 := ownS_reader hos hg2 hb1
            have HV2 := hid (HVQ.out.on (below_of_only hg2 hBb hrdq.lt))
            have hgq2 := only_trans hgq hg2
            clear hb2 hst2 hos HEC
            by_cases h0 : ss.length = 0
            · have hx0 : ss = [] := List.eq_nil_of_length_eq_zero h0
              subst hx0
              go_wp2_with fail
              refine (num_calls b B hBb _ _ hrd2 HV2.out).mono ?_
              rintro e w4 ⟨x, s4, rfl, hIx, hrd4, hfin4, hg4⟩
              have hos4 := ownS_reader hos2 hg4 hb1
              have HV4 := hid (HV2.out.on (below_of_only hg4 hBb hrd2.lt))
              have hgq4 := only_trans hgq2 hg4
              have HF4 := hid hfin4
              clear hfin4 hos2
              go_wp2_with fail
              refine (must_calls b s4 ⟨#[46, 46]⟩ _ hrd4).mono ?_
              rintro e w5 ⟨rfl, hrd5, hg5⟩
              have hos5 := ownS_reader hos4 hg5 hb1
              have HV5 := hid (HV4.out.on (below_of_only hg5 hBb hrd4.lt))
              have hgq5 := only_trans hgq4 hg5
              clear hos4
              go_wp2_with fail
              refine (num_calls b B hBb _ _ hrd5 HV5.out).mono ?_
              rintro e w6 ⟨y, s6, rfl, hIy, hrd6, hfin6, hg6⟩
              have hos6 := ownS_reader hos5 hg6 hb1
              have hgq6 := only_trans hgq5 hg6
              have HST := hid (SpAt.step (x := x) (y := y) HATQ.out HL2.out HF4.out rfl hfin6)
              have hsz6 := hgq6.size
              clear hfin6 hos5
              go_wp2_with (at_builtin; refine Hid.out ?_)
              refine hid ?_
              refine wpList_append_own _ rfl _ _ 73 rfl w1.heap.size 86 infS _ 2 16 Tryd.underlying73 hiS hx0 hx1 hx2 rfl (by decide) _ _ _ rfl (hos6.1.alloc _) ⟨w6.heap.size, 0, none⟩ 1 1 [.int .i64 x, .int .i64 y] rfl rfl (news_at (w := w6) (cs := #[_, _]) rfl) (by simp [Value.oneCell']) (by unfold maxLen; simp) (by simp) (by simp; omega) ?_
              intro v' w7 hown7 hg7 hn7
              have ho7 : OwnS 86 w7 w1.heap.size v' ([⟨x, y⟩]) := OwnS.push (xs := []) (x := ⟨x, y⟩) hown7 hos6.2 ⟨hIx, hIy⟩
              have hrow : ∀ g, (Value.slice A 0 c).ownBlock = some g → w1.heap.size ≤ g := fun g hg' => (hos6.1.lt g hg').1
              have hgq7 : w1.grownBy w7 (some b) := only_new (only_alloc hgq6 _) hg7 (fun g hg' => .inl (hrow g hg'))
              have hrd7 : RdS b w7 s6 := (hrd6.later ((Below.refl _ _).alloc (Nat.le_refl _) _)).grown hg7 (fun he => by have := hrow b he.symm; omega)
              clear hown7 hn7 hos6 hg7
              go_wp2_with fail
              have hm := HST.out.2
              refine ⟨⟨_, _, s6, rfl, ho7, hrd7, HST.out.1, hgq7, by simp; omega, by omega⟩, ?_⟩
              rw [hrd7.len, HMQ.out]
              exact hm
            · have h1 : (0 : Int) < ss.length := by omega
              go_wp2_with fail
              refine (must_calls b (some l2) ⟨#[44]⟩ _ hrd2).mono ?_
              rintro e w3 ⟨rfl, hrd3, hg3⟩
              have hos3 := ownS_reader hos2 hg3 hb1
              have HV3 := hid (HV2.out.on (below_of_only hg3 hBb hrd2.lt))
              have hgq3 := only_trans hgq2 hg3
              clear hos2
              go_wp2_with fail
              refine (num_calls b B hBb _ _ hrd3 HV3.out).mono ?_
              rintro e w4 ⟨x, s4, rfl, hIx, hrd4, hfin4, hg4⟩
              have hos4 := ownS_reader hos3 hg4 hb1
              have HV4 := hid (HV3.out.on (below_of_only hg4 hBb hrd3.lt))
              have hgq4 := only_trans hgq3 hg4
              have HF4 := hid hfin4
              clear hfin4 hos3
              go_wp2_with fail
              refine (must_calls b s4 ⟨#[46, 46]⟩ _ hrd4).mono ?_
              rintro e w5 ⟨rfl, hrd5, hg5⟩
              have hos5 := ownS_reader hos4 hg5 hb1
              have HV5 := hid (HV4.out.on (below_of_only hg5 hBb hrd4.lt))
              have hgq5 := only_trans hgq4 hg5
              clear hos4
              go_wp2_with fail
              refine (num_calls b B hBb _ _ hrd5 HV5.out).mono ?_
              rintro e w6 ⟨y, s6, rfl, hIy, hrd6, hfin6, hg6⟩
              have hos6 := ownS_reader hos5 hg6 hb1
              have hgq6 := only_trans hgq5 hg6
              have HST := hid (SpAt.step (x := x) (y := y) HATQ.out HL2.out (by rw [if_neg h0]; exact HF4.out) rfl hfin6)
              have hsz6 := hgq6.size
              clear hfin6 hos5
              go_wp2_with (at_builtin; refine Hid.out ?_)
              refine hid ?_
              refine wpList_append_own _ rfl _ _ 73 rfl w1.heap.size 86 infS _ 2 16 Tryd.underlying73 hiS hx0 hx1 hx2 rfl (by decide) _ _ _ rfl (hos6.1.alloc _) ⟨w6.heap.size, 0, none⟩ 1 1 [.int .i64 x, .int .i64 y] rfl rfl (news_at (w := w6) (cs := #[_, _]) rfl) (by simp [Value.oneCell']) (by unfold maxLen; omega) (by omega) (by simp; omega) ?_
              intro v' w7 hown7 hg7 hn7
              have ho7 : OwnS 86 w7 w1.heap.size v' (ss ++ [⟨x, y⟩]) := OwnS.push (xs := ss) (x := ⟨x, y⟩) hown7 hos6.2 ⟨hIx, hIy⟩
              have hrow : ∀ g, (Value.slice A ss.length c).ownBlock = some g → w1.heap.size ≤ g := fun g hg' => (hos6.1.lt g hg').1
              have hgq7 : w1.grownBy w7 (some b) := only_new (only_alloc hgq6 _) hg7 (fun g hg' => .inl (hrow g hg'))
              have hrd7 : RdS b w7 s6 := (hrd6.later ((Below.refl _ _).alloc (Nat.le_refl _) _)).grown hg7 (fun he => by have := hrow b he.symm; omega)
              clear hown7 hn7 hos6 hg7
              go_wp2_with fail
              have hm := HST.out.2
              refine ⟨⟨_, _, s6, rfl, ho7, hrd7, HST.out.1, hgq7, by simp; omega, by omega⟩, ?_⟩
              rw [hrd7.len, HMQ.out]
              exact hm
end Go.Proofs.YtcdnkmefcldfmaaDoor
