/-
  The reader's terms.
-/
import Derived.Test.YtcdnkmefcldfmaaDoorPgGs
namespace Go.Proofs.YtcdnkmefcldfmaaDoor
open Go.RowKit Go.Um

theorem infoPt : (Tryd.prog.info? 88).map (fun i => (i.zero, i.size, i.bytes)) = some (some (.agg #[.int .i64 0, .int .i64 0, .int .i64 0, .int .i64 0]), 4, 32) := by kernel_rfl
theorem infoTm : (Tryd.prog.info? 76).map (fun i => (i.zero, i.size, i.bytes)) = some (some (.agg #[.int .i64 0, .int .i64 0, .int .i64 0, .int .i64 0, .int .i64 0, .slice none 0 0]), 6, 64) := by kernel_rfl
def OwnP (e : TypeId) (w : World) (base : Nat) (v : Value) (ps : List Part) : Prop := w.ownsRow base e 4 v ps.length (ps.flatMap Part.cells) ∧ okPs ps
theorem OwnP.push {e : TypeId} {w : World} {base : Nat} {v : Value} {ps : List Part} {x : Part} (h : w.ownsRow base e 4 v (ps.length + 1) (ps.flatMap Part.cells ++ [.int .i64 x.at_, .int .i64 x.drop, .int .i64 x.take, .int .i64 x.up])) (hx : okPs ps) (ho : x.ok) : OwnP e w base v (ps ++ [x]) := by
  refine ⟨by simpa [Part.cells] using h, fun y hy => ?_⟩
  rcases List.mem_append.1 hy with hy | hy
  · exact hx y hy
  · simp at hy; subst hy; exact ho
theorem ownP_keep {e : TypeId} {w w' : World} {base : Nat} {v : Value} {ps : List Part} (h : OwnP e w base v ps) (hk : ∀ g, Tag e w g → base ≤ g → w'.heap[g]? = w.heap[g]?) : OwnP e w' base v ps := by
  refine ⟨⟨h.1.1, ?_⟩, h.2⟩
  rcases h.1.2 with h2 | ⟨g, cap, cur, rfl, h3, h4, h5⟩
  · exact .inl h2
  · exact .inr ⟨g, cap, cur, rfl, h3, (hk g ⟨_, _, h4⟩ h3).trans h4, h5⟩
def TsAt (st : Option By) (T : Option (List Term × By)) (ts : List Term) : Prop := (∃ l n, st = some l ∧ l.length < n ∧ T = (termsF n l).map fun p => (ts ++ p.1, p.2)) ∨ (st = none ∧ T = none)
def PsAt (st : Option By) (T : Option (List Part × By)) (ps : List Part) : Prop := (∃ l n, st = some l ∧ l.length < n ∧ T = (partsF n l).map fun p => (ps ++ p.1, p.2)) ∨ (st = none ∧ T = none)
theorem PsAt.step {l r : By} {st2 : Option By} {T : Option (List Part × By)} {ps : List Part} {ys : List Int} (h : PsAt (some l) T ps) (hl : lit [59, 32] l = some r) (h2 : Fin st2 (numsF 0 4 r) ys) : PsAt st2 T (ps ++ [partOf ys]) ∧ stLen st2 < l.length + 1 := by
  have b := (lit_some hl).2
  simp only [List.length_cons, List.length_nil] at b
  rcases h with ⟨l', n, h0, hn, hT⟩ | ⟨h0, _⟩
  · cases h0
    obtain ⟨m, rfl⟩ : ∃ m, n = m + 1 := ⟨n - 1, by omega⟩
    unfold partsF at hT
    rw [hl] at hT
    simp only at hT
    rcases h2 with ⟨r2, rfl, h2⟩ | ⟨rfl, h2⟩
    · rw [h2] at hT
      simp only [Option.bind_some] at hT
      have a := (numsF_some h2).2.2.2.2
      refine ⟨.inl ⟨r2, m, rfl, by omega, ?_⟩, by simp only [stLen]; omega⟩
      rw [hT]
      cases partsF m r2 with
      | none => rfl
      | some p => simp
    · rw [h2] at hT
      exact ⟨.inr ⟨rfl, hT⟩, by simp [stLen]⟩
  · cases h0
theorem PsAt.fin {st : Option By} {T : Option (List Part × By)} {ps : List Part} (h : PsAt st T ps) (hl : (st.bind (lit [59, 32])).isSome = false) : Fin st T ps := by
  rcases h with ⟨l', n, rfl, hn, hT⟩ | ⟨h0, h1⟩
  · obtain ⟨m, rfl⟩ : ∃ m, n = m + 1 := ⟨n - 1, by omega⟩
    simp only [Option.bind_some] at hl
    have hl' : lit [59, 32] l' = none := by simpa using hl
    unfold partsF at hT
    rw [hl'] at hT
    exact .inl ⟨l', rfl, by rw [hT]; simp⟩
  · exact .inr ⟨h0, h1⟩
theorem TsAt.step {l r : By} {s1 s2 s3 : Option By} {T : Option (List Term × By)} {ts : List Term} {xs : List Int} {ps : List Part} (h : TsAt (some l) T ts) (hl : lit [32, 40] l = some r) (h1 : Fin s1 (numsF 0 5 r) xs)
    (h2 : Fin s2 (s1.bind fun l => partsF (l.length + 1) l) ps) (h3 : s3 = s2.bind (lit [41])) : TsAt s3 T (ts ++ [termOf ps xs]) ∧ stLen s3 < l.length + 1 := by
  have b := (lit_some hl).2
  simp only [List.length_cons, List.length_nil] at b
  rcases h with ⟨l', n, h0, hn, hT⟩ | ⟨h0, _⟩
  · cases h0
    obtain ⟨m, rfl⟩ : ∃ m, n = m + 1 := ⟨n - 1, by omega⟩
    unfold termsF at hT
    rw [hl] at hT
    simp only at hT
    rcases h1 with ⟨r1, rfl, h1⟩ | ⟨rfl, h1⟩
    · rw [h1] at hT
      simp only [Option.bind_some] at hT h2
      have a := (numsF_some h1).2.2.2.2
      rcases h2 with ⟨r2, rfl, h2⟩ | ⟨rfl, h2⟩
      · rw [h2] at hT
        simp only [Option.bind_some] at hT h3
        have a2 := (partsF_some h2).2.2.2
        cases hq : lit [41] r2 with
        | none => rw [hq] at hT h3; subst h3; exact ⟨.inr ⟨rfl, hT⟩, by simp [stLen]⟩
        | some r3 =>
          rw [hq] at hT h3
          subst h3
          have a3 := (lit_some hq).2
          simp only [Option.bind_some] at hT
          refine ⟨.inl ⟨r3, m, rfl, by omega, ?_⟩, by simp only [stLen]; omega⟩
          rw [hT]
          cases termsF m r3 with
          | none => rfl
          | some p => simp
      · rw [h2] at hT
        subst h3
        exact ⟨.inr ⟨rfl, hT⟩, by simp [stLen]⟩
    · rw [h1] at hT
      rcases h2 with ⟨r2, rfl, h2⟩ | ⟨rfl, h2⟩
      · cases h2
      · subst h3
        exact ⟨.inr ⟨rfl, hT⟩, by simp [stLen]⟩
  · cases h0
theorem TsAt.fin {st : Option By} {T : Option (List Term × By)} {ts : List Term} (h : TsAt st T ts) (hl : (st.bind (lit [32, 40])).isSome = false) : Fin st T ts := by
  rcases h with ⟨l', n, rfl, hn, hT⟩ | ⟨h0, h1⟩
  · obtain ⟨m, rfl⟩ : ∃ m, n = m + 1 := ⟨n - 1, by omega⟩
    simp only [Option.bind_some] at hl
    have hl' : lit [32, 40] l' = none := by simpa using hl
    unfold termsF at hT
    rw [hl'] at hT
    exact .inl ⟨l', rfl, by rw [hT]; simp⟩
  · exact .inr ⟨h0, h1⟩
/-- what an operation of its own does that appends. -/
theorem act_append_at {P : Program} {o : Oper} {a : Act} {w : World} {K : Act → World → Prop} {Q : Exit → Act → World → Prop} (s x : Operand) (t : TypeId) (ho : o.op = .call { callee := .builtin .append, args := #[s, x], argTypes := #[t, t] }) (base : Nat) (e : TypeId) (i : TypeInfo) (z : Value) (size bytes : Nat)
    (ht : P.underlying t = some (.slice e)) (hi : P.info? e = some i) (hz : i.zero = some z) (hsize : i.size = size) (hby : i.bytes = bytes) (hzs : z.cells.size = size) (hsz : 0 < size)
    (v : Value) (n : Nat) (xs : List Value) (hs : a.eval s = v) (hown : w.ownsRow base e size v n xs) (src : Addr) (m c : Nat) (news : List Value) (hx : a.eval x = .slice (some src) m c)
    (hlen : news.length = m * size) (hnews : ∀ j u, news[j]? = some u → w.cell? (src.add j) = some u) (h1 : ∀ u ∈ news, u.oneCell' = true) (h63 : n + m ≤ maxLen) (hbytes : (n + m) * bytes ≤ 140737488355328) (hbase : base ≤ w.heap.size)
    (h : ∀ v' w', w'.ownsRow base e size v' (n + m) (xs ++ news) → w.grownBy w' v.ownBlock → (v' = .slice none 0 0 ↔ v = .slice none 0 0 ∧ m = 0) → (v'.ownBlock = v.ownBlock ∨ v'.ownBlock = some w.heap.size) → K (a.put o.dst v') w') : o.wp P a w K Q := by
  obtain ⟨v', w', hr, h2, h3, h4, h5⟩ := run_append_own_at (P := P) w base t o.type e i z size bytes ht hi hz hsize hby hzs hsz v n xs hown src m c news hlen hnews h1 h63 hbytes hbase
  unfold Oper.wp execOp
  simp only [ho, resolve, invoke, builtin, Sem.run_bind, Sem.run_pure, Result.andThen_ok, List.map_toArray, List.map_cons, List.map_nil, hs, hx, hr]
  exact h v' w' h2 h3 h4 h5
theorem take5 {xs : List Int} (h : xs.length = 5) : ∃ a b c d e, xs = [a, b, c, d, e] := list5 h

def TermsPost (b : Nat) (st : Option By) (w : World) (e : Ending) (w' : World) : Prop := ∃ v ts st', e = .returned v ∧ (listR termR).rel w' (fun g => Tag 76 w' g ∨ Tag 88 w' g) [v] ts ∧
  RdS b w' st' ∧ ((st' = some [] ∧ st.bind tailF = some ts) ∨ (st' = none ∧ st.bind tailF = none)) ∧ w.grownBy w' (some b)

set_option maxHeartbeats 4000000 in
set_option maxRecDepth 100000 in
theorem terms_calls (b B : Nat) (hBb : B ≤ b) (st : Option By) (w : World) (h : RdS b w st) (hv : Vars B w) :
    Calls Tryd.prog 42 #[.pointer (some ⟨b, 0, none⟩)] w (TermsPost b st w) := by
  obtain ⟨infP, hiP, hp0, hp1, hp2⟩ := info_parts infoPt
  obtain ⟨infT, hiT, ht0, ht1, ht2⟩ := info_parts infoTm
  have HV := hid hv
  have hlt := h.lt
  clear hv
  have hlen : stLen st ≤ 65537 := by
    obtain ⟨s, bad, _, hs, hm⟩ := h
    cases st with
    | none => simp [stLen]
    | some l => simp only at hm; obtain ⟨_, rfl⟩ := hm; simp only [stLen]; rw [Array.length_toList]; have : s.data.size = s.size := rfl; omega
  go_enter Tryd.func42, Tryd.ntmps42
  go_wp2_with fail
  refine (must_calls b st ⟨#[32, 45, 62]⟩ _ h).mono ?_
  rintro e w0 ⟨rfl, hrd0, hg0⟩
  have hlen0 := lit_len st [32, 45, 62]
  obtain ⟨st0, hst0⟩ : ∃ st0, st0 = st.bind (lit [32, 45, 62]) := ⟨_, rfl⟩
  have hrd0' : RdS b w0 st0 := by rw [hst0]; exact hrd0
  rw [← hst0] at hlen0
  have HST0 := hid hst0
  clear hst0 hrd0
  go_wp2_with fail
  go_loopw [3] (fun vl' wr => ∃ (vl : Value) (ts : List Term) (sr : Option By), vl = vl' ∧ OwnR 76 termR wr (Tag 88 wr) w.heap.size vl ts ∧ RdS b wr sr ∧ TsAt sr (st0.bind fun l => termsF (l.length + 1) l) ts ∧ w.grownBy wr (some b) ∧ ts.length + stLen sr ≤ 70000) (fun _ wr => rdLen b wr)
  case atStart =>
    refine ⟨_, [], st0, rfl, OwnR.nil, hrd0', ?_, hg0, by simp; omega⟩
    cases st0 with
    | none => exact .inr ⟨rfl, rfl⟩
    | some l =>
      refine .inl ⟨l, l.length + 1, rfl, by omega, ?_⟩
      simp only [Option.bind_some, List.nil_append]
      cases termsF (l.length + 1) l <;> rfl
  case round =>
    obtain ⟨wo, hwo⟩ : ∃ wo, wo = wr := ⟨_, rfl⟩
    subst hwo
    obtain ⟨vl, ts, sr, rfl, hog, hrd, hat, hg, hgl⟩ := hrel
    have HAT := hid hat
    clear hat
    have HVR := hid (HV.out.on (below_of_only hg hBb hlt))
    have hc := eat_calls b sr ⟨#[32, 40]⟩ wo hrd
    cases he : sr.bind (lit [32, 40]) with
    | none =>
      rw [show sr.bind (lit (⟨#[32, 40]⟩ : ByteArray).data.toList) = none from he] at hc
      have HC := hid hc
      have HFIN := hid (HAT.out.fin (by rw [he]; rfl))
      have HS : Hid (sr.map (fun l => (lit (⟨#[32, 40]⟩ : ByteArray).data.toList l).getD l) = sr) := hid (by
        cases sr with
        | none => rfl
        | some l => simp only [Option.bind_some] at he; simp only [Option.map_some]; rw [show lit (⟨#[32, 40]⟩ : ByteArray).data.toList l = none from he]; rfl)
      obtain ⟨A, c, rfl⟩ : ∃ A c, vl = .slice A ts.length c := by obtain ⟨_, _, ho, _⟩ := hog; exact row_form ho
      clear he hc
      go_wp2_with fail
      refine HC.out.mono ?_
      rintro e w1 ⟨rfl, hrd1, hg1⟩
      rw [HS.out] at hrd1
      obtain ⟨s, bad, hb1, hsz1, hst1⟩ := hrd1
      have HB1 := hid hb1
      have HR : Hid ((listR termR).rel w1 (fun g => (Tag 76 w1 g ∨ Tag 88 w1 g)) [.slice A ts.length c] ts) := hid (by
        have hog1 := hog.keep (w' := w1) (S' := Tag 88 w1) (fun g hg' => hg1.block g (hog.tag g hg').1.lt (by simp; exact Tag.ne (hog.tag g hg').1 hrd.tag (by decide)))
          (fun p hp => cell_of_heap_eq (hg1.block p.block hp.lt (by simp; exact Tag.ne hp hrd.tag (by decide)))) (fun g hg' => hg'.keep (hg1.block g hg'.lt (by simp; exact Tag.ne hg' hrd.tag (by decide))))
        exact hog1.rel (fun g hg' => .inr hg') (fun g hg' => .inl (hog1.tag g hg').1))
      have q0 : w1.cell? ⟨b, 0, none⟩ = some (.string s) := by rw [Lib.cell_of_heap hb1]; rfl
      have q1 : w1.cell? ⟨b, 1, none⟩ = some (.bool bad) := by rw [Lib.cell_of_heap hb1]; rfl
      have qf : w1.frozen? ⟨b, 1, none⟩ = false := Lib.frozen_of_heap hb1 1
      have hgE := only_trans hg hg1
      have htag1 : Tag 92 w1 b := ⟨_, _, hb1⟩
      have hkE : ∀ (u : Value) (g : Nat), Tag 76 w1 g ∨ Tag 88 w1 g → (w1.setCell ⟨b, 1, none⟩ u).heap[g]? = w1.heap[g]? := fun u g hg' => Below.heap_setCell _ _ _ _ (by rcases hg' with hg' | hg' <;> exact Tag.ne hg' htag1 (by decide))
      have HRE : Hid (∀ u, (listR termR).rel (w1.setCell ⟨b, 1, none⟩ u) (fun g => (Tag 76 (w1.setCell ⟨b, 1, none⟩ u) g ∨ Tag 88 (w1.setCell ⟨b, 1, none⟩ u) g)) [.slice A ts.length c] ts) :=
        hid fun u => (listR termR).mono (fun p hp => cell_of_heap_eq (hkE u p.block hp)) (fun g hg' => hg'.imp (fun t => t.keep (hkE u g hg')) (fun t => t.keep (hkE u g hg'))) HR.out
      clear hkE htag1 HC hb1 hog
      cases hsr : sr with
      | none =>
        subst hsr
        simp only at hst1
        subst hst1
        have hT : Hid (st.bind tailF = none) := hid (by
          rcases HFIN.out with ⟨r, h1, _⟩ | ⟨_, h2⟩
          · cases h1
          · rw [HST0.out] at h2
            cases hst : st with
            | none => rfl
            | some l =>
              rw [hst] at h2
              simp only [Option.bind_some, tailF] at h2 ⊢
              rw [Option.bind_eq_none_iff] at h2 ⊢
              intro r1 hr1
              rw [h2 r1 hr1]
              rfl)
        go_wp2_with fail
        go_ret
        exact ⟨_, ts, none, rfl, HRE.out _, ⟨s, true, heap_set w1 b 1 _ HB1.out, hsz1, rfl⟩, .inr ⟨rfl, hT.out⟩, only_setCell hgE (.inl rfl) _⟩
      | some l =>
        subst hsr
        simp only at hst1
        obtain ⟨rfl, hsl⟩ := hst1
        have HFT : Hid (∃ l0, st = some l0 ∧ ∃ r1, lit [32, 45, 62] l0 = some r1 ∧ termsF (r1.length + 1) r1 = some (ts, l)) := hid (by
          rcases HFIN.out with ⟨r, h1, h2⟩ | ⟨h1, _⟩
          · cases h1
            rw [HST0.out] at h2
            obtain ⟨r1, h3, h4⟩ := Option.bind_eq_some_iff.1 h2
            obtain ⟨l0, h5, h6⟩ := Option.bind_eq_some_iff.1 h3
            exact ⟨l0, h5, r1, h6, h4⟩
          · cases h1)
        by_cases hnil : l = []
        · subst hnil
          have hsn : s.toList = [] := by rw [ByteArray.toList_eq]; exact hsl
          have hsn2 : s.toList.isEmpty = true := by rw [hsn]; rfl
          have hT : Hid (st.bind tailF = some ts) := hid (by
            obtain ⟨l0, rfl, r1, h1, h2⟩ := HFT.out
            simp only [Option.bind_some, tailF, h1, h2]
            rfl)
          have HSL := hid hsl
          clear hsl hsn
          go_wp2_with fail
          go_ret
          exact ⟨_, ts, some [], rfl, HRE.out _, ⟨s, false, heap_set w1 b 1 _ HB1.out, hsz1, rfl, HSL.out⟩, .inl ⟨rfl, hT.out⟩, only_setCell hgE (.inl rfl) _⟩
        · have hsn : ¬ s.toList = [] := by rw [ByteArray.toList_eq, hsl]; exact hnil
          have hsn2 : s.toList.isEmpty = false := by rw [ByteArray.toList_eq, hsl]; simpa using hnil
          have hT : Hid (st.bind tailF = none) := hid (by
            obtain ⟨l0, rfl, r1, h1, h2⟩ := HFT.out
            simp only [Option.bind_some, tailF, h1, h2]
            rw [if_neg hnil])
          have HSL := hid hsl
          clear hsl hnil
          go_wp2_with fail
          go_ret
          exact ⟨_, ts, none, rfl, HRE.out _, ⟨s, true, heap_set w1 b 1 _ HB1.out, hsz1, rfl⟩, .inr ⟨rfl, hT.out⟩, only_setCell hgE (.inl rfl) _⟩
    | some r =>
      rw [show sr.bind (lit (⟨#[32, 40]⟩ : ByteArray).data.toList) = some r from he] at hc
      have HC := hid hc
      obtain ⟨l, rfl, hl⟩ := Option.bind_eq_some_iff.1 he
      have HL := hid hl
      have hrl := (lit_some hl).2
      simp only [List.length_cons, List.length_nil] at hrl
      simp only [stLen] at hgl
      clear he hc hl
      go_wp2_with fail
      refine HC.out.mono ?_
      rintro e w1 ⟨rfl, hrd1, hg1⟩
      have e1 : (some l).map (fun l => (lit (⟨#[32, 40]⟩ : ByteArray).data.toList l).getD l) = some r := by simp only [Option.map_some]; rw [show lit (⟨#[32, 40]⟩ : ByteArray).data.toList l = some r from HL.out]; rfl
      rw [e1] at hrd1
      have hog1 := hog.keep (w' := w1) (S' := Tag 88 w1) (fun g hg' => hg1.block g (hog.tag g hg').1.lt (by simp; exact Tag.ne (hog.tag g hg').1 hrd.tag (by decide)))
        (fun p hp => cell_of_heap_eq (hg1.block p.block hp.lt (by simp; exact Tag.ne hp hrd.tag (by decide)))) (fun g hg' => hg'.keep (hg1.block g hg'.lt (by simp; exact Tag.ne hg' hrd.tag (by decide))))
      have HV1 := hid (HVR.out.on (below_of_only hg1 hBb hrd.lt))
      have hmu : rdLen b wo = l.length + 1 := hrd.len
      have HMU := hid hmu
      clear e1 hog HC hmu HVR
      go_wp2_with fail
      refine (rnums_calls b B hBb (some r) 5 (by decide) _ hrd1 HV1.out).mono ?_
      rintro e w2 ⟨g1, xs, s1, rfl, hg1ge, hgc, hxl, hall, hrd2, hfin1, hg2⟩
      obtain ⟨a0, a1, a2, a3, a4, rfl⟩ := list5 hxl
      have hg1lt : g1 < w2.heap.size := by
        rcases Nat.lt_or_ge g1 w2.heap.size with h' | h'
        · exact h'
        · simp [Array.getElem?_eq_none h'] at hgc
      have HG1 := hid hgc
      have HFIN1 := hid hfin1
      have HV2 := hid (HV1.out.on (below_of_only hg2 hBb hrd1.lt))
      have hb1lt := hrd1.lt
      clear hgc hfin1 hxl
      go_wp2_with fail
      obtain ⟨ι, W, ⟨i0, hi0⟩, hW, Wsur⟩ := held_class w2.drew (fun g => g = g1)
      have hne : Nonempty ι := ⟨i0⟩
      have q0 : ∀ i, (W i).cell? ⟨g1, 0, none⟩ = some (.int .i64 a0) := fun i => by rw [Lib.cell_of_heap ((hW i _ rfl).trans HG1.out)]; rfl
      have q1 : ∀ i, (W i).cell? ⟨g1, 1, none⟩ = some (.int .i64 a1) := fun i => by rw [Lib.cell_of_heap ((hW i _ rfl).trans HG1.out)]; rfl
      have q2 : ∀ i, (W i).cell? ⟨g1, 2, none⟩ = some (.int .i64 a2) := fun i => by rw [Lib.cell_of_heap ((hW i _ rfl).trans HG1.out)]; rfl
      have q3 : ∀ i, (W i).cell? ⟨g1, 3, none⟩ = some (.int .i64 a3) := fun i => by rw [Lib.cell_of_heap ((hW i _ rfl).trans HG1.out)]; rfl
      have q4 : ∀ i, (W i).cell? ⟨g1, 4, none⟩ = some (.int .i64 a4) := fun i => by rw [Lib.cell_of_heap ((hW i _ rfl).trans HG1.out)]; rfl
      have WS := hid Wsur; clear Wsur
      have HW := hid hW; clear hW
      have Hi0 := hid hi0; clear hi0
      refine region_anyL (S := fun w' => ∃ i, w' = W i) (last := 18) (by kernel_rfl) ?_
      refine anyL_seg 0 16 (by kernel_rfl) (fun _ _ _ _ _ h => h) ⟨i0, Hi0.out.symm⟩ (f := 2) rfl (by kernel_rfl) (by kernel_rfl) ?_
      simp only [List.drop_zero, List.take_succ_cons, List.take_zero]
      repeat go_big_quiet_step (fail)
      refine wpQuiet_nil ?_
      refine anyL_act (i := 16) (by kernel_rfl) rfl rfl ?_
      intro K hK
      go_wp2_with fail
      refine hK.out _ _ (fun _ => WS.out _ (fun g hg => by subst hg; exact Below.heap_alloc _ _ _ hg1lt)) ?_
      clear hK K
      refine anyL_act (i := 17) (by kernel_rfl) rfl rfl ?_
      intro K hK
      go_wp2_with fail
      refine hK.out _ _ (fun _ => WS.out _ (fun g hg => by subst hg; exact Below.heap_alloc _ _ _ hg1lt)) ?_
      clear hK K
      refine anyL_done (by kernel_rfl) ?_ _
      clear q0 q1 q2 q3 q4 WS HW Hi0 hne i0 W ι
      have hIa : I64 a0 ∧ I64 a1 ∧ I64 a2 ∧ I64 a3 ∧ I64 a4 := ⟨hall a0 (by simp), hall a1 (by simp), hall a2 (by simp), hall a3 (by simp), hall a4 (by simp)⟩
      have HIA := hid hIa
      have hgT : w1.grownBy ((w2.alloc (.cells #[.int .i64 a0, .int .i64 a1, .int .i64 a2, .int .i64 a3, .int .i64 a4, .slice none 0 0] 76))).drew (some b) := only_drew (only_alloc hg2 _)
      have hs12 := hg2.size
      go_wp2_with fail
      go_loopw [6] (fun _ wq => ∃ (vp : Value) (ps : List Part) (s2 : Option By), wq.heap[w2.heap.size]? = some (.cells #[.int .i64 a0, .int .i64 a1, .int .i64 a2, .int .i64 a3, .int .i64 a4, vp] 76 (0, 0)) ∧ OwnP 88 wq w1.heap.size vp ps ∧
        RdS b wq s2 ∧ PsAt s2 (s1.bind fun l => partsF (l.length + 1) l) ps ∧ w1.grownBy wq (some b) ∧ w2.heap.size < wq.heap.size ∧ ps.length + stLen s2 ≤ 70000) (fun _ wq => rdLen b wq)
      case atStart =>
        have hl1 : stLen s1 ≤ 65537 := by
          obtain ⟨s, bad, _, hs, hm⟩ := hrd2
          cases s1 with
          | none => simp [stLen]
          | some l => simp only at hm; obtain ⟨_, rfl⟩ := hm; simp only [stLen]; rw [Array.length_toList]; have : s.data.size = s.size := rfl; omega
        refine ⟨_, [], s1, heap_alloc_new w2 _, ⟨World.ownsRow_nil _ _ _ _, fun x hx => by cases hx⟩, hrd2.keep (Below.heap_alloc _ _ _ hrd2.lt), ?_, hgT, by simp, by simp; omega⟩
        cases s1 with
        | none => exact .inr ⟨rfl, rfl⟩
        | some l =>
          refine .inl ⟨l, l.length + 1, rfl, by omega, ?_⟩
          simp only [Option.bind_some, List.nil_append]
          cases partsF (l.length + 1) l <;> rfl
      case round =>
        obtain ⟨wq, hwq'⟩ : ∃ wq, wq = wr := ⟨_, rfl⟩
        subst hwq'
        obtain ⟨vp, ps, s2, hT5, hop, hrdq, hatq, hgq, hszq, hpl⟩ := hrel
        have HT := hid hT5
        have HATQ := hid hatq
        have HVQ := hid (HV1.out.on (below_of_only hgq hBb hb1lt))
        obtain ⟨A3, cp3, rfl⟩ := row_form hop.1
        have h2b : w2.heap.size ≠ b := by omega
        clear hT5 hatq
        have hec := eat_calls b s2 ⟨#[59, 32]⟩ wq hrdq
        cases hes : s2.bind (lit [59, 32]) with
        | none =>
          rw [show s2.bind (lit (⟨#[59, 32]⟩ : ByteArray).data.toList) = none from hes] at hec
          have HEC := hid hec
          have HFP := hid (HATQ.out.fin (by rw [hes]; rfl))
          have HS2 : Hid (s2.map (fun l => (lit (⟨#[59, 32]⟩ : ByteArray).data.toList l).getD l) = s2) := hid (by
            cases s2 with
            | none => rfl
            | some l => simp only [Option.bind_some] at hes; simp only [Option.map_some]; rw [show lit (⟨#[59, 32]⟩ : ByteArray).data.toList l = none from hes]; rfl)
          clear hes hec
          go_wp2_with fail
          refine HEC.out.mono ?_
          rintro e w3 ⟨rfl, hrd3, hg3⟩
          rw [HS2.out] at hrd3
          have hop3 := ownP_keep hop (w' := w3) (fun g ht _ => hg3.block g ht.lt (by simp; exact Tag.ne ht hrdq.tag (by decide)))
          have HT3 := hid ((hg3.block _ hszq (by simp; exact h2b)).trans HT.out)
          have hgq3 := only_trans hgq hg3
          have hsz3 := hg3.size
          clear HEC hop
          go_wp2_with fail
          refine (must_calls b s2 ⟨#[41]⟩ _ hrd3).mono ?_
          rintro e w4 ⟨rfl, hrd4, hg4⟩
          have hop4 := ownP_keep hop3 (w' := w4) (fun g ht _ => hg4.block g ht.lt (by simp; exact Tag.ne ht hrd3.tag (by decide)))
          have HT4 := hid ((hg4.block _ (by omega) (by simp; exact h2b)).trans HT3.out)
          have hgq4 := only_trans hgq3 hg4
          have hsz4 := hg4.size
          have HSTEP := hid (TsAt.step HAT.out HL.out HFIN1.out HFP.out rfl)
          have t0 : w4.cell? ⟨w2.heap.size, 0, none⟩ = some (.int .i64 a0) := by rw [Lib.cell_of_heap HT4.out]; rfl
          have t1 : w4.cell? ⟨w2.heap.size, 1, none⟩ = some (.int .i64 a1) := by rw [Lib.cell_of_heap HT4.out]; rfl
          have t2 : w4.cell? ⟨w2.heap.size, 2, none⟩ = some (.int .i64 a2) := by rw [Lib.cell_of_heap HT4.out]; rfl
          have t3 : w4.cell? ⟨w2.heap.size, 3, none⟩ = some (.int .i64 a3) := by rw [Lib.cell_of_heap HT4.out]; rfl
          have t4 : w4.cell? ⟨w2.heap.size, 4, none⟩ = some (.int .i64 a4) := by rw [Lib.cell_of_heap HT4.out]; rfl
          have t5 : w4.cell? ⟨w2.heap.size, 5, none⟩ = some (.slice A3 ps.length cp3) := by rw [Lib.cell_of_heap HT4.out]; rfl
          have hogr : OwnR 76 termR w4 (Tag 88 w4) w.heap.size vl ts := hog1.keep (fun g hg' => hgq4.block g (hog1.tag g hg').1.lt (by simp; exact Tag.ne (hog1.tag g hg').1 hrd1.tag (by decide)))
            (fun p hp => cell_of_heap_eq (hgq4.block p.block hp.lt (by simp; exact Tag.ne hp hrd1.tag (by decide)))) (fun g hg' => hg'.keep (hgq4.block g hg'.lt (by simp; exact Tag.ne hg' hrd1.tag (by decide))))
          obtain ⟨css, hcl, hown, hel⟩ := hogr
          have HEL := hid hel
          have HCL := hid hcl
          clear hel hcl
          obtain ⟨A4, c4, rfl⟩ := row_form hown
          have hszw := (only_trans hg hg1).size
          clear hop3
          go_wp2_with (at_builtin; refine Hid.out ?_)
          refine hid ?_
          refine wpList_append_own _ rfl _ _ 43 rfl w.heap.size 76 infT _ 6 64 Tryd.underlying43 hiT ht0 ht1 ht2 rfl (by decide) _ _ _ rfl (hown.alloc _) ⟨w4.heap.size, 0, none⟩ 1 1 [.int .i64 a0, .int .i64 a1, .int .i64 a2, .int .i64 a3, .int .i64 a4, .slice A3 ps.length cp3] rfl rfl (news_at (w := w4) (cs := #[_, _, _, _, _, _]) rfl) (by simp [Value.oneCell']) (by unfold maxLen; omega) (by omega) (by simp; omega) ?_
          intro v' w6 hown6 hg6 hn6
          have hrow : ∀ g, (Value.slice A4 ts.length c4).ownBlock = some g → Tag 76 w4 g ∧ w.heap.size ≤ g := fun g hg' => own_tag hown g hg'
          have hblk : ∀ g, g < w4.heap.size → ¬ Tag 76 w4 g → w6.heap[g]? = w4.heap[g]? := fun g hg' hnt =>
            (hg6.block g (by simp; omega) (fun he => hnt (hrow g he.symm).1)).trans (Below.heap_alloc w4 _ g hg')
          have hsp : ∀ g, Tag 88 w4 g → w6.heap[g]? = w4.heap[g]? := fun g hg' => hblk g hg'.lt (fun ht => Tag.ne hg' ht (by decide) rfl)
          have hrdE := hrd4.keep (hblk b hrd4.lt (fun ht => Tag.ne hrd4.tag ht (by decide) rfl))
          have hpsE : (listR partR).rel w6 (Tag 88 w6) [.slice A3 ps.length cp3] ps :=
            (listR partR).mono (S := Tag 88 w4) (fun p hp => cell_of_heap_eq (hsp p.block hp)) (fun g hg' => hg'.keep (hsp g hg'))
              (own_list (r := partR) (enc := Part.cells) hop4.1 (fun g hg' => (own_tag hop4.1 g hg').1) (fun x hx => ⟨rfl, rfl, hop4.2 x hx⟩))
          have hogE : OwnR 76 termR w6 (Tag 88 w6) w.heap.size v' (ts ++ [⟨a0, a1, a2, a3, a4, ps⟩]) :=
            OwnR.push HCL.out hown6 (fun i x cs h1 h2 => termR.mono (fun p hp => cell_of_heap_eq (hsp p.block hp)) (fun g hg' => hg'.keep (hsp g hg')) (HEL.out i x cs h1 h2)) ⟨_, rfl, HIA.out, hpsE⟩
          have hgE : w.grownBy w6 (some b) := only_new (only_alloc (only_trans (only_trans hg hg1) hgq4) _) hg6 (fun g hg' => .inl (hrow g hg').2)
          clear hown6 hn6 hown hop4 hg6 hsp hblk hrow t0 t1 t2 t3 t4 t5
          go_wp2_with fail
          have hm := HSTEP.out.2
          refine ⟨⟨_, _, _, rfl, hogE, hrdE, HSTEP.out.1, hgE, by simp; omega⟩, ?_⟩
          rw [hrdE.len, HMU.out]
          exact hm
        | some r2 =>
          rw [show s2.bind (lit (⟨#[59, 32]⟩ : ByteArray).data.toList) = some r2 from hes] at hec
          have HEC := hid hec
          obtain ⟨l2, rfl, hl2⟩ := Option.bind_eq_some_iff.1 hes
          have HL2 := hid hl2
          simp only [stLen] at hpl
          have HMQ : Hid (rdLen b wq = l2.length + 1) := hid hrdq.len
          clear hes hec hl2
          go_wp2_with fail
          refine HEC.out.mono ?_
          rintro e w3 ⟨rfl, hrd3, hg3⟩
          have e1 : (some l2).map (fun l => (lit (⟨#[59, 32]⟩ : ByteArray).data.toList l).getD l) = some r2 := by simp only [Option.map_some]; rw [show lit (⟨#[59, 32]⟩ : ByteArray).data.toList l2 = some r2 from HL2.out]; rfl
          rw [e1] at hrd3
          have hop3 := ownP_keep hop (w' := w3) (fun g ht _ => hg3.block g ht.lt (by simp; exact Tag.ne ht hrdq.tag (by decide)))
          have HT3 := hid ((hg3.block _ hszq (by simp; exact h2b)).trans HT.out)
          have hgq3 := only_trans hgq hg3
          have hsz3 := hg3.size
          have HV3 := hid (HVQ.out.on (below_of_only hg3 hBb hrdq.lt))
          clear HEC hop e1
          go_wp2_with fail
          refine (rnums_calls b B hBb (some r2) 4 (by decide) _ hrd3 HV3.out).mono ?_
          rintro e w5 ⟨g2, ys, s3, rfl, hg2ge, hgc, hyl, hall2, hrd5, hfin2, hg5⟩
          obtain ⟨c0, c1, c2, c3, rfl⟩ := list4 hyl
          have hg2lt : g2 < w5.heap.size := by
            rcases Nat.lt_or_ge g2 w5.heap.size with h' | h'
            · exact h'
            · simp [Array.getElem?_eq_none h'] at hgc
          have HG2 := hid hgc
          have hop5 := ownP_keep hop3 (w' := w5) (fun g ht _ => hg5.block g ht.lt (by simp; exact Tag.ne ht hrd3.tag (by decide)))
          have HT5 := hid ((hg5.block _ (by omega) (by simp; exact h2b)).trans HT3.out)
          have hgq5 := only_trans hgq3 hg5
          have hsz5 := hg5.size
          have hw1s := hgq5.size
          have hp5lt : w2.heap.size < w5.heap.size := by omega
          have HSTEP := hid (PsAt.step HATQ.out HL2.out hfin2)
          have HIC : Hid (Part.ok ⟨c0, c1, c2, c3⟩) := hid ⟨hall2 c0 (by simp), hall2 c1 (by simp), hall2 c2 (by simp), hall2 c3 (by simp)⟩
          clear hgc hfin2 hyl hop3 hall2
          go_wp2_with fail
          obtain ⟨ι, W, ⟨i0, hi0⟩, hW, Wsur⟩ := held_class w5.drew (fun g => g = g2 ∨ g = w2.heap.size)
          have hne : Nonempty ι := ⟨i0⟩
          have q0 : ∀ i, (W i).cell? ⟨g2, 0, none⟩ = some (.int .i64 c0) := fun i => by rw [Lib.cell_of_heap ((hW i _ (.inl rfl)).trans HG2.out)]; rfl
          have q1 : ∀ i, (W i).cell? ⟨g2, 1, none⟩ = some (.int .i64 c1) := fun i => by rw [Lib.cell_of_heap ((hW i _ (.inl rfl)).trans HG2.out)]; rfl
          have q2 : ∀ i, (W i).cell? ⟨g2, 2, none⟩ = some (.int .i64 c2) := fun i => by rw [Lib.cell_of_heap ((hW i _ (.inl rfl)).trans HG2.out)]; rfl
          have q3 : ∀ i, (W i).cell? ⟨g2, 3, none⟩ = some (.int .i64 c3) := fun i => by rw [Lib.cell_of_heap ((hW i _ (.inl rfl)).trans HG2.out)]; rfl
          have q4 : ∀ i, (W i).cell? ⟨w2.heap.size, 5, none⟩ = some (.slice A3 ps.length cp3) := fun i => by rw [Lib.cell_of_heap ((hW i _ (.inr rfl)).trans HT5.out)]; rfl
          have WS := hid Wsur; clear Wsur
          have HW := hid hW; clear hW
          have Hi0 := hid hi0; clear hi0
          refine region_anyL (S := fun w' => ∃ i, w' = W i) (last := 18) (by kernel_rfl) ?_
          refine anyL_seg 0 15 (by kernel_rfl) (fun _ _ _ _ _ h => h) ⟨i0, Hi0.out.symm⟩ (f := 4) rfl (by kernel_rfl) (by kernel_rfl) ?_
          simp only [List.drop_zero, List.take_succ_cons, List.take_zero]
          repeat go_big_quiet_step (fail)
          refine wpQuiet_nil ?_
          refine anyL_act (i := 15) (by kernel_rfl) rfl rfl ?_
          intro K hK
          go_wp2_with fail
          refine hK.out _ _ (fun _ => WS.out _ (fun g hg => by rcases hg with rfl | rfl; exact Below.heap_alloc _ _ _ hg2lt; exact Below.heap_alloc _ _ _ hp5lt)) ?_
          clear hK K
          have howA : (w5.alloc (.cells #[.int .i64 c0, .int .i64 c1, .int .i64 c2, .int .i64 c3] 88)).drew.ownsRow w1.heap.size 88 4 (.slice A3 ps.length cp3) ps.length (ps.flatMap Part.cells) := hop5.1.alloc _
          refine anyL_act (i := 16) (by kernel_rfl) rfl rfl ?_
          intro K hK
          refine act_append_at _ _ 74 rfl w1.heap.size 88 infP _ 4 32 Tryd.underlying74 hiP hp0 hp1 hp2 rfl (by decide) _ _ _ rfl howA ⟨w5.heap.size, 0, none⟩ 1 1 [.int .i64 c0, .int .i64 c1, .int .i64 c2, .int .i64 c3] rfl rfl (news_at (w := w5) (cs := #[_, _, _, _]) rfl) (by simp [Value.oneCell']) (by unfold maxLen; omega) (by omega) (by simp; omega) ?_
          intro v' w6 hown6 hg6 _ _
          go_simp
          have htag6 : ∀ g, (Value.slice A3 ps.length cp3).ownBlock = some g → Tag 88 w5 g ∧ w1.heap.size ≤ g := fun g hg' => own_tag hop5.1 g hg'
          have hkeep6 : ∀ g, g < w5.heap.size → ¬ Tag 88 w5 g → w6.heap[g]? = w5.heap[g]? := fun g hg' hnt =>
            (hg6.block g (by simp; omega) (fun he => hnt (htag6 g he.symm).1)).trans (Below.heap_alloc w5 _ g hg')
          have hk2 : w6.heap[g2]? = w5.heap[g2]? := hkeep6 g2 hg2lt (fun ht => Tag.ne (t := 3) ⟨_, _, HG2.out⟩ ht (by decide) rfl)
          have hk5 : w6.heap[w2.heap.size]? = w5.heap[w2.heap.size]? := hkeep6 _ hp5lt (fun ht => Tag.ne (t := 76) ⟨_, _, HT5.out⟩ ht (by decide) rfl)
          refine hK.out _ _ (fun _ => WS.out _ (fun g hg => by rcases hg with rfl | rfl; exact hk2; exact hk5)) ?_
          clear hK K
          have hs6 : ∃ i, w6 = W i := WS.out _ (fun g hg => by rcases hg with rfl | rfl; exact hk2; exact hk5)
          refine anyL_seg 17 1 (by kernel_rfl) (fun _ _ _ _ _ h => h) hs6 (f := 1) rfl (by kernel_rfl) (by kernel_rfl) ?_
          simp only [List.drop_succ_cons, List.drop_zero, List.take_succ_cons, List.take_zero]
          repeat go_big_quiet_step (fail)
          refine wpQuiet_nil ?_
          have HT6 := hid (hk5.trans HT5.out)
          have z5 : w6.cell? ⟨w2.heap.size, 5, none⟩ = some (.slice A3 ps.length cp3) := by rw [Lib.cell_of_heap HT6.out]; rfl
          have zf : w6.frozen? ⟨w2.heap.size, 5, none⟩ = false := Lib.frozen_of_heap HT6.out 5
          obtain ⟨A6, cp6, rfl⟩ := row_form hown6
          have HO6 := hid hown6
          have HG6 := hid hg6
          clear hown6 hg6
          refine anyL_act (i := 18) (by kernel_rfl) rfl rfl ?_
          intro K hK
          go_wp2_with fail
          refine hK.out _ _ (fun h => absurd rfl h) ?_
          clear hK K
          refine anyL_done (by kernel_rfl) ?_ _
          clear q0 q1 q2 q3 q4 hs6 WS HW Hi0 hne i0 W ι
          have hopE : OwnP 88 (w6.setCell ⟨w2.heap.size, 5, none⟩ (.slice A6 (ps.length + 1) cp6)) w1.heap.size (.slice A6 (ps.length + 1) cp6) (ps ++ [⟨c0, c1, c2, c3⟩]) := by
            have h1 : OwnP 88 w6 w1.heap.size (.slice A6 (ps.length + 1) cp6) (ps ++ [⟨c0, c1, c2, c3⟩]) := OwnP.push (x := ⟨c0, c1, c2, c3⟩) HO6.out hop5.2 HIC.out
            exact ownP_keep h1 (fun g ht _ => Below.heap_setCell _ _ _ _ (fun he => Tag.ne (t := 76) (g := w2.heap.size) ⟨_, _, HT6.out⟩ ht (by decide) he.symm))
          have hTE := heap_set w6 w2.heap.size 5 (.slice A6 (ps.length + 1) cp6) HT6.out
          have hgE : w1.grownBy (w6.setCell ⟨w2.heap.size, 5, none⟩ (.slice A6 (ps.length + 1) cp6)) (some b) := only_setCell (only_new (only_drew (only_alloc hgq5 _)) HG6.out (fun g hg' => .inl (htag6 g hg').2)) (.inr (by show w1.heap.size ≤ w2.heap.size; omega)) _
          have hrdE : RdS b (w6.setCell ⟨w2.heap.size, 5, none⟩ (.slice A6 (ps.length + 1) cp6)) s3 := (hrd5.keep (hkeep6 b hrd5.lt (fun ht => Tag.ne hrd5.tag ht (by decide) rfl))).keep (Below.heap_setCell _ _ _ _ (Ne.symm h2b))
          have hszE : w2.heap.size < (w6.setCell ⟨w2.heap.size, 5, none⟩ (.slice A6 (ps.length + 1) cp6)).heap.size := by have := HG6.out.size; simp [World.setCell] at this ⊢; omega
          clear htag6 hkeep6 hk2 hk5 z5 zf howA
          go_wp2_with fail
          have hm := HSTEP.out.2
          refine ⟨⟨_, _, s3, hTE, hopE, hrdE, HSTEP.out.1, hgE, hszE, by simp; omega⟩, ?_⟩
          rw [hrdE.len, HMQ.out]
          exact hm
end Go.Proofs.YtcdnkmefcldfmaaDoor
