/-
  The reader's num and nums, by what is left of the line.
-/
import Derived.Test.YtcdnkmefcldfmaaDoorPgNm
import Derived.Laws.OwnMore
namespace Go.Proofs.YtcdnkmefcldfmaaDoor
open Go.RowKit Go.Um

/-- what has been read, or a fault, as the parser says. -/
def Fin {α : Type} (st : Option By) (T : Option (α × By)) (x : α) : Prop := (∃ r, st = some r ∧ T = some (x, r)) ∨ (st = none ∧ T = none)

theorem num_calls (b B : Nat) (hBb : B ≤ b) (st : Option By) (w : World) (h : RdS b w st) (hv : Vars B w) :
    Calls Tryd.prog 43 #[.pointer (some ⟨b, 0, none⟩)] w fun e w' => ∃ x st', e = .returned (.int .i64 x) ∧ I64 x ∧ RdS b w' st' ∧ Fin st' (st.bind numF) x ∧ w.grownBy w' (some b) := by
  obtain ⟨s, bad, hb, hsz, hst⟩ := h
  have hc : Calls Tryd.prog 43 #[.pointer (some ⟨b, 0, none⟩)] w (NumPost b s bad w) := by
    cases hneg : [45].isPrefixOf s.data.toList with
    | true => exact num_neg b B hBb s bad w hb hsz hv hneg
    | false => exact num_pos b B hBb s bad w hb hsz hv hneg
  refine hc.mono ?_
  rintro e w' ⟨x, rfl, hI, hg, hm⟩
  cases st with
  | none =>
    simp only at hst
    subst hst
    refine ⟨x, none, rfl, hI, ?_, .inr ⟨rfl, rfl⟩, hg⟩
    split at hm
    · obtain ⟨_, s', h1, _, h3⟩ := hm
      exact ⟨s', true, h1, by omega, rfl⟩
    · exact ⟨s, true, hm, hsz, rfl⟩
  | some l =>
    simp only at hst
    obtain ⟨rfl, rfl⟩ := hst
    cases hn : numF s.data.toList with
    | none =>
      rw [hn] at hm
      exact ⟨x, none, rfl, hI, ⟨s, true, hm, hsz, rfl⟩, .inr ⟨rfl, hn⟩, hg⟩
    | some p =>
      obtain ⟨y, r⟩ := p
      rw [hn] at hm
      obtain ⟨rfl, s', h1, h2, h3⟩ := hm
      exact ⟨x, some r, rfl, hI, ⟨s', false, h1, by omega, rfl, h2⟩, .inl ⟨r, rfl, hn⟩, hg⟩

theorem info3 : (Tryd.prog.info? 3).map (fun i => (i.zero, i.size, i.bytes)) = some (some (.int .i64 0), 1, 8) := by kernel_rfl
theorem made_one (n : Nat) : madeCells #[Value.int .i64 0] (n * 1) = ⟨([] : List Int).map (Value.int .i64) ++ List.replicate n (.int .i64 0)⟩ := by
  have := toList_madeCells_one (.int .i64 0) (n * 1)
  rw [Nat.mul_one] at this ⊢
  rw [List.map_nil, List.nil_append, ← this]
theorem set_next (xs : List Int) (m : Nat) (x : Int) : (⟨xs.map (Value.int .i64) ++ List.replicate (m + 1) (.int .i64 0)⟩ : Array Value).setIfInBounds xs.length (.int .i64 x) = ⟨(xs ++ [x]).map (Value.int .i64) ++ List.replicate m (.int .i64 0)⟩ := by
  apply Array.ext'
  simp only [Array.toList_setIfInBounds]
  rw [List.set_append_right _ _ (by simp)]
  simp [List.replicate_succ]
/-- how far nums has come. -/
def NumsAt (st : Option By) (T : Option (List Int × By)) (xs : List Int) (n : Nat) : Prop := (∃ l, st = some l ∧ T = (numsF xs.length (n - xs.length) l).map fun p => (xs ++ p.1, p.2)) ∨ (st = none ∧ T = none)
theorem NumsAt.step {st st1 st2 : Option By} {T : Option (List Int × By)} {xs : List Int} {n : Nat} {x : Int} (h : NumsAt st T xs n) (hn : xs.length < n) (h1 : st1 = if xs.length = 0 then st else st.bind (lit [32])) (h2 : Fin st2 (st1.bind numF) x) : NumsAt st2 T (xs ++ [x]) n := by
  rcases h with ⟨l, rfl, hT⟩ | ⟨rfl, rfl⟩
  · obtain ⟨m, hm⟩ : ∃ m, n - xs.length = m + 1 := ⟨n - xs.length - 1, by omega⟩
    have hm2 : n - (xs ++ [x]).length = m := by simp; omega
    rw [hm, numsF] at hT
    have e1 : (if xs.length = 0 then some l else lit [32] l) = st1 := by rw [h1]; split <;> rfl
    rw [e1] at hT
    rcases h2 with ⟨r, rfl, h3⟩ | ⟨rfl, h3⟩
    · obtain ⟨l1, rfl, h4⟩ := Option.bind_eq_some_iff.1 h3
      refine .inl ⟨r, rfl, ?_⟩
      rw [hT, hm2]
      simp only [Option.bind_some, h4, List.length_append, List.length_singleton]
      cases numsF (xs.length + 1) m r with
      | none => rfl
      | some p => simp
    · refine .inr ⟨rfl, ?_⟩
      rw [hT]
      cases st1 with
      | none => rfl
      | some l1 =>
        simp only [Option.bind_some] at h3 ⊢
        rw [h3]
        rfl
  · have : st1 = none := by rw [h1]; split <;> rfl
    subst this
    rcases h2 with ⟨r, rfl, h3⟩ | ⟨rfl, h3⟩
    · cases h3
    · exact .inr ⟨rfl, rfl⟩

def RNumsPost (b : Nat) (st : Option By) (n : Nat) (w : World) (e : Ending) (w' : World) : Prop := ∃ g xs st', e = .returned (.slice (some ⟨g, 0, none⟩) n n) ∧ w.heap.size ≤ g ∧ w'.heap[g]? = some (.cells ⟨xs.map (Value.int .i64)⟩ 3 (0, 0)) ∧
      xs.length = n ∧ allI xs ∧ RdS b w' st' ∧ Fin st' (st.bind (numsF 0 n)) xs ∧ w.grownBy w' (some b)
set_option maxHeartbeats 2000000 in
set_option maxRecDepth 100000 in
theorem rnums_calls (b B : Nat) (hBb : B ≤ b) (st : Option By) (n : Nat) (hn : n ≤ 10) (w : World) (h : RdS b w st) (hv : Vars B w) :
    Calls Tryd.prog 39 #[.pointer (some ⟨b, 0, none⟩), .int .i64 n] w (RNumsPost b st n w) := by
  obtain ⟨inf, hi0, hz0, hz1, hz2⟩ := info_parts info3
  have hmk := make_rowN (P := Tryd.prog) 61 3 inf _ Tryd.underlying61 hi0 hz0 .i64 .i64 n n (Nat.le_refl _) (by rw [hz2]; omega) (by omega)
  have e1 : (Value.int .i64 0).cells = #[Value.int .i64 0] := rfl
  rw [hz1, e1, made_one] at hmk
  have HV := hid hv
  have hlt := h.lt
  clear hv e1
  go_enter Tryd.func39, Tryd.ntmps39
  go_wp2_with fail
  go_loopw [11] (fun vi wr => ∃ (xs : List Int) (sr : Option By), xs.length ≤ n ∧ vi = .int .i64 xs.length ∧ wr.heap[w.heap.size]? = some (.cells ⟨xs.map (Value.int .i64) ++ List.replicate (n - xs.length) (.int .i64 0)⟩ 3 (0, 0)) ∧
    RdS b wr sr ∧ allI xs ∧ NumsAt sr (st.bind (numsF 0 n)) xs n ∧ w.grownBy wr (some b) ∧ w.heap.size < wr.heap.size) (fun vi _ => n - (intOf vi).toNat)
  case atStart =>
    refine ⟨[], st, Nat.zero_le _, rfl, heap_alloc_new _ _, h.later ((Below.refl _ _).alloc (Nat.le_refl _) _), (fun x hx => by cases hx), ?_, World.grownBy_alloc _ _ _, by simp⟩
    cases st with
    | none => exact .inr ⟨rfl, rfl⟩
    | some l =>
      refine .inl ⟨l, rfl, ?_⟩
      simp only [Option.bind_some, List.length_nil, Nat.sub_zero, List.nil_append]
      cases numsF 0 n l <;> rfl
  case round =>
    obtain ⟨xs, sr, hxl, rfl, hrow, hrd, hall, hat, hg, hsz⟩ := hrel
    have HROW := hid hrow
    have HAT := hid hat
    clear hrow hat hmk
    have HVR := hid (HV.out.on (below_of_only hg hBb hlt))
    have hgb : w.heap.size ≠ b := by omega
    by_cases hk : xs.length < n
    · have hk' : (xs.length : Int) < n := by omega
      by_cases h0 : xs.length = 0
      · have hx0 : xs = [] := List.eq_nil_of_length_eq_zero h0
        subst hx0
        go_wp2_with fail
        refine (num_calls b B hBb sr _ hrd HVR.out).mono ?_
        rintro e w2 ⟨x, s2, rfl, hI, hrd2, hfin, hg2⟩
        have hr2 := (hg2.block _ hsz (by simp; exact hgb)).trans HROW.out
        have c0 : w2.cell? ⟨w.heap.size, 0, none⟩ = some (.int .i64 0) := by
          rw [Lib.cell_of_heap hr2]
          obtain ⟨m, rfl⟩ : ∃ m, n = m + 1 := ⟨n - 1, by omega⟩
          rfl
        have f0 : w2.frozen? ⟨w.heap.size, 0, none⟩ = false := Lib.frozen_of_heap hr2 0
        have HR2 := hid hr2
        have HST := hid (HAT.out.step (x := x) hk rfl hfin)
        clear hr2 hfin
        go_wp2_with fail
        refine ⟨⟨[x], s2, by simp; omega, rfl, ?_, hrd2.keep (Below.heap_setCell _ _ _ _ (Ne.symm hgb)), ?_, HST.out, ?_, ?_⟩, ?_⟩
        · have := heap_set w2 w.heap.size 0 (.int .i64 x) HR2.out
          obtain ⟨m, rfl⟩ : ∃ m, n = m + 1 := ⟨n - 1, by omega⟩
          have h2 := set_next [] m x
          simp only [List.length_nil, Nat.sub_zero] at h2 this
          rw [h2] at this
          exact this
        · intro y hy; simp at hy; subst hy; exact hI
        · exact only_setCell (only_trans hg hg2) (.inr (Nat.le_refl _)) _
        · simp [World.setCell]; have := hg2.size; omega
        · simp [intOf]; omega
      · have h1 : (0 : Int) < xs.length := by omega
        go_wp2_with fail
        refine (must_calls b sr ⟨#[32]⟩ _ hrd).mono ?_
        rintro e w1 ⟨rfl, hrd1, hg1⟩
        have HV1 := hid (HVR.out.on (below_of_only hg1 hBb hrd.lt))
        have hr1 := (hg1.block _ hsz (by simp; exact hgb)).trans HROW.out
        have HR1 := hid hr1
        clear hr1
        go_wp2_with fail
        refine (num_calls b B hBb _ _ hrd1 HV1.out).mono ?_
        rintro e w2 ⟨x, s2, rfl, hI, hrd2, hfin, hg2⟩
        have hr2 := (hg2.block _ (Nat.lt_of_lt_of_le hsz hg1.size) (by simp; exact hgb)).trans HR1.out
        obtain ⟨m, hm⟩ : ∃ m, n - xs.length = m + 1 := ⟨n - xs.length - 1, by omega⟩
        rw [hm] at hr2
        have c0 : w2.cell? ⟨w.heap.size, xs.length, none⟩ = some (.int .i64 0) := by
          rw [Lib.cell_of_heap hr2]
          simp [List.replicate_succ]
        have f0 : w2.frozen? ⟨w.heap.size, xs.length, none⟩ = false := Lib.frozen_of_heap hr2 _
        have HR2 := hid hr2
        have HST := hid (HAT.out.step (x := x) hk (by rw [if_neg h0]) hfin)
        have HM := hid hm
        clear hr2 hfin hm
        go_wp2_with fail
        refine ⟨⟨xs ++ [x], s2, by simp; omega, by rw [List.length_append]; go_num, ?_, hrd2.keep (Below.heap_setCell _ _ _ _ (Ne.symm hgb)), ?_, HST.out, ?_, ?_⟩, ?_⟩
        · have := heap_set w2 w.heap.size xs.length (.int .i64 x) HR2.out
          rw [set_next] at this
          rw [show n - (xs ++ [x]).length = m by have := HM.out; simp; omega]
          exact this
        · intro y hy
          rcases List.mem_append.1 hy with hy | hy
          · exact hall y hy
          · simp at hy; subst hy; exact hI
        · exact only_setCell (only_trans hg (only_trans hg1 hg2)) (.inr (Nat.le_refl _)) _
        · simp [World.setCell]; have := hg2.size; have := hg1.size; omega
        · simp [intOf]; omega
    · have hke : xs.length = n := by omega
      have HE := hid hke
      have hlt' : ¬ (xs.length : Int) < n := by omega
      clear hke
      go_wp2_with fail
      go_ret
      refine ⟨_, xs, sr, rfl, Nat.le_refl _, ?_, HE.out, hall, hrd, ?_, hg⟩
      · have := HROW.out
        rw [HE.out, Nat.sub_self] at this
        simpa using this
      · rcases HAT.out with ⟨l, hl, hT⟩ | ⟨hl, hT⟩
        · refine .inl ⟨l, hl, ?_⟩
          rw [hT, HE.out, Nat.sub_self]
          simp [numsF]
        · exact .inr ⟨hl, hT⟩
end Go.Proofs.YtcdnkmefcldfmaaDoor
