/-
  Some operations of a region that draws its order, in whatever order they come: what each yields stays, since each makes new memory alone.
-/
import Derived.Test.YthfcbbdghggefaaGreatQEsR
namespace Go.Um
open Go.RowKit
/-- may these operations be taken together, with the one that waits for all of them? -/
def phiB (ops : Array Oper) (l0 : Array Bool) (M tops : List Nat) : Bool :=
  l0.size == ops.size && decide M.Nodup && (!M.isEmpty) && ordB ops &&
  (M.all fun i => decide (i < ops.size) && !l0.getD i false && ((List.range ops.size).all fun k => !depB ops i k || l0.getD k false || M.contains k) && (tops.contains i || M.any fun j => Nat.blt i j && depB ops j i)) &&
  ((List.range ops.size).all fun i => l0.getD i false || M.contains i || tops.all fun t => M.contains t && depB ops i t)
theorem getD_eq {l : Array Bool} {i : Nat} (h : i < l.size) (b c : Bool) : l.getD i b = l.getD i c := by
  rw [Array.getD_eq_getD_getElem?, Array.getD_eq_getD_getElem?, Array.getElem?_eq_getElem h]
  rfl
theorem getD_same {l : Array Bool} {i : Nat} (h : i < l.size) : (l.setIfInBounds i true).getD i false = true := by
  rw [Array.getD_eq_getD_getElem?, Array.getElem?_setIfInBounds, if_pos rfl, if_pos h]
  rfl
theorem getD_other {l : Array Bool} {i j : Nat} (h : j ≠ i) : (l.setIfInBounds i true).getD j false = l.getD j false := by
  rw [Array.getD_eq_getD_getElem?, Array.getD_eq_getD_getElem?, Array.getElem?_setIfInBounds, if_neg (fun he => h he.symm)]
theorem marked_size (M : List Nat) : ∀ l : Array Bool, (marked l M).size = l.size := by
  induction M with
  | nil => intro l; rfl
  | cons i M ih => intro l; show (marked (l.setIfInBounds i true) M).size = _; rw [ih]; simp
theorem marked_at (M : List Nat) : ∀ (l : Array Bool), (∀ i ∈ M, i < l.size) → ∀ j, (marked l M).getD j false = (l.getD j false || M.contains j) := by
  induction M with
  | nil => intro l _ j; simp [marked]
  | cons i M ih =>
    intro l hM j
    show (marked (l.setIfInBounds i true) M).getD j false = _
    rw [ih _ (fun k hk => by have := hM k (by simp [hk]); simpa using this) j]
    by_cases hj : j = i
    · subst hj
      rw [getD_same (hM j (by simp))]
      simp
    · rw [getD_other hj]
      simp [hj]
theorem ready_iff {ops : Array Oper} {l : Array Bool} {i : Nat} (hs : l.size = ops.size) : i ∈ Region.ready .any ops l ↔ i < ops.size ∧ l.getD i false = false ∧ ∀ k, depB ops i k = true → l.getD k false = true := by
  unfold Region.ready
  rw [List.mem_filter, List.mem_range]
  refine and_congr_right fun hi => ?_
  have he : ops[i]? = some ops[i] := Array.getElem?_eq_getElem hi
  rw [he, getD_eq (by omega) true false, Bool.and_eq_true]
  simp only [Option.map_some, Option.getD_some, Bool.not_eq_true']
  refine and_congr_right fun _ => ?_
  unfold depB
  rw [he]
  dsimp only
  rw [Array.all_eq_true_iff_forall_mem]
  constructor
  · intro h k hk
    obtain ⟨e, hem, hk⟩ := Array.any_eq_true'.1 hk
    rw [Bool.and_eq_true] at hk
    have := h e hem
    rw [hk.2] at this
    rw [← Nat.eq_of_beq_eq_true hk.1]
    simpa using this
  · intro h e hem
    by_cases hb : Region.binds .any e = true
    · rw [hb]
      have := h e.on (Array.any_eq_true'.2 ⟨e, hem, by rw [hb, Nat.beq_refl]; rfl⟩)
      simpa using this
    · simp [hb]
theorem cnt {l l' : Nat → Bool} {i : Nat} (M : List Nat) (hnd : M.Nodup) (hi : i ∈ M) (h : l i = false) (hs : l' i = true) (ho : ∀ j, j ≠ i → l' j = l j) : (M.filter fun j => !l' j).length + 1 = (M.filter fun j => !l j).length := by
  induction M with
  | nil => cases hi
  | cons k M ih =>
    obtain ⟨h1, h2⟩ := List.nodup_cons.1 hnd
    by_cases hk : k = i
    · subst hk
      have he : (M.filter fun j => !l' j) = M.filter fun j => !l j := List.filter_congr fun j hj => by rw [ho j (fun he => h1 (he ▸ hj))]
      rw [List.filter_cons, List.filter_cons, h, hs, he]
      simp
    · have := ih h2 ((List.mem_cons.1 hi).resolve_left fun he => hk he.symm)
      rw [List.filter_cons, List.filter_cons, ho k hk]
      cases l k <;> simp <;> omega
/-- what is known of an operation's value, kept by what makes new memory alone. -/
structure KP where
  holds : Value → World → Prop
  mono : ∀ v w w', holds v w → Below w.heap.size w w' → holds v w'
section
variable {P : Program} {ops : Array Oper} {Q : Exit → Act → World → Prop} {S : World → Prop} {last : Nat}
theorem anyL_phi {l0 : Array Bool} (M tops : List Nat) (f : Nat) (hchk : phiB ops l0 M tops = true) {wq : World} (arr : (Nat → Value) → Act) (Φ : Nat → Value → World → Prop)
    (hS : ∀ w, Below wq.heap.size wq w → S w)
    (mono : ∀ k v w w', Φ k v w → Below w.heap.size w w' → Φ k v w')
    (step : ∀ i ∈ M, ∀ o, ops[i]? = some o → ∀ (val : Nat → Value) w, Below wq.heap.size wq w → (∀ k, M.contains k = true → depB ops i k = true → Φ k (val k) w) →
      o.guard = none ∧ o.wp P (arr val) w (fun a' w' => ∃ v, a' = arr (upd val i v) ∧ Below w.heap.size w w' ∧ Φ i v w') Q)
    (hend : ∀ val w, Below wq.heap.size wq w → (∀ k ∈ M, Φ k (val k) w) → anyL P .any ops Q S last f (marked l0 M) (arr val) w) (val0 : Nat → Value) {w0 : World} (hw0 : Below wq.heap.size wq w0) :
    anyL P .any ops Q S last (f + M.length) l0 (arr val0) w0 := by
  unfold phiB at hchk
  simp only [Bool.and_eq_true, beq_iff_eq, List.all_eq_true, List.mem_range, Bool.or_eq_true, Bool.not_eq_true', decide_eq_true_eq, List.contains_iff_mem, List.any_eq_true] at hchk
  obtain ⟨⟨⟨⟨⟨c1, c0⟩, c2⟩, c3⟩, c4⟩, c5⟩ := hchk
  have down : ∀ l : Array Bool, (∀ i ∈ M, l.getD i false = true → ∀ k ∈ M, depB ops i k = true → l.getD k false = true) → (∀ t ∈ tops, l.getD t false = true) → ∀ n i, i ∈ M → ops.size - i ≤ n → l.getD i false = true := by
    intro l hd ht n
    induction n with
    | zero => intro i hi hn; have := (c4 i hi).1.1.1; omega
    | succ n ih =>
      intro i hi hn
      rcases (c4 i hi).2 with ht' | ⟨j, hj, hij, hdep⟩
      · exact ht i ht'
      · have hlt : i < j := by simpa using hij
        exact hd j hj (ih j hj (by have := (c4 j hj).1.1.1; omega)) i hi hdep
  have main : ∀ (n : Nat) (l : Array Bool) (val : Nat → Value) (w : World), l.size = ops.size → (∀ j, j ∉ M → l.getD j false = l0.getD j false) → (∀ i ∈ M, l.getD i false = true → ∀ k ∈ M, depB ops i k = true → l.getD k false = true) →
      (M.filter fun i => !l.getD i false).length = n → Below wq.heap.size wq w → (∀ k ∈ M, l.getD k false = true → Φ k (val k) w) → anyL P .any ops Q S last (f + n) l (arr val) w := by
    intro n
    induction n with
    | zero =>
      intro l val w hs ho hd hn hJ hall
      have h2 := List.eq_nil_of_length_eq_zero hn
      rw [List.filter_eq_nil_iff] at h2
      have hM : ∀ i ∈ M, l.getD i false = true := fun i hi => by simpa using h2 i hi
      have hl : l = marked l0 M := by
        refine Array.ext (by rw [marked_size]; omega) fun j h1 h3 => ?_
        have h4 := marked_at M l0 (fun i hi => by have := (c4 i hi).1.1.1; omega) j
        have e1 : l.getD j false = l[j] := by rw [Array.getD_eq_getD_getElem?, Array.getElem?_eq_getElem h1]; rfl
        have e2 : (marked l0 M).getD j false = (marked l0 M)[j] := by rw [Array.getD_eq_getD_getElem?, Array.getElem?_eq_getElem h3]; rfl
        rw [← e1, ← e2, h4]
        by_cases hj : j ∈ M
        · rw [hM j hj]; simp [hj]
        · rw [ho j hj]; simp [hj]
      rw [hl]
      exact hend val w hJ fun k hk => hall k hk (hM k hk)
    | succ n ih =>
      intro l val w hs ho hd hn hJ hall
      have hnot : ∃ i ∈ M, l.getD i false = false := by
        refine Classical.byContradiction fun hc => ?_
        have : (M.filter fun i => !l.getD i false) = [] := List.filter_eq_nil_iff.2 fun i hi h => hc ⟨i, hi, by simpa using h⟩
        rw [this] at hn
        cases hn
      have htop : ¬ ∀ t ∈ tops, l.getD t false = true := by
        intro ht
        obtain ⟨i, hi, hif⟩ := hnot
        have := down l hd ht _ i hi (Nat.le_refl _)
        rw [hif] at this
        cases this
      refine ⟨fun hr => ?_, fun i hi => ?_⟩
      · exfalso
        obtain ⟨i, hi, hif⟩ := hnot
        have key : ∀ i, i ∈ M → l.getD i false = true := by
          intro i
          induction i using Nat.strongRecOn with
          | ind i ihi =>
            intro hi
            have hni : i ∉ Region.ready .any ops l := by rw [hr]; simp
            rw [ready_iff hs] at hni
            refine Classical.byContradiction fun hc => hni ⟨(c4 i hi).1.1.1, by simpa using hc, fun k hk => ?_⟩
            have hks : k < i := by
              have h9 := c3
              unfold ordB at h9
              have h8 := List.all_eq_true.1 h9 i (List.mem_range.2 (c4 i hi).1.1.1)
              unfold depB at hk
              cases he : ops[i]? with
              | none => rw [he] at hk; cases hk
              | some o =>
                rw [he] at hk h8
                dsimp only at hk h8
                obtain ⟨e, hem, hk⟩ := Array.any_eq_true'.1 hk
                rw [Bool.and_eq_true] at hk
                rw [Array.all_eq_true_iff_forall_mem] at h8
                have := h8 e hem
                rw [hk.2] at this
                have h7 : e.on < i := by simpa using this
                have h6 := Nat.eq_of_beq_eq_true hk.1
                omega
            have h5 := (c4 i hi).1.2 k (by have := (c4 i hi).1.1.1; omega)
            rcases h5 with (h5 | h5) | h5
            · rw [hk] at h5; cases h5
            · by_cases hkM : k ∈ M
              · exact ihi k hks hkM
              · rw [ho k hkM]; exact h5
            · exact ihi k hks h5
        have := key i hi
        rw [hif] at this
        cases this
      · obtain ⟨hi1, hi2, hi3⟩ := (ready_iff hs).1 hi
        have hiM : i ∈ M := by
          refine Classical.byContradiction fun hc => ?_
          rcases c5 i hi1 with (h5 | h5) | h5
          · rw [ho i hc, h5] at hi2; cases hi2
          · exact hc h5
          · exact htop fun t ht => hi3 t (h5 t ht).2
        have he : ops[i]? = some ops[i] := Array.getElem?_eq_getElem hi1
        obtain ⟨hg, hw⟩ := step i hiM _ he val w hJ fun k hkM hk => hall k (List.contains_iff_mem.1 hkM) (hi3 k hk)
        unfold wpOp
        rw [he]
        dsimp only
        rw [if_pos (by simp [Region.wanted, hg])]
        refine .inl (Oper.wp_mono (fun a' w' ⟨v, ha, hB, hv⟩ => ?_) hw)
        have hJ' : Below wq.heap.size wq w' := hJ.trans (hB.mono hJ.size)
        refine ⟨fun _ => hS _ hJ', ?_⟩
        rw [ha]
        refine ih (l.setIfInBounds i true) (upd val i v) w' (by simp [hs]) (fun j hj => ?_) (fun j hj hlj k hkM hk => ?_) ?_ hJ' fun k hkM hlk => ?_
        · rw [getD_other (i := i) (fun he => hj (by rw [he]; exact hiM))]
          exact ho j hj
        · by_cases hji : j = i
          · subst hji
            by_cases hki : k = j
            · subst hki
              exact getD_same (by omega)
            · rw [getD_other hki]
              exact hi3 k hk
          · rw [getD_other hji] at hlj
            by_cases hki : k = i
            · subst hki
              exact getD_same (by omega)
            · rw [getD_other hki]
              exact hd j hj hlj k hkM hk
        · have := cnt (l := fun j => l.getD j false) (l' := fun j => (l.setIfInBounds i true).getD j false) M c0 hiM hi2 (getD_same (by omega)) fun j hj => getD_other hj
          omega
        · unfold upd
          by_cases hki : k = i
          · subst hki
            rw [Nat.beq_refl]
            exact hv
          · rw [show Nat.beq k i = false from Bool.eq_false_iff.2 fun h => hki (Nat.eq_of_beq_eq_true h)]
            rw [getD_other hki] at hlk
            exact mono _ _ _ _ (hall k hkM hlk) hB
  have h0 : ∀ i ∈ M, l0.getD i false = false := fun i hi => (c4 i hi).1.1.2
  have := main M.length l0 val0 w0 c1 (fun _ _ => rfl) (fun i hi h => by rw [h0 i hi] at h; cases h) (by rw [List.filter_eq_self.2 fun i hi => by rw [h0 i hi]; rfl]) hw0 fun k hk h => by rw [h0 k hk] at h; cases h
  exact this
/-- the slots that the operations fill. -/
def puts (a : Act) (D : List (Nat × Nat)) (val : Nat → Value) : Act := D.foldl (fun a p => a.put (some p.2) (val p.1)) a
theorem put_self (a : Act) (d : Nat) : a.put (some d) (a.tmps.getD d undef) = a := by
  obtain ⟨t, ds⟩ := a
  show Act.mk (t.setIfInBounds d (t.getD d undef)) ds = _
  congr 1
  refine Array.ext (by simp) fun j h1 h2 => ?_
  rw [Array.getElem_setIfInBounds]
  split
  · rename_i h
    subst h
    rw [Array.getD_eq_getD_getElem?, Array.getElem?_eq_getElem h2]
    rfl
  · rfl
theorem puts_self (a : Act) (D : List (Nat × Nat)) (f : Nat → Nat) (h : ∀ p ∈ D, f p.1 = p.2) : puts a D (fun i => a.tmps.getD (f i) undef) = a := by
  unfold puts
  induction D with
  | nil => rfl
  | cons p D ih =>
    rw [List.foldl_cons]
    dsimp only
    rw [h p (by simp), put_self]
    exact ih fun q hq => h q (by simp [hq])
/-- the same, from any activation. -/
theorem anyL_facts {l0 : Array Bool} {a : Act} {F : Nat} {wq w0 : World} (M tops : List Nat) (f : Nat) (D : List (Nat × Nat)) (tab : Nat → KP) (hchk : phiB ops l0 M tops = true) (hF : F = f + M.length) (hD : D.all (fun p => ((D.find? fun q => q.1 == p.1).map Prod.snd).getD 0 == p.2) = true)
    (hw0 : Below wq.heap.size wq w0) (hS : ∀ w, Below wq.heap.size wq w → S w)
    (step : ∀ i ∈ M, ∀ o, ops[i]? = some o → ∀ (val : Nat → Value) w, Below wq.heap.size wq w → (∀ k, M.contains k = true → depB ops i k = true → (tab k).holds (val k) w) →
      o.guard = none ∧ o.wp P (puts a D val) w (fun a' w' => ∃ v, a' = puts a D (upd val i v) ∧ Below w.heap.size w w' ∧ (tab i).holds v w') Q)
    (hend : ∀ val w, Below wq.heap.size wq w → (∀ k ∈ M, (tab k).holds (val k) w) → anyL P .any ops Q S last f (marked l0 M) (puts a D val) w) :
    anyL P .any ops Q S last F l0 a w0 := by
  subst hF
  have h1 := puts_self a D (fun i => ((D.find? fun q => q.1 == i).map Prod.snd).getD 0) fun p hp => by
    have := List.all_eq_true.1 hD p hp
    simpa using this
  have := anyL_phi (P := P) (Q := Q) (S := S) (last := last) M tops f hchk (wq := wq) (puts a D) (fun k v w => (tab k).holds v w) hS (fun k => (tab k).mono) step hend (fun i => a.tmps.getD (((D.find? fun q => q.1 == i).map Prod.snd).getD 0) undef) hw0
  rw [h1] at this
  exact this
end
end Go.Um
