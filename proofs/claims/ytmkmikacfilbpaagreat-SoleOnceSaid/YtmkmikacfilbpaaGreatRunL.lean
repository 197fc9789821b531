/-
  Which places of an input come: a fold over all places, and that it says what it should. Plain Lean.
-/
import Derived.Test.YtmkmikacfilbpaaGreatRunQ
namespace Go.Proofs.YtmkmikacfilbpaaGreat
open Go.Proofs Go.Um Go.RowKit
/-- one place's rules. -/
def stepE (E : Nat → Nat → Bool) (L : Nat → Bool) (q : Nat) : Nat → Bool := fun p => L p || (L q && E q p)
theorem fold_mono {E : Nat → Nat → Bool} : ∀ {P : List Nat} {L : Nat → Bool} {p : Nat}, L p = true → P.foldl (stepE E) L p = true
  | [], _, _, h => h
  | q :: P, L, p, h => fold_mono (P := P) (by unfold stepE; rw [h, Bool.true_or])
theorem fold_same {E : Nat → Nat → Bool} {q : Nat} : ∀ {P : List Nat} {L : Nat → Bool}, (∀ r ∈ P, E r q = false) → P.foldl (stepE E) L q = L q
  | [], _, _ => rfl
  | r :: P, L, h => by
    rw [List.foldl_cons, fold_same (P := P) fun r' hr' => h r' (List.mem_cons_of_mem _ hr')]
    unfold stepE
    rw [h r List.mem_cons_self, Bool.and_false, Bool.or_false]
theorem fold_closed {E : Nat → Nat → Bool} : ∀ {P : List Nat} {L : Nat → Bool}, P.Pairwise (fun q r => E r q = false) → ∀ {q p : Nat}, q ∈ P → P.foldl (stepE E) L q = true → E q p = true → P.foldl (stepE E) L p = true
  | r :: P, L, hp, q, p, hq, h, he => by
    rw [List.pairwise_cons] at hp
    rw [List.foldl_cons] at h ⊢
    rcases List.mem_cons.1 hq with rfl | hq'
    · rw [fold_same hp.1] at h
      refine fold_mono ?_
      have h1 : L q = true := by
        unfold stepE at h
        cases hl : L q with
        | true => rfl
        | false => rw [hl] at h; simp at h
      unfold stepE
      rw [h1, he]
      simp
    · exact fold_closed hp.2 hq' h he
theorem fold_sound {E : Nat → Nat → Bool} {T : Nat → Prop} (hE : ∀ q p, T q → E q p = true → T p) : ∀ {P : List Nat} {L : Nat → Bool}, (∀ p, L p = true → T p) → ∀ p, P.foldl (stepE E) L p = true → T p
  | [], _, h, p, hp => h p hp
  | q :: P, L, h, p, hp => by
    refine fold_sound hE (P := P) (L := stepE E L q) (fun p' hp' => ?_) p hp
    unfold stepE at hp'
    rw [Bool.or_eq_true, Bool.and_eq_true] at hp'
    rcases hp' with h1 | ⟨h1, h2⟩
    · exact h p' h1
    · exact hE q p' (h q h1) h2
/-- the rules from one place to another. -/
def edgeB (d : Desc) (x : List Int) (n q p : Nat) : Bool := d.rules.any fun r => decide (r.src = ((q % n : Nat) : Int)) && fitsB x r.guards (q / n) && decide (p = (q / n + r.eat.toNat) * n + r.dst.toNat)
def rowP1 (n a : Nat) (ord : List Int) : List Nat := ord.reverse.map fun s => a * n + s.toNat
def allP (n k : Nat) (ord : List Int) : List Nat := (List.range k).flatMap fun a => rowP1 n a ord
def liveF (d : Desc) (x : List Int) (n : Nat) (ord : List Int) (k : Nat) : Nat → Bool := (allP n k ord).foldl (stepE (edgeB d x n)) fun p => decide (p = d.start.toNat)
theorem liveF_succ (d : Desc) (x : List Int) (n : Nat) (ord : List Int) (k : Nat) : liveF d x n ord (k + 1) = (rowP1 n k ord).foldl (stepE (edgeB d x n)) (liveF d x n ord k) := by
  unfold liveF allP
  rw [List.range_succ, List.flatMap_append, List.foldl_append]
  simp
/-- what holds of a right description's rules. -/
structure RuleOk (d : Desc) (n : Nat) : Prop where
  st : d.states = n
  start : 0 ≤ d.start ∧ d.start < n
  rule : ∀ r ∈ d.rules, (0 ≤ r.src ∧ r.src < n) ∧ (0 ≤ r.dst ∧ r.dst < n) ∧ 0 ≤ r.eat ∧ r.eat ≤ r.guards.length ∧ (r.eat = 0 → r.guards = []) ∧ r.out.length ≤ 64 ∧ guardsF d.inn r.guards = true ∧ writesF d.inn d.out r.out r.guards = true
  final : ∀ f ∈ d.finals, (0 ≤ f.src ∧ f.src < n) ∧ f.out.length ≤ 64 ∧ guardsF d.inn f.guards = true ∧ writesF d.inn d.out f.out f.guards = true
theorem rule_ok {d : Desc} (h : (whereF d).1 = 0) : ∃ n : Nat, RuleOk d n ∧ 1 ≤ n ∧ n ≤ 1024 ∧ d.rules.length ≤ 4096 ∧ d.finals.length ≤ 4096 ∧ (d.inn = 1 ∨ d.inn = 2) ∧ (d.out = 1 ∨ d.out = 2) := by
  obtain ⟨h1, h2, h3, _⟩ := whereF_ok.1 h
  unfold headF stateF sortF at h1
  simp only [Bool.and_eq_true, decide_eq_true_eq] at h1
  obtain ⟨⟨⟨⟨⟨⟨a1, a2⟩, a3⟩, a4⟩, a5⟩, a6⟩, a7⟩ := h1
  refine ⟨d.states.toNat, ⟨by omega, by omega, fun r hr => ?_, fun f hf => ?_⟩, by omega, by omega, a6, a7, a1, a2⟩
  · have h4 := h2 r hr
    unfold ruleF stateF eatF at h4
    simp only [Bool.and_eq_true, decide_eq_true_eq] at h4
    obtain ⟨⟨⟨⟨b1, b2⟩, b3⟩, b4⟩, b5⟩ := h4
    have h5 : r.out.length ≤ 64 := by
      unfold writesF at b5
      simp only [Bool.and_eq_true, decide_eq_true_eq] at b5
      exact b5.1
    refine ⟨by omega, by omega, ?_, by omega, fun h0 => ?_, h5, b3, b5⟩
    · have := b4.1; split at this <;> omega
    · have := b4.1
      split at this
      · rename_i h6; exact List.eq_nil_of_length_eq_zero h6
      · omega
  · have h4 := h3 f hf
    unfold finalF stateF at h4
    simp only [Bool.and_eq_true, decide_eq_true_eq] at h4
    obtain ⟨⟨b1, b3⟩, b5⟩ := h4
    have h5 : f.out.length ≤ 64 := by
      unfold writesF at b5
      simp only [Bool.and_eq_true, decide_eq_true_eq] at b5
      exact b5.1
    exact ⟨by omega, h5, b3, b5⟩
theorem code_div {n a s : Nat} (hs : s < n) : (a * n + s) / n = a ∧ (a * n + s) % n = s := by
  constructor
  · rw [Nat.mul_comm, Nat.mul_add_div (by omega), Nat.div_eq_of_lt hs, Nat.add_zero]
  · rw [Nat.mul_comm, Nat.mul_add_mod, Nat.mod_eq_of_lt hs]
theorem reach_in {d : Desc} {n : Nat} (h : RuleOk d n) {x : List Int} {a : Nat} {s : Int} (hr : Reach d x a s) : a ≤ x.length ∧ 0 ≤ s ∧ s < n := by
  induction hr with
  | start => exact ⟨Nat.zero_le _, h.start⟩
  | step r _ hr hs hx ih =>
    obtain ⟨_, h2, h3, h4, _⟩ := h.rule r hr
    have := hx.1
    refine ⟨by omega, h2⟩
theorem edgeB_iff {d : Desc} {x : List Int} {n a s p : Nat} (hs : s < n) : edgeB d x n (a * n + s) p = true ↔ ∃ r ∈ d.rules, r.src = (s : Int) ∧ fitsX x r.guards a ∧ p = (a + r.eat.toNat) * n + r.dst.toNat := by
  obtain ⟨h1, h2⟩ := code_div (a := a) hs
  unfold edgeB
  rw [List.any_eq_true, h1, h2]
  simp only [Bool.and_eq_true, decide_eq_true_eq, fitsB_iff, and_assoc]
theorem all_mem {n k : Nat} {ord : List Int} {a s : Nat} (ha : a < k) (hs : (s : Int) ∈ ord) : a * n + s ∈ allP n k ord := by
  unfold allP rowP1
  rw [List.mem_flatMap]
  exact ⟨a, List.mem_range.2 ha, List.mem_map.2 ⟨s, List.mem_reverse.2 hs, by simp⟩⟩
theorem code_inj {n a b s t : Nat} (hs : s < n) (ht : t < n) (h : a * n + s = b * n + t) : a = b ∧ s = t := by
  obtain ⟨h1, h2⟩ := code_div (a := a) hs
  obtain ⟨h3, h4⟩ := code_div (a := b) ht
  rw [h] at h1 h2
  exact ⟨h1.symm.trans h3, h2.symm.trans h4⟩
theorem pairwise_all {d : Desc} {n : Nat} (h : RuleOk d n) {x : List Int} {ord : List Int} (ho : Ord d ord) (hm : ∀ t ∈ ord, ∃ k : Nat, t = k ∧ k < n) (k : Nat) : (allP n k ord).Pairwise fun q r => edgeB d x n r q = false := by
  unfold allP
  rw [List.pairwise_flatMap]
  constructor
  · intro a _
    unfold rowP1
    rw [List.pairwise_map, List.pairwise_reverse]
    rw [List.pairwise_iff_getElem]
    intro i j hi hj hij
    obtain ⟨s, hs, hsn⟩ := hm ord[i] (List.getElem_mem _)
    obtain ⟨t, ht, htn⟩ := hm ord[j] (List.getElem_mem _)
    rw [hs, ht, Int.toNat_natCast, Int.toNat_natCast]
    cases he : edgeB d x n (a * n + s) (a * n + t) with
    | false => rfl
    | true =>
      exfalso
      obtain ⟨r, hr, h1, h2, h3⟩ := (edgeB_iff hsn).1 he
      obtain ⟨_, h5, h6, h7, h8, _⟩ := h.rule r hr
      obtain ⟨e1, e2⟩ := code_inj htn (by omega) h3
      have h9 := h8 (by omega)
      have h10 : ord[i]? = some (s : Int) := by rw [List.getElem?_eq_getElem hi, hs]
      obtain ⟨j', hj', hj2⟩ := ho.eps i s t h10 ⟨r, hr, h9, h1, by omega⟩
      have h11 : ord[j]? = some (t : Int) := by rw [List.getElem?_eq_getElem hj, ht]
      have hj'l := (List.getElem?_eq_some_iff.1 hj2).1
      have := (List.getElem?_inj hj'l ho.nd).1 (hj2.trans h11.symm)
      omega
  · rw [List.pairwise_iff_getElem]
    intro i j hi hj hij q hq r hr
    simp only [List.length_range] at hi hj
    rw [List.getElem_range] at hq hr
    unfold rowP1 at hq hr
    obtain ⟨t, ht, rfl⟩ := List.mem_map.1 hq
    obtain ⟨s, hs, rfl⟩ := List.mem_map.1 hr
    obtain ⟨t, rfl, htn⟩ := hm t (List.mem_reverse.1 ht)
    obtain ⟨s, rfl, hsn⟩ := hm s (List.mem_reverse.1 hs)
    rw [Int.toNat_natCast, Int.toNat_natCast]
    cases he : edgeB d x n (j * n + s) (i * n + t) with
    | false => rfl
    | true =>
      exfalso
      obtain ⟨r, hr, h1, h2, h3⟩ := (edgeB_iff hsn).1 he
      obtain ⟨_, h5, h6, h7, h8, _⟩ := h.rule r hr
      obtain ⟨e1, e2⟩ := code_inj htn (by omega) h3
      omega
/-- the fold says which places come. -/
theorem live_iff {d : Desc} {n : Nat} (h : RuleOk d n) {x : List Int} {ord : List Int} (ho : Ord d ord) (hm : ∀ t ∈ ord, ∃ k : Nat, t = k ∧ k < n) (hall : ∀ s : Nat, s < n → (s : Int) ∈ ord) {a s : Nat} (hs : s < n) :
    liveF d x n ord (x.length + 1) (a * n + s) = true ↔ Reach d x a s := by
  constructor
  · intro hl
    have : ∀ p, liveF d x n ord (x.length + 1) p = true → ∃ a s : Nat, s < n ∧ p = a * n + s ∧ Reach d x a s := by
      refine fold_sound (fun q p hq he => ?_) (fun p hp => ?_)
      · obtain ⟨a, s, hs, rfl, hR⟩ := hq
        obtain ⟨r, hr, h1, h2, rfl⟩ := (edgeB_iff hs).1 he
        obtain ⟨_, h5, _⟩ := h.rule r hr
        refine ⟨a + r.eat.toNat, r.dst.toNat, by omega, rfl, ?_⟩
        have := Reach.step r hR hr h1 h2
        rwa [show ((r.dst.toNat : Nat) : Int) = r.dst by omega]
      · rw [decide_eq_true_eq] at hp
        have := h.start
        refine ⟨0, d.start.toNat, by omega, by omega, ?_⟩
        rw [show ((d.start.toNat : Nat) : Int) = d.start by omega]
        exact Reach.start
    obtain ⟨a', s', h1, h2, h3⟩ := this _ hl
    obtain ⟨rfl, rfl⟩ := code_inj hs h1 h2
    exact h3
  · intro hR
    have key : ∀ {a : Nat} {s : Int}, Reach d x a s → liveF d x n ord (x.length + 1) (a * n + s.toNat) = true := by
      intro a s hR
      induction hR with
      | start =>
        refine fold_mono ?_
        simp
      | @step a s r h1 hr hs' hx ih =>
        obtain ⟨h4, h5, h6⟩ := reach_in h h1
        have hsn : s.toNat < n := by omega
        have hmem : a * n + s.toNat ∈ allP n (x.length + 1) ord := all_mem (by omega) (hall _ hsn)
        refine fold_closed (pairwise_all h ho hm _) hmem ih ((edgeB_iff hsn).2 ⟨r, hr, by omega, hx, rfl⟩)
    have := key hR
    rwa [Int.toNat_natCast] at this
/-- what is written of a place is never too long. -/
theorem run_len {d : Desc} {n : Nat} (h : RuleOk d n) (hn : n ≤ 1024) {ρ : Int → Nat} (hb : ∀ t, ρ t ≤ n + 1) (hρ : ∀ r ∈ d.rules, r.guards = [] → ρ r.dst < ρ r.src) {x : List Int} {a : Nat} {s : Int} {w : List Int} (hr : Run d x a s w) (ha : a ≤ x.length) :
    w.length ≤ 64 * ((x.length - a) * 1026 + ρ s + 1) := by
  induction hr with
  | fin f hf hs hl hx hw =>
    subst hw
    have := (h.final f hf).2.1
    unfold writesV
    rw [List.length_map]
    omega
  | @step a s w u r hr hs hx h' hw ih =>
    obtain ⟨_, _, h3, h4, h5, h6, _⟩ := h.rule r hr
    have hfit := hx.1
    have ih := ih (by omega)
    subst hw
    unfold writesV
    rw [List.length_append, List.length_map]
    have hbd := hb r.dst
    by_cases he : r.eat = 0
    · have h7 := hρ r hr (h5 he)
      rw [hs] at h7
      rw [he] at ih
      simp only [Int.toNat_zero, Nat.add_zero] at ih
      omega
    · have h8 : 1 ≤ r.eat.toNat := by omega
      have h9 : (x.length - (a + r.eat.toNat)) * 1026 + 1026 ≤ (x.length - a) * 1026 := by
        have : x.length - a = (x.length - (a + r.eat.toNat)) + r.eat.toNat := by omega
        rw [this, Nat.add_mul]
        omega
      omega
end Go.Proofs.YtmkmikacfilbpaaGreat
