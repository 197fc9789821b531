/-
  desc: state, guards, writes, rule, head. Conditions: none. Do edges lead back to where they begin? By taking away what nothing leads to any more: what is left is just if there are ways as long as one likes. No program is named here. The edges of rules without guards. No program is named here.
-/
import Derived.Test.YtofcjmjokokajaaGreatQu
import Derived.Test.YtofcjmjokokajaaGreatQn
namespace Go.Proofs.YtofcjmjokokajaaGreat
open Go.RowKit Go.Um Go.Proofs Go.Vm
attribute [local irreducible] Ev arun frun awp RetQ NextQ
set_option maxHeartbeats 4000000
def stateF (n s : Int) : Bool := decide (0 ≤ s) && decide (s < n)
def guardOk (s : Int) (g : List Span) : Bool := !(g.isEmpty || decide (64 < g.length) || !plain g || !(minusF g (domF s)).isEmpty)
def guardsF (s : Int) (l : List (List Span)) : Bool := if 4 < l.length then false else l.all (guardOk s)
def fitsF (t : Term) (inn out : Int) (gs : List (List Span)) : Bool := rightF t inn out gs.length && fitsG t (domF out) gs
def writesF (inn out : Int) (ts : List Term) (gs : List (List Span)) : Bool := decide (ts.length ≤ 64) && ts.all fun t => fitsF t inn out gs
def eatF (n : Nat) (e : Int) : Bool := decide ((if n = 0 then (0 : Int) else 1) ≤ e) && decide (e ≤ n)
def ruleF (d : Desc) (r : Rule) : Bool := stateF d.states r.src && stateF d.states r.dst && guardsF d.inn r.guards && eatF r.guards.length r.eat && writesF d.inn d.out r.out r.guards
def headF (d : Desc) : Bool := sortF d.inn && sortF d.out && decide (1 ≤ d.states) && decide (d.states ≤ 1024) && stateF d.states d.start && decide (d.rules.length ≤ 4096) && decide (d.finals.length ≤ 4096)
theorem guardOk_iff {s : Int} {g : List Span} : guardOk s g = true ↔ g ≠ [] ∧ g.length ≤ 64 ∧ plain g = true ∧ minusF g (domF s) = [] := by
  unfold guardOk
  cases hg : plain g <;> simp [and_assoc, List.isEmpty_iff]
theorem domF_sym {s z : Int} (h : inSet (domF s) z) : 0 ≤ z ∧ z ≤ 1114111 := by
  unfold domF at h
  split at h
  · simp [inSet, mem] at h; omega
  · split at h
    · simp [inSet, mem] at h; omega
    · exact absurd h.2 mem_nil
theorem guardsF_iff {s : Int} {gs : List (List Span)} : guardsF s gs = true ↔ gs.length ≤ 4 ∧ ∀ g ∈ gs, guardOk s g = true := by
  unfold guardsF
  split
  · constructor
    · intro h; cases h
    · rintro ⟨h, _⟩; omega
  · rw [List.all_eq_true]
    constructor
    · intro h; exact ⟨by omega, h⟩
    · exact fun h => h.2
theorem guardsF_good {s : Int} {gs : List (List Span)} (h : guardsF s gs = true) : goodG gs ∧ ∀ g ∈ gs, g.length ≤ 268435456 := by
  obtain ⟨h1, h2⟩ := guardsF_iff.1 h
  refine ⟨⟨h1, fun g hg => ?_⟩, fun g hg => ?_⟩
  · obtain ⟨g1, g2, g3, g4⟩ := guardOk_iff.1 (h2 g hg)
    refine ⟨g3, fun z hz => domF_sym (minusF_nil.1 g4 z ((inSet_plain g3).2 hz)), g1⟩
  · have := (guardOk_iff.1 (h2 g hg)).2.1
    omega
theorem state_v (d : Desc) (s : Int) : VPure Tryz.prog 93 [.agg (descR.cells d), .int .i64 s] (.bool (stateF d.states s)) := by
  refine a_pure (n0 := 0) (hN := Tryz.ntmps93) (hf := Tryz.func93) ?_
  refine wk2 (fun h => ⟨?_⟩) (fun h => ⟨?_⟩)
  all_goals exact ret_tmp (.inr rfl) rfl rfl (pk_bool (by unfold stateF; simp [*]))
theorem guards_v (s : Int) (l : List (List Span)) : VPure Tryz.prog 94 [.int .i64 s, spansR.L l] (.bool (guardsF s l)) := by
  have hd := domain_v s
  have hdl : (domF s).length ≤ 2 := by unfold domF; split <;> (try split) <;> simp
  refine a_pure (n0 := 0) (hN := Tryz.ntmps94) (hf := Tryz.func94) ?_
  refine wk2 (fun h => ⟨?_⟩) (fun h => ⟨?_⟩)
  · exact ret_tmp (.inr rfl) rfl rfl (pk_bool (by unfold guardsF; rw [if_pos (by omega)]))
  refine ar_pure hd ?_
  refine wk ⟨?_⟩
  have hF : guardsF s l = l.all (guardOk s) := by unfold guardsF; rw [if_neg (by omega)]
  rw [hF]
  refine a_loop (σ := Nat) 0 [5, 13, 14] (fun k => [(15, V.int .i64 (k : Int))]) (fun _ => []) (fun k => k ≤ l.length ∧ (l.drop k).all (guardOk s) = l.all (guardOk s)) (fun k => l.length - k) 0 ⟨Nat.zero_le _, rfl⟩ ?_
  rintro k ⟨hk, ho⟩
  obtain hx | ⟨g, hx, hlt⟩ := range_cases hk
  · subst k
    rw [List.drop_length] at ho
    refine wk ⟨?_⟩
    exact ret_tmp (.inr rfl) rfl rfl (pk_bool ho)
  · rw [drop_at hx, List.all_cons] at ho
    have hc := check_v g
    repeat' first | (show arun _ _ _ _ _ (⟨some _, _, _, _, _, none⟩ :: _) _ _ _; first | refine ar_s ?_ | refine ar_app_n (fun h => ?_) (fun h => ?_) | refine ar_app_nz (fun h => ?_) (fun h => ?_)) | (show arun _ _ _ _ _ (⟨_, _, _, _, _, some _⟩ :: _) _ _ _; first | refine ar_on ?_ | refine ar_off ?_ | refine ar_off2 ?_ | refine ar_split_t ?_ | refine ar_split_f ?_ | refine ar_split (fun h => ?_) (fun h => ?_)) | (show arun _ _ _ _ _ (⟨none, _, _, _, _, none⟩ :: _) _ _ _; refine ar_n ?_) | (show frun _ _ _ _ _ _ (⟨some _, _, _, _, _, none⟩ :: _) _ _ _; refine fr_s ?_) | (show frun _ _ _ _ _ _ (⟨none, _, _, _, _, none⟩ :: _) _ _ _; refine fr_n ?_) | (show grun _ _ _ _ _ _ _ (⟨some _, _, _, _, _, none⟩ :: _) _ _ _; refine gr_s ?_) | (show grun _ _ _ _ _ _ _ (⟨none, _, _, _, _, none⟩ :: _) _ _ _; refine gr_n ?_) | refine gr_nil ?_ | refine fr_nil ?_ | refine ar_nil ?_ | refine a_seq ?_ | refine a_block ?_ | refine a_region ?_ | refine a_drawn ?_ | refine a_skip ?_ | refine a_exit ?_ | refine a_ret ?_ | (show awp _ _ (.cond _ _ _) _ _ _ _; first | refine a_yes rfl ?_ | refine a_no rfl ?_ | refine a_dec_t ?_ | refine a_dec_f ?_ | refine a_dec rfl (fun h => ?_) (fun h => ?_))
    · exact ret_tmp (.inr rfl) rfl rfl (pk_bool (by
        rw [← ho, show g = [] from List.length_eq_zero_iff.1 (by omega)]
        rfl))
    · exact ret_tmp (.inr rfl) rfl rfl (pk_bool (by
        rw [← ho]
        unfold guardOk
        rw [decide_eq_true (show 64 < g.length by omega)]
        simp))
    · have hwv := within_v g (domF s) (by omega) (by omega)
      have hgo : guardOk s g = (plain g && (minusF g (domF s)).isEmpty) := by
        unfold guardOk
        rw [decide_eq_false (show ¬ 64 < g.length by omega)]
        have : g.isEmpty = false := by cases g with | nil => simp at * | cons _ _ => rfl
        rw [this]
        simp
      rw [hgo] at ho
      clear hgo
      generalize (minusF g (domF s)).isEmpty = b2 at hwv ho
      generalize plain g = b1 at hc ho
      refine ar_pure hc ?_
      cases b1 with
      | false =>
        refine wk ⟨?_⟩
        exact ret_tmp (.inr rfl) rfl rfl (pk_bool ho)
      | true =>
        refine wk ⟨?_⟩
        refine ar_pure hwv ?_
        cases b2 with
        | false =>
          refine wk ⟨?_⟩
          exact ret_tmp (.inr rfl) rfl rfl (pk_bool ho)
        | true =>
          refine wk ⟨?_⟩
          refine a_next (k + 1) ⟨hlt, ho⟩ (by omega) ?_
          exact wz
theorem writes_v (d : Desc) (ts : List Term) (gs : List (List Span)) (hg : goodG gs) (hgl : ∀ g ∈ gs, g.length ≤ 268435456) : VPure Tryz.prog 95 [.agg (descR.cells d), termR.L ts, spansR.L gs] (.bool (writesF d.inn d.out ts gs)) := by
  refine a_pure (n0 := 0) (hN := Tryz.ntmps95) (hf := Tryz.func95) ?_
  refine wk2 (fun h => ⟨?_⟩) (fun h => ⟨?_⟩)
  · exact ret_tmp (.inr rfl) rfl rfl (pk_bool (by unfold writesF; rw [decide_eq_false (by omega)]; rfl))
  have hF : writesF d.inn d.out ts gs = ts.all fun t => fitsF t d.inn d.out gs := by unfold writesF; rw [decide_eq_true (by omega)]; rfl
  rw [hF]
  refine a_loop (σ := Nat) 0 [2, 3, 12, 13] (fun k => [(14, V.int .i64 (k : Int))]) (fun _ => []) (fun k => k ≤ ts.length ∧ ((ts.drop k).all fun t => fitsF t d.inn d.out gs) = ts.all fun t => fitsF t d.inn d.out gs) (fun k => ts.length - k) 0 ⟨Nat.zero_le _, rfl⟩ ?_
  rintro k ⟨hk, ho⟩
  obtain hx | ⟨t, hx, hlt⟩ := range_cases hk
  · subst k
    rw [List.drop_length] at ho
    refine wk ⟨?_⟩
    exact ret_tmp (.inr rfl) rfl rfl (pk_bool ho)
  · rw [drop_at hx, List.all_cons] at ho
    have hv := fits_v t d.inn d.out gs hg hgl
    have hb : (rightF t d.inn d.out gs.length && fitsG t (domF d.out) gs) = fitsF t d.inn d.out gs := rfl
    rw [hb] at hv
    generalize fitsF t d.inn d.out gs = b at hv ho
    refine wk ⟨?_⟩
    refine ar_pure hv ?_
    cases b with
    | false =>
      refine wk ⟨?_⟩
      exact ret_tmp (.inr rfl) rfl rfl (pk_bool ho)
    | true =>
      refine wk ⟨?_⟩
      refine a_next (k + 1) ⟨hlt, ho⟩ (by omega) ?_
      exact wz
theorem eatF_eq {n : Nat} {e : Int} : eatF n e = (decide (min (n : Int) 1 ≤ e) && decide (e ≤ n)) := by
  unfold eatF
  congr 2
  split <;> rw [eq_iff_iff] <;> omega
theorem rule_v (d : Desc) (r : Rule) : VPure Tryz.prog 92 [.agg (descR.cells d), .agg (ruleR.cells r)] (.bool (ruleF d r)) := by
  have h1 := state_v d r.src
  have h2 := state_v d r.dst
  have h3 := guards_v d.inn r.guards
  have hF : ruleF d r = (stateF d.states r.src && stateF d.states r.dst && guardsF d.inn r.guards && eatF r.guards.length r.eat && writesF d.inn d.out r.out r.guards) := rfl
  rw [hF]
  clear hF
  generalize stateF d.states r.src = b1 at h1 ⊢
  generalize stateF d.states r.dst = b2 at h2 ⊢
  refine a_pure (n0 := 0) (hN := Tryz.ntmps92) (hf := Tryz.func92) ?_
  refine wk ⟨?_⟩
  refine ar_pure h1 ?_
  cases b1 with
  | false =>
    refine wk ⟨?_⟩
    exact ret_tmp (.inr rfl) rfl rfl (pk_bool rfl)
  | true =>
    refine wk ⟨?_⟩
    refine ar_pure h2 ?_
    cases b2 with
    | false =>
      refine wk ⟨?_⟩
      exact ret_tmp (.inr rfl) rfl rfl (pk_bool rfl)
    | true =>
      refine wk ⟨?_⟩
      refine ar_pure h3 ?_
      cases hg : guardsF d.inn r.guards with
      | false =>
        refine wk ⟨?_⟩
        exact ret_tmp (.inr rfl) rfl rfl (pk_bool rfl)
      | true =>
        obtain ⟨g1, g2⟩ := guardsF_good hg
        have h4 := writes_v d r.out r.guards g1 g2
        repeat' first | (show arun _ _ _ _ _ (⟨some _, _, _, _, _, none⟩ :: _) _ _ _; first | refine ar_s ?_ | refine ar_app_n (fun h => ?_) (fun h => ?_) | refine ar_app_nz (fun h => ?_) (fun h => ?_)) | (show arun _ _ _ _ _ (⟨_, _, _, _, _, some _⟩ :: _) _ _ _; first | refine ar_on ?_ | refine ar_off ?_ | refine ar_off2 ?_ | refine ar_split_t ?_ | refine ar_split_f ?_ | refine ar_split (fun h => ?_) (fun h => ?_)) | (show arun _ _ _ _ _ (⟨none, _, _, _, _, none⟩ :: _) _ _ _; refine ar_n ?_) | (show frun _ _ _ _ _ _ (⟨some _, _, _, _, _, none⟩ :: _) _ _ _; refine fr_s ?_) | (show frun _ _ _ _ _ _ (⟨none, _, _, _, _, none⟩ :: _) _ _ _; refine fr_n ?_) | (show grun _ _ _ _ _ _ _ (⟨some _, _, _, _, _, none⟩ :: _) _ _ _; refine gr_s ?_) | (show grun _ _ _ _ _ _ _ (⟨none, _, _, _, _, none⟩ :: _) _ _ _; refine gr_n ?_) | refine gr_nil ?_ | refine fr_nil ?_ | refine ar_nil ?_ | refine a_seq ?_ | refine a_block ?_ | refine a_region ?_ | refine a_drawn ?_ | refine a_skip ?_ | refine a_exit ?_ | refine a_ret ?_ | (show awp _ _ (.cond _ _ _) _ _ _ _; first | refine a_yes rfl ?_ | refine a_no rfl ?_ | refine a_dec_t ?_ | refine a_dec_f ?_ | refine a_dec rfl (fun h => ?_) (fun h => ?_))
        · exact ret_tmp (.inr rfl) rfl rfl (pk_bool (by
            rw [eatF_eq, decide_eq_false (p := min (r.guards.length : Int) 1 ≤ r.eat) (by omega)]
            simp))
        · exact ret_tmp (.inr rfl) rfl rfl (pk_bool (by
            rw [eatF_eq, decide_eq_false (p := r.eat ≤ (r.guards.length : Int)) (by omega)]
            simp))
        · refine ar_pure h4 ?_
          refine wk ⟨?_⟩
          exact ret_tmp (.inr rfl) rfl rfl (pk_bool (by
            rw [eatF_eq, decide_eq_true (p := min (r.guards.length : Int) 1 ≤ r.eat) (by omega), decide_eq_true (p := r.eat ≤ (r.guards.length : Int)) (by omega)]
            simp))
theorem head_v (d : Desc) : VPure Tryz.prog 91 [.agg (descR.cells d)] (.bool (headF d)) := by
  have h1 := domain_v d.inn
  have h2 := domain_v d.out
  have h3 := state_v d d.start
  have s1 : sortF d.inn = decide (0 < (domF d.inn).length) := by
    have := domF_nil (s := d.inn)
    cases h : sortF d.inn
    · rw [decide_eq_false (by rw [this.2 h]; omega)]
    · rw [decide_eq_true (by have := mt this.1 (by rw [h]; simp); omega)]
  have s2 : sortF d.out = decide (0 < (domF d.out).length) := by
    have := domF_nil (s := d.out)
    cases h : sortF d.out
    · rw [decide_eq_false (by rw [this.2 h]; omega)]
    · rw [decide_eq_true (by have := mt this.1 (by rw [h]; simp); omega)]
  unfold headF
  rw [s1, s2]
  clear s1 s2
  generalize domF d.inn = i1 at h1 ⊢
  generalize domF d.out = i2 at h2 ⊢
  generalize stateF d.states d.start = b at h3 ⊢
  refine a_pure (n0 := 0) (hN := Tryz.ntmps91) (hf := Tryz.func91) ?_
  refine wk ⟨?_⟩
  refine ar_pure h1 ?_
  refine wk2 (fun h => ⟨?_⟩) (fun h => ⟨?_⟩)
  · refine ar_pure h2 ?_
    repeat' first | (show arun _ _ _ _ _ (⟨some _, _, _, _, _, none⟩ :: _) _ _ _; first | refine ar_s ?_ | refine ar_app_n (fun h => ?_) (fun h => ?_) | refine ar_app_nz (fun h => ?_) (fun h => ?_)) | (show arun _ _ _ _ _ (⟨_, _, _, _, _, some _⟩ :: _) _ _ _; first | refine ar_on ?_ | refine ar_off ?_ | refine ar_off2 ?_ | refine ar_split_t ?_ | refine ar_split_f ?_ | refine ar_split (fun h => ?_) (fun h => ?_)) | (show arun _ _ _ _ _ (⟨none, _, _, _, _, none⟩ :: _) _ _ _; refine ar_n ?_) | (show frun _ _ _ _ _ _ (⟨some _, _, _, _, _, none⟩ :: _) _ _ _; refine fr_s ?_) | (show frun _ _ _ _ _ _ (⟨none, _, _, _, _, none⟩ :: _) _ _ _; refine fr_n ?_) | (show grun _ _ _ _ _ _ _ (⟨some _, _, _, _, _, none⟩ :: _) _ _ _; refine gr_s ?_) | (show grun _ _ _ _ _ _ _ (⟨none, _, _, _, _, none⟩ :: _) _ _ _; refine gr_n ?_) | refine gr_nil ?_ | refine fr_nil ?_ | refine ar_nil ?_ | refine a_seq ?_ | refine a_block ?_ | refine a_region ?_ | refine a_drawn ?_ | refine a_skip ?_ | refine a_exit ?_ | refine a_ret ?_ | (show awp _ _ (.cond _ _ _) _ _ _ _; first | refine a_yes rfl ?_ | refine a_no rfl ?_ | refine a_dec_t ?_ | refine a_dec_f ?_ | refine a_dec rfl (fun h => ?_) (fun h => ?_))
    · refine ar_pure h3 ?_
      cases b
      · refine wk ⟨?_⟩
        exact ret_tmp (.inr rfl) rfl rfl (pk_bool (by simp))
      · refine wk2 (fun h => ⟨?_⟩) (fun h => ⟨?_⟩)
        · exact ret_tmp (.inr rfl) rfl rfl (pk_bool (by
            rw [decide_eq_true (p := 0 < i1.length) (by omega), decide_eq_true (p := 0 < i2.length) (by omega), decide_eq_true (p := 1 ≤ d.states) (by omega), decide_eq_true (p := d.states ≤ 1024) (by omega), decide_eq_true (p := d.rules.length ≤ 4096) (by omega)]
            simp only [Bool.true_and]
            exact decide_eq_decide.2 (by omega)))
        · exact ret_tmp (.inr rfl) rfl rfl (pk_bool (by
            rw [decide_eq_false (p := d.rules.length ≤ 4096) (by omega)]
            simp))
    · exact ret_tmp (.inr rfl) rfl rfl (pk_bool (by rw [decide_eq_false (p := d.states ≤ 1024) (by omega)]; simp))
    · exact ret_tmp (.inr rfl) rfl rfl (pk_bool (by rw [decide_eq_false (p := 1 ≤ d.states) (by omega)]; simp))
    · exact ret_tmp (.inr rfl) rfl rfl (pk_bool (by rw [decide_eq_false (p := 0 < i2.length) (by omega)]; simp))
  · exact ret_tmp (.inr rfl) rfl rfl (pk_bool (by rw [decide_eq_false (p := 0 < i1.length) (by omega)]; simp))
end Go.Proofs.YtofcjmjokokajaaGreat
namespace Go.Um
abbrev Edges := List (Int × Int)
def walkE (E : Edges) : Nat → Int → Prop
  | 0, _ => True
  | k + 1, t => ∃ s, (s, t) ∈ E ∧ walkE E k s
def cycP (E : Edges) (n : Nat) : Prop := ∃ t, walkE E (n + 1) t
def toF (E : Edges) (s : Int) : List Int := (E.filter fun e => e.1 == s).map Prod.snd
def inF (E : Edges) (P : List Int) (t : Int) : Nat := (E.filter fun e => e.2 == t && !P.contains e.1).length
def takeT (st : (Int → Int) × List Int) (t : Int) : (Int → Int) × List Int := (fun x => if x = t then st.1 t - 1 else st.1 x, if st.1 t - 1 = 0 then st.2 ++ [t] else st.2)
def kahnGo (E : Edges) : Nat → (Int → Int) → List Int → Nat → Nat
  | 0, _, _, d => d
  | _ + 1, _, [], d => d
  | f + 1, inn, s :: todo, d => kahnGo E f ((toF E s).foldl takeT (inn, todo)).1 ((toF E s).foldl takeT (inn, todo)).2 (d + 1)
theorem inF_pos {E : Edges} {P : List Int} {t : Int} (h : 0 < inF E P t) : ∃ s, (s, t) ∈ E ∧ s ∉ P := by
  unfold inF at h
  obtain ⟨e, he⟩ := List.exists_mem_of_length_pos h
  rw [List.mem_filter] at he
  obtain ⟨h1, h2⟩ := he
  simp only [Bool.and_eq_true, beq_iff_eq, Bool.not_eq_true', List.contains_eq_mem, decide_eq_false_iff_not] at h2
  obtain ⟨a, b⟩ := e
  obtain ⟨rfl, h3⟩ := h2
  exact ⟨a, h1, h3⟩
theorem inF_zero {E : Edges} {P : List Int} {t : Int} (h : inF E P t = 0) {s : Int} (he : (s, t) ∈ E) : s ∈ P := by
  unfold inF at h
  rw [List.length_eq_zero_iff, List.filter_eq_nil_iff] at h
  have := h _ he
  simpa using this
theorem inF_snoc {E : Edges} {P : List Int} {s t : Int} (hs : s ∉ P) : inF E P t = inF E (P ++ [s]) t + (toF E s).count t := by
  unfold inF toF
  induction E with
  | nil => rfl
  | cons e r ih =>
    obtain ⟨a, b⟩ := e
    simp only [List.filter_cons]
    have ih' : (r.filter fun e => e.2 == t && !decide (e.1 ∈ P)).length = (r.filter fun e => e.2 == t && (!decide (e.1 ∈ P) && !decide (e.1 = s))).length + ((r.filter fun e => e.1 == s).map Prod.snd).count t := by simpa using ih
    clear ih
    by_cases h1 : b = t
    · by_cases h2 : a = s
      · subst h1 h2
        simp [hs]
        omega
      · by_cases h3 : a ∈ P
        · simpa [h1, h2, h3] using ih'
        · simp [h1, h2, h3]; omega
    · by_cases h2 : a = s
      · simpa [h1, h2] using ih'
      · simpa [h1, h2] using ih'
theorem takeT_fold {ts : List Int} : ∀ {inn : Int → Int} {todo : List Int}, (∀ t, (ts.count t : Int) ≤ inn t) →
    (∀ t, (ts.foldl takeT (inn, todo)).1 t = inn t - ts.count t) ∧ ∃ more, (ts.foldl takeT (inn, todo)).2 = todo ++ more ∧ more.Nodup ∧ ∀ t, t ∈ more ↔ t ∈ ts ∧ inn t - ts.count t = 0 := by
  induction ts with
  | nil => intro inn todo _; exact ⟨fun t => by simp, [], by simp, by simp, by simp⟩
  | cons a r ih =>
    intro inn todo h
    have h' : ∀ t, (r.count t : Int) ≤ (if t = a then inn a - 1 else inn t) := by
      intro t
      have := h t
      rw [List.count_cons] at this
      by_cases ht : t = a
      · subst ht; simp at this ⊢; omega
      · have : ¬ a = t := fun e => ht e.symm
        have := h t
        rw [List.count_cons] at this
        simp [ht] at this ⊢
        omega
    obtain ⟨h1, more, h2, h3, h4⟩ := ih (inn := fun x => if x = a then inn a - 1 else inn x) (todo := if inn a - 1 = 0 then todo ++ [a] else todo) h'
    have hc : ∀ t, ((a :: r).count t : Int) = r.count t + if t = a then 1 else 0 := by
      intro t
      rw [List.count_cons]
      by_cases ht : t = a
      · subst ht; simp
      · have : ¬ a = t := fun e => ht e.symm
        simp [ht, this]
    refine ⟨fun t => ?_, ?_⟩
    · show (r.foldl takeT (takeT (inn, todo) a)).1 t = _
      rw [takeT, h1, hc]
      by_cases ht : t = a
      · subst ht; simp; omega
      · simp [ht]
    · show ∃ more, (r.foldl takeT (takeT (inn, todo) a)).2 = todo ++ more ∧ _
      rw [takeT, h2]
      by_cases hz : inn a - 1 = 0
      · have hra : r.count a = 0 := by have := h a; rw [hc] at this; simp at this; omega
        have har : a ∉ r := by rw [List.count_eq_zero] at hra; exact hra
        refine ⟨a :: more, by simp [hz], ?_, fun t => ?_⟩
        · rw [List.nodup_cons]
          exact ⟨fun hm => har ((h4 a).1 hm).1, h3⟩
        · rw [List.mem_cons, h4, hc, List.mem_cons]
          by_cases ht : t = a
          · subst ht; simp [hra]; omega
          · simp [ht]
      · refine ⟨more, by simp [hz], h3, fun t => ?_⟩
        rw [h4, hc, List.mem_cons]
        by_cases ht : t = a
        · subst ht
          simp only [if_true]
          constructor
          · rintro ⟨h5, h6⟩; exact ⟨by simp, by omega⟩
          · rintro ⟨_, h6⟩
            have : 0 < r.count t := by
              by_cases h7 : r.count t = 0
              · rw [h7] at h6; omega
              · omega
            exact ⟨List.count_pos_iff.1 this, by omega⟩
        · simp [ht]
structure KahnI (E : Edges) (n : Nat) (P : List Int) (inn : Int → Int) (todo : List Int) : Prop where
  cnt : ∀ t : Int, inn t = inF E P t
  nd : (P ++ todo).Nodup
  rng : ∀ t ∈ P ++ todo, 0 ≤ t ∧ t < n
  zero : ∀ t : Int, 0 ≤ t → t < n → (t ∈ P ++ todo ↔ inn t = 0)
  ord : ∀ (i : Nat) (t s : Int), P[i]? = some t → (s, t) ∈ E → ∃ j : Nat, j < i ∧ P[j]? = some s
theorem KahnI.step {E : Edges} {n : Nat} {P : List Int} {inn : Int → Int} {s : Int} {todo : List Int} (h : KahnI E n P inn (s :: todo)) (hE : ∀ e ∈ E, 0 ≤ e.2 ∧ e.2 < n) :
    KahnI E n (P ++ [s]) ((toF E s).foldl takeT (inn, todo)).1 ((toF E s).foldl takeT (inn, todo)).2 := by
  have hsP : s ∉ P := fun hs => by
    have := (List.nodup_append.1 h.nd).2.2 s hs s (List.mem_cons_self ..)
    exact this rfl
  have hle : ∀ t, ((toF E s).count t : Int) ≤ inn t := fun t => by
    rw [h.cnt, inF_snoc hsP]
    omega
  obtain ⟨h1, more, h2, h3, h4⟩ := takeT_fold (todo := todo) hle
  have hin : ∀ t, ((toF E s).foldl takeT (inn, todo)).1 t = inF E (P ++ [s]) t := fun t => by
    rw [h1, h.cnt, inF_snoc hsP]; omega
  have hmo : ∀ t ∈ more, 0 ≤ t ∧ t < n := fun t ht => by
    have h5 := ((h4 t).1 ht).1
    unfold toF at h5
    obtain ⟨e, he, rfl⟩ := List.mem_map.1 h5
    exact hE e (List.mem_filter.1 he).1
  have hmn : ∀ t ∈ more, inn t ≠ 0 := fun t ht h0 => by
    have h5 := (h4 t).1 ht
    have h6 : 0 < (toF E s).count t := List.count_pos_iff.2 h5.1
    omega
  have hcat : P ++ [s] ++ (todo ++ more) = (P ++ s :: todo) ++ more := by simp
  refine ⟨hin, ?_, ?_, ?_, ?_⟩
  · rw [h2, hcat, List.nodup_append]
    refine ⟨h.nd, h3, fun a ha b hb hab => ?_⟩
    subst hab
    exact hmn a hb ((h.zero a (hmo a hb).1 (hmo a hb).2).1 ha)
  · rw [h2, hcat]
    intro t ht
    rcases List.mem_append.1 ht with ht | ht
    · exact h.rng t ht
    · exact hmo t ht
  · intro t t0 tn
    rw [h2, hcat, List.mem_append, h.zero t t0 tn, h4, h1]
    constructor
    · rintro (h5 | h5)
      · have := hle t; omega
      · exact h5.2
    · intro h5
      by_cases h6 : inn t = 0
      · exact .inl h6
      · right
        refine ⟨?_, h5⟩
        have : 0 < (toF E s).count t := by omega
        exact List.count_pos_iff.1 this
  · intro i t u hi he
    rw [List.getElem?_append] at hi
    split at hi
    · obtain ⟨j, hj, hju⟩ := h.ord i t u hi he
      exact ⟨j, hj, by rw [List.getElem?_append_left (by omega)]; exact hju⟩
    · rename_i hlt
      have hi0 : i - P.length = 0 := by
        by_cases h0 : i - P.length = 0
        · exact h0
        · rw [List.getElem?_eq_none (by simp; omega)] at hi; cases hi
      rw [hi0] at hi
      simp at hi
      subst hi
      have hz : inn s = 0 := (h.zero s (h.rng s (by simp)).1 (h.rng s (by simp)).2).1 (by simp)
      rw [h.cnt] at hz
      have hu : u ∈ P := inF_zero (E := E) (P := P) (t := s) (by omega) he
      obtain ⟨j, hj, hju⟩ := List.mem_iff_getElem.1 hu
      exact ⟨j, by omega, by rw [List.getElem?_append_left hj, List.getElem?_eq_getElem hj, hju]⟩
theorem nodup_le {n : Nat} {l : List Int} (h : l.Nodup) (hr : ∀ t ∈ l, 0 ≤ t ∧ t < n) : l.length ≤ n := by
  have h1 : (l.map Int.toNat).Nodup := by
    rw [List.Nodup, List.pairwise_map]
    refine List.Pairwise.imp_of_mem (R := fun a b => a ≠ b) ?_ h
    intro a b ha hb hab
    have := hr a ha
    have := hr b hb
    omega
  have h2 := List.Nodup.length_le_of_subset h1 (l₂ := List.range n) (fun a ha => by
    obtain ⟨b, hb, rfl⟩ := List.mem_map.1 ha
    have := hr b hb
    rw [List.mem_range]; omega)
  simpa using h2
theorem nodup_all {n : Nat} {l : List Int} (h : l.Nodup) (hr : ∀ t ∈ l, 0 ≤ t ∧ t < n) (hl : n ≤ l.length) {t : Int} (ht : 0 ≤ t ∧ t < n) : t ∈ l := by
  by_cases hm : t ∈ l
  · exact hm
  · have := nodup_le (n := n) (l := t :: l) (List.nodup_cons.2 ⟨hm, h⟩) (fun x hx => by
      rcases List.mem_cons.1 hx with rfl | hx
      · exact ht
      · exact hr x hx)
    simp at this
    omega
theorem KahnI.done {E : Edges} {n : Nat} {P : List Int} {inn : Int → Int} (h : KahnI E n P inn []) (hE : ∀ e ∈ E, (0 ≤ e.1 ∧ e.1 < n) ∧ 0 ≤ e.2 ∧ e.2 < n) : P.length < n ↔ cycP E n := by
  have hnd : P.Nodup := by simpa using h.nd
  have hrng : ∀ t ∈ P, 0 ≤ t ∧ t < n := fun t ht => h.rng t (by simpa using ht)
  constructor
  · intro hlt
    have hex : ∃ t : Int, (0 ≤ t ∧ t < n) ∧ t ∉ P := by
      by_cases hall : ∀ t : Int, 0 ≤ t ∧ t < n → t ∈ P
      · exfalso
        have h1 : ((List.range n).map fun k : Nat => (k : Int)).Nodup := by
          rw [List.Nodup, List.pairwise_map]
          exact List.nodup_range.imp fun hab e => hab (by omega)
        have h2 := List.Nodup.length_le_of_subset h1 (l₂ := P) (fun a ha => by
          obtain ⟨b, hb, rfl⟩ := List.mem_map.1 ha
          rw [List.mem_range] at hb
          exact hall _ ⟨by omega, by omega⟩)
        simp at h2
        omega
      · simp only [Classical.not_forall] at hall
        obtain ⟨t, h1, h2⟩ := hall
        exact ⟨t, h1, h2⟩
    have hback : ∀ k (t : Int), (0 ≤ t ∧ t < n) → t ∉ P → walkE E k t := by
      intro k
      induction k with
      | zero => intro t _ _; trivial
      | succ k ih =>
        intro t ht htP
        have h1 : inn t ≠ 0 := fun h0 => htP (by simpa using (h.zero t ht.1 ht.2).2 h0)
        obtain ⟨s, hs, hsP⟩ := inF_pos (E := E) (P := P) (t := t) (by have := h.cnt t; omega)
        exact ⟨s, hs, ih s (hE _ hs).1 hsP⟩
    obtain ⟨t, ht, htP⟩ := hex
    exact ⟨t, hback (n + 1) t ht htP⟩
  · rintro ⟨t, hw⟩
    by_cases hlt : P.length < n
    · exact hlt
    · exfalso
      have hall : ∀ x : Int, 0 ≤ x ∧ x < n → x ∈ P := fun x hx => nodup_all hnd hrng (by omega) hx
      have hrank : ∀ k (t : Int), walkE E k t → 0 ≤ t ∧ t < n → ∃ i : Nat, k ≤ i ∧ P[i]? = some t := by
        intro k
        induction k with
        | zero =>
          intro t _ ht
          obtain ⟨i, hi, he⟩ := List.mem_iff_getElem.1 (hall t ht)
          exact ⟨i, Nat.zero_le _, by rw [List.getElem?_eq_getElem hi, he]⟩
        | succ k ih =>
          rintro t ⟨s, hs, hw⟩ ht
          obtain ⟨j, hj, hjs⟩ := ih s hw (hE _ hs).1
          obtain ⟨i, hi, he⟩ := List.mem_iff_getElem.1 (hall t ht)
          have hi' : P[i]? = some t := by rw [List.getElem?_eq_getElem hi, he]
          obtain ⟨j', hj', hjs'⟩ := h.ord i t s hi' hs
          have : j' = j := by
            obtain ⟨q1, e1⟩ := List.getElem?_eq_some_iff.1 hjs
            obtain ⟨q2, e2⟩ := List.getElem?_eq_some_iff.1 hjs'
            exact (List.getElem_inj hnd).1 (e2.trans e1.symm)
          exact ⟨i, by omega, hi'⟩
      have hw' := hw
      obtain ⟨s, hs, _⟩ := hw'
      obtain ⟨i, hi, hit⟩ := hrank (n + 1) t hw (hE _ hs).2
      have h1 := (List.getElem?_eq_some_iff.1 hit).1
      have h2 := nodup_le hnd hrng
      omega
theorem kahnGo_spec {E : Edges} {n : Nat} (hE : ∀ e ∈ E, (0 ≤ e.1 ∧ e.1 < n) ∧ 0 ≤ e.2 ∧ e.2 < n) : ∀ (f : Nat) {P : List Int} {inn : Int → Int} {todo : List Int}, KahnI E n P inn todo → n + 1 ≤ f + P.length →
    (kahnGo E f inn todo P.length < n ↔ cycP E n) := by
  intro f
  induction f with
  | zero =>
    intro P inn todo h hf
    have := nodup_le h.nd h.rng
    simp at this
    omega
  | succ f ih =>
    intro P inn todo h hf
    cases todo with
    | nil => exact h.done hE
    | cons s todo =>
      have hst := h.step (fun e he => (hE e he).2)
      have := ih hst (by simp; omega)
      simpa [kahnGo] using this
def innF (E : Edges) (t : Int) : Int := ((E.filter fun e => e.2 == t).length : Int)
def todoF (E : Edges) (n : Nat) : List Int := ((List.range n).map fun k : Nat => (k : Int)).filter fun t => decide (innF E t = 0)
def kahnF (E : Edges) (n : Nat) : Bool := decide (kahnGo E (n + 1) (innF E) (todoF E n) 0 < n)
theorem kahnF_iff {E : Edges} {n : Nat} (hE : ∀ e ∈ E, (0 ≤ e.1 ∧ e.1 < n) ∧ 0 ≤ e.2 ∧ e.2 < n) : kahnF E n = true ↔ cycP E n := by
  unfold kahnF
  rw [decide_eq_true_iff]
  have hrn : ((List.range n).map fun k : Nat => (k : Int)).Nodup := by
    rw [List.Nodup, List.pairwise_map]
    exact List.nodup_range.imp fun hab e => hab (by omega)
  have hmem : ∀ t, t ∈ todoF E n ↔ (0 ≤ t ∧ t < n) ∧ innF E t = 0 := fun t => by
    unfold todoF
    rw [List.mem_filter, List.mem_map, decide_eq_true_iff]
    constructor
    · rintro ⟨⟨k, hk, rfl⟩, h2⟩
      rw [List.mem_range] at hk
      exact ⟨by omega, h2⟩
    · rintro ⟨h1, h2⟩
      exact ⟨⟨t.toNat, by rw [List.mem_range]; omega, by omega⟩, h2⟩
  have := kahnGo_spec hE (n + 1) (P := []) (inn := innF E) (todo := todoF E n) ⟨fun t => by simp [innF, inF], by rw [List.nil_append]; exact hrn.filter _, fun t ht => ((hmem t).1 (by simpa using ht)).1, fun t t0 tn => by
    rw [List.nil_append, hmem]
    constructor
    · exact fun h => h.2
    · exact fun h => ⟨⟨t0, tn⟩, h⟩, fun i t s hi => by simp at hi⟩ (by simp)
  simpa using this
end Go.Um
namespace Go.Um
def edgesF (rs : List Rule) : Edges := (rs.filter fun r => decide (r.guards.length = 0)).map fun r => (r.src, r.dst)
theorem edgesF_snoc (rs : List Rule) (r : Rule) : edgesF (rs ++ [r]) = edgesF rs ++ (if r.guards.length = 0 then [(r.src, r.dst)] else []) := by
  unfold edgesF
  rw [List.filter_append, List.map_append]
  by_cases h : r.guards.length = 0
  · have h' : r.guards = [] := List.eq_nil_of_length_eq_zero h
    simp [h']
  · have h' : r.guards ≠ [] := fun e => h (by simp [e])
    simp [h']
theorem edgesF_len (rs : List Rule) : (edgesF rs).length ≤ rs.length := by
  unfold edgesF
  rw [List.length_map]
  exact List.length_filter_le _ _
theorem toF_snoc (E : Edges) (a b s : Int) : toF (E ++ [(a, b)]) s = if s = a then toF E s ++ [b] else toF E s := by
  unfold toF
  rw [List.filter_append, List.map_append]
  by_cases h : s = a
  · subst h; simp
  · have : ¬ a = s := fun e => h e.symm
    simp [h, this]
theorem innF_snoc (E : Edges) (a b t : Int) : innF (E ++ [(a, b)]) t = if t = b then innF E t + 1 else innF E t := by
  unfold innF
  rw [List.filter_append, List.length_append]
  by_cases h : t = b
  · subst h; simp
  · have : ¬ b = t := fun e => h e.symm
    simp [h, this]
theorem innF_bounds (E : Edges) (t : Int) : 0 ≤ innF E t ∧ innF E t ≤ E.length := by
  unfold innF
  have := List.length_filter_le (fun e : Int × Int => e.2 == t) E
  exact ⟨by omega, by omega⟩
theorem toF_len (E : Edges) (s : Int) : (toF E s).length ≤ E.length := by
  unfold toF
  rw [List.length_map]
  exact List.length_filter_le _ _
end Go.Um
