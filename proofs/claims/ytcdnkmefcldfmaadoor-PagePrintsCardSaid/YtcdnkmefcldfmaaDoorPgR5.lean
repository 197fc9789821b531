/-
  How long the printed text of a small description is, at most.
-/
import Derived.Test.YtcdnkmefcldfmaaDoorPgR2
import Derived.Test.YtcdnkmefcldfmaaDoorPgSm
namespace Go.Um
theorem spans_le {g : List Span} (h : okSp g) : ∀ k, (spansFrom k g).length ≤ 45 * g.length := by
  induction g with
  | nil => intro k; simp [spansFrom]
  | cons x r ih =>
    intro k
    have h0 := h x (List.mem_cons_self ..)
    have h1 := ih (fun y hy => h y (List.mem_cons_of_mem _ hy)) (k + 1)
    have h2 := Lib.itoa_length_le x.lo h0.1.1 h0.1.2
    have h4 := Lib.itoa_length_le x.hi h0.2.1 h0.2.2
    have h3 : (sepL [44] k).length ≤ 1 := by unfold sepL; split <;> simp
    simp only [spansFrom, List.length_append, List.length_cons, List.length_nil]
    omega
theorem guards_le {gs : List (List Span)} (h : okGs gs) (hl : ∀ g ∈ gs, g.length ≤ 4000) : (guardsL gs).length ≤ 200000 * gs.length := by
  induction gs with
  | nil => simp [guardsL]
  | cons x r ih =>
    have h1 := ih (fun y hy => h y (List.mem_cons_of_mem _ hy)) (fun y hy => hl y (List.mem_cons_of_mem _ hy))
    have h2 := spans_le (h x (List.mem_cons_self ..)) 0
    have h3 := hl x (List.mem_cons_self ..)
    simp only [guardsL, List.length_append, List.length_cons, List.length_nil]
    omega
theorem parts_le {ps : List Part} (h : okPs ps) : (partsL ps).length ≤ 100 * ps.length := by
  induction ps with
  | nil => simp [partsL]
  | cons x r ih =>
    have h1 := ih (fun y hy => h y (List.mem_cons_of_mem _ hy))
    have h0 := h x (List.mem_cons_self ..)
    have h2 := nums_le (xs := [x.at_, x.drop, x.take, x.up]) (by intro y hy; simp at hy; rcases hy with rfl | rfl | rfl | rfl <;> first | exact h0.1 | exact h0.2.1 | exact h0.2.2.1 | exact h0.2.2.2) 0
    simp only [partsL, List.length_append, List.length_cons, List.length_nil] at h2 ⊢
    omega
theorem terms_le {ts : List Term} (h : okTs ts) (hl : ∀ t ∈ ts, t.parts.length ≤ 4000) : (termsL ts).length ≤ 500000 * ts.length := by
  induction ts with
  | nil => simp [termsL]
  | cons x r ih =>
    have h1 := ih (fun y hy => h y (List.mem_cons_of_mem _ hy)) (fun y hy => hl y (List.mem_cons_of_mem _ hy))
    have h0 := h x (List.mem_cons_self ..)
    have h3 := parts_le h0.2
    have h4 := hl x (List.mem_cons_self ..)
    have h2 := nums_le (xs := [x.base, x.drop, x.take, x.up, x.sum]) (by intro y hy; simp at hy; rcases hy with rfl | rfl | rfl | rfl | rfl <;> first | exact h0.1.1 | exact h0.1.2.1 | exact h0.1.2.2.1 | exact h0.1.2.2.2.1 | exact h0.1.2.2.2.2) 0
    simp only [termsL, List.length_append, List.length_cons, List.length_nil] at h2 ⊢
    omega
end Go.Um
namespace Go.Proofs.YtcdnkmefcldfmaaDoor
open Go.RowKit Go.Um
theorem sizeG_mem {l : List (List Span)} : ∀ {acc : Int}, 0 ≤ acc → sizeG acc l ≤ 1500 → ∀ g ∈ l, g.length ≤ 4000 := by
  induction l with
  | nil => intro acc _ _ g hg; cases hg
  | cons x r ih =>
    intro acc h0 h g hg
    have hc := capped_bd x.length
    have he : capped x.length = min (x.length : Int) 4000 := rfl
    have hb := (sizeG_bd (acc + capped x.length) r).1
    unfold sizeG at h
    rcases List.mem_cons.1 hg with rfl | hg
    · omega
    · exact ih (by omega) h g hg
theorem sizeT_mem {l : List Term} : ∀ {acc : Int}, 0 ≤ acc → sizeT acc l ≤ 1500 → ∀ t ∈ l, t.parts.length ≤ 4000 := by
  induction l with
  | nil => intro acc _ _ g hg; cases hg
  | cons x r ih =>
    intro acc h0 h g hg
    have hc := capped_bd x.parts.length
    have he : capped x.parts.length = min (x.parts.length : Int) 4000 := rfl
    have hb := (sizeT_bd (acc + 1 + capped x.parts.length) r).1
    unfold sizeT at h
    rcases List.mem_cons.1 hg with rfl | hg
    · omega
    · exact ih (by omega) h g hg
theorem size_body {l : List (List Span)} {out : List Term} (h : sizeF l out ≤ 1500) (hg : okGs l) (ho : okTs out) : (nl (bodyL l out)).length ≤ 200000000 := by
  unfold sizeF at h
  split at h
  · omega
  · rename_i hn
    have h1 := (sizeG_bd 1 l).1
    have h2 := (sizeT_bd (sizeG 1 l) out).1
    have a := guards_le hg (sizeG_mem (acc := 1) (by omega) (by omega))
    have b := terms_le ho (sizeT_mem (acc := sizeG 1 l) (by omega) h)
    simp only [nl, bodyL, List.length_append, List.length_cons, List.length_nil]
    omega
theorem smallR_mem {rs : List Rule} : ∀ {acc : Int}, smallR acc rs ≤ 1500 → 0 ≤ acc → acc ≤ smallR acc rs ∧ ∀ r ∈ rs, sizeF r.guards r.out ≤ 1500 := by
  induction rs with
  | nil => intro acc h h0; exact ⟨Int.le_refl _, fun r hr => by cases hr⟩
  | cons x r ih =>
    intro acc h h0
    have hs := (sizeF_bd x.guards x.out).1
    unfold smallR at h ⊢
    have := ih h (by omega)
    refine ⟨by omega, fun y hy => ?_⟩
    rcases List.mem_cons.1 hy with rfl | hy
    · omega
    · exact this.2 y hy
theorem smallE_mem {rs : List Final} : ∀ {acc : Int}, smallE acc rs ≤ 1500 → 0 ≤ acc → acc ≤ smallE acc rs ∧ ∀ r ∈ rs, sizeF r.guards r.out ≤ 1500 := by
  induction rs with
  | nil => intro acc h h0; exact ⟨Int.le_refl _, fun r hr => by cases hr⟩
  | cons x r ih =>
    intro acc h h0
    have hs := (sizeF_bd x.guards x.out).1
    unfold smallE at h ⊢
    have := ih h (by omega)
    refine ⟨by omega, fun y hy => ?_⟩
    rcases List.mem_cons.1 hy with rfl | hy
    · omega
    · exact this.2 y hy
theorem rules_le {rs : List Rule} (h : ∀ r ∈ rs, r.ok) (hs : ∀ r ∈ rs, sizeF r.guards r.out ≤ 1500) : (rulesL rs).length ≤ 300000000 * rs.length := by
  induction rs with
  | nil => simp [rulesL]
  | cons x r ih =>
    have h1 := ih (fun y hy => h y (List.mem_cons_of_mem _ hy)) (fun y hy => hs y (List.mem_cons_of_mem _ hy))
    have h0 := h x (List.mem_cons_self ..)
    have h2 := size_body (hs x (List.mem_cons_self ..)) h0.2.1 h0.2.2
    have h3 := nums_le (xs := [x.src, x.dst, x.eat]) (by intro y hy; simp at hy; rcases hy with rfl | rfl | rfl <;> first | exact h0.1.1 | exact h0.1.2.1 | exact h0.1.2.2) 0
    simp only [rulesL, ruleL, nl, List.length_append, List.length_cons, List.length_nil] at h2 h3 ⊢
    omega
theorem finals_le {rs : List Final} (h : ∀ r ∈ rs, r.ok) (hs : ∀ r ∈ rs, sizeF r.guards r.out ≤ 1500) : (finalsL rs).length ≤ 300000000 * rs.length := by
  induction rs with
  | nil => simp [finalsL]
  | cons x r ih =>
    have h1 := ih (fun y hy => h y (List.mem_cons_of_mem _ hy)) (fun y hy => hs y (List.mem_cons_of_mem _ hy))
    have h0 := h x (List.mem_cons_self ..)
    have h2 := size_body (hs x (List.mem_cons_self ..)) h0.2.1 h0.2.2
    have h3 := nums_le (xs := [x.src]) (by intro y hy; simp at hy; subst hy; exact h0.1) 0
    simp only [finalsL, finalL, nl, List.length_append, List.length_cons, List.length_nil] at h2 h3 ⊢
    omega
/-- a small description's text is no longer than this. -/
theorem print_le {d : Desc} (h : d.ok) (hs : smallF d = true) : (printL d).length ≤ 1000000000000 := by
  unfold smallF at hs
  split at hs
  · cases hs
  · rename_i hn
    have hE := of_decide_eq_true hs
    have hR0 : ∀ {rs : List Rule} {acc : Int}, acc ≤ smallR acc rs := by
      intro rs
      induction rs with
      | nil => intro acc; exact Int.le_refl _
      | cons x r ih => intro acc; have := @ih (acc + sizeF x.guards x.out); have := (sizeF_bd x.guards x.out).1; unfold smallR; omega
    have h1 := smallE_mem hE hR0
    have h2 := smallR_mem (Int.le_trans h1.1 hE) (Int.le_refl _)
    have a := rules_le h.2.1 h2.2
    have b := finals_le h.2.2 h1.2
    have c := nums_le (xs := [d.inn, d.out, d.states, d.start]) (by intro y hy; simp at hy; rcases hy with rfl | rfl | rfl | rfl <;> first | exact h.1.1 | exact h.1.2.1 | exact h.1.2.2.1 | exact h.1.2.2.2) 0
    simp only [printL, headL, nl, List.length_append, List.length_cons, List.length_nil] at c ⊢
    omega
end Go.Proofs.YtcdnkmefcldfmaaDoor
