/-
  term: what is small. Conditions: none. Terms, plain: how long sums are. No program is named here. term.plus. Conditions: few spans, none empty, within bounds. term.together. Conditions: parts that are right, few spans of symbols. Maps in walks; term.values: how places and parts lie (plain).
-/
import Derived.Test.YtofcjmjokokajaaGreatQs
import Derived.Test.YtofcjmjokokajaaGreatQq
import Derived.Test.YtofcjmjokokajaaGreatQn
import Derived.Test.YtofcjmjokokajaaGreatQl
namespace Go.Proofs.YtofcjmjokokajaaGreat
open Go.RowKit Go.Um Go.Proofs Go.Vm
attribute [local irreducible] Ev arun awp RetQ NextQ
set_option maxHeartbeats 1000000
theorem symbols_v : VPure Tryz.prog 260 [] (spanR.L symL) := by
  refine a_pure (n0 := 0) (hN := Tryz.ntmps260) (hf := Tryz.func260) ?_
  refine wk ⟨?_⟩
  exact ret_tmp (.inr rfl) rfl rfl (pk_row rfl rfl rfl rfl rfl)
theorem outer_v (t : Term) : VPure Tryz.prog 158 [.agg (termR.cells t)] (.agg (partR.cells (outerT t))) := by
  refine a_pure (n0 := 0) (hN := Tryz.ntmps158) (hf := Tryz.func158) ?_
  refine wk ⟨?_⟩
  exact ret_cell (.inr rfl) (.cell rfl rfl rfl rfl rfl .nil) (pk_cells (r := partR) (x := outerT t) rfl)
theorem small_v (x : Int) : VPure Tryz.prog 258 [.int .i64 x] (.bool (smallN x)) := by
  refine a_pure (n0 := 0) (hN := Tryz.ntmps258) (hf := Tryz.func258) ?_
  refine wk2 (fun h => ⟨?_⟩) (fun h => ⟨?_⟩)
  all_goals exact ret_tmp (.inr rfl) rfl rfl (pk_bool (by unfold smallN; rw [Bool.eq_iff_iff]; simp; omega))
theorem part_eq {p q : Part} : intsOf (partR.cells p) = intsOf (partR.cells q) ↔ p = q := by
  obtain ⟨a, b, c, d⟩ := p
  obtain ⟨a', b', c', d'⟩ := q
  simp [partR, intsOf]
theorem plain_v (t : Term) : VPure Tryz.prog 231 [.agg (termR.cells t)] (.bool (plainT t)) := by
  have ho := outer_v t
  have hw := whole_v 0
  refine a_pure (n0 := 0) (hN := Tryz.ntmps231) (hf := Tryz.func231) ?_
  refine wk2 (fun h => ⟨?_⟩) (fun h => ⟨?_⟩)
  · refine ar_pure ho ?_
    refine wk ⟨?_⟩
    refine ar_pure hw ?_
    refine wk ⟨?_⟩
    exact ret_tmp (.inr rfl) rfl rfl (pk_bool (by rw [Bool.eq_iff_iff, decide_eq_true_iff, part_eq]; simp [plainT, outerT, wholeP, *]))
  · exact ret_tmp (.inr rfl) rfl rfl (pk_bool (by simp [plainT, *]))
def restR (l : List Part) : Nat → Bool
  | 0 => risingP l
  | j + 1 => match l[j]? with | some q => risesP q.up (l.drop (j + 1)) | none => true
theorem restR_zero {l : List Part} {x : Part} (h : l[0]? = some x) : restR l 0 = restR l 1 := by
  cases l with
  | nil => cases h
  | cons y r => simp [restR, risingP]
theorem restR_succ {l : List Part} {q x : Part} {j : Nat} (hq : l[j]? = some q) (h : l[j + 1]? = some x) : restR l (j + 1) = (decide (q.up < x.up) && restR l (j + 2)) := by
  simp only [restR, hq, h]
  rw [drop_at h]
  rfl
theorem restR_end {l : List Part} : restR l l.length = true := by
  cases hl : l.length with
  | zero => simp [restR, List.eq_nil_of_length_eq_zero hl, risingP]
  | succ j =>
    have : l[j]? = some l[j] := List.getElem?_eq_getElem (by omega)
    simp only [restR, this]
    rw [List.drop_eq_nil_of_le (by omega)]
    rfl
theorem restR_step {l : List Part} {x : Part} {k : Nat} (hx : l[k]? = some x) (h0 : 0 < (k : Int)) (hb : ((k : Int) - 1).toNat < l.length) : restR l k = (decide (l[((k : Int) - 1).toNat].up < x.up) && restR l (k + 1)) := by
  obtain ⟨j, rfl⟩ : ∃ j, k = j + 1 := ⟨k - 1, by omega⟩
  have e : (((j + 1 : Nat) : Int) - 1).toNat = j := by omega
  simp only [e]
  exact restR_succ (List.getElem?_eq_getElem (by omega)) hx
theorem rising_v (l : List Part) : VPure Tryz.prog 259 [partR.L l] (.bool (risingP l && decide (l.length ≤ 4))) := by
  refine a_pure (n0 := 0) (hN := Tryz.ntmps259) (hf := Tryz.func259) ?_
  refine wk ⟨?_⟩
  refine a_len 5 (f := partR.cells) (xs := l) rfl rfl fun hl => ?_
  refine a_loop (σ := Nat) 0 [0, 5, 6] (fun k => [(7, V.int .i64 (k : Int))]) (fun _ => []) (fun k => k ≤ l.length ∧ restR l k = risingP l) (fun k => l.length - k) 0 ⟨Nat.zero_le _, rfl⟩ ?_
  rintro k ⟨hk, hr⟩
  obtain hx | ⟨x, hx, hlt⟩ := range_cases hk
  · subst k
    refine wk ⟨?_⟩
    exact ret_tmp (.inr rfl) rfl rfl (pk_bool (by rw [← hr, restR_end]; simp; omega))
  · repeat' first | (show arun _ _ _ _ _ (⟨some _, _, _, _, _, none⟩ :: _) _ _ _; first | refine ar_s ?_ | refine ar_app_n (fun h => ?_) (fun h => ?_) | refine ar_app_nz (fun h => ?_) (fun h => ?_)) | (show arun _ _ _ _ _ (⟨_, _, _, _, _, some _⟩ :: _) _ _ _; first | refine ar_on ?_ | refine ar_off ?_ | refine ar_off2 ?_ | refine ar_split_t ?_ | refine ar_split_f ?_ | refine ar_split (fun h => ?_) (fun h => ?_)) | (show arun _ _ _ _ _ (⟨none, _, _, _, _, none⟩ :: _) _ _ _; refine ar_n ?_) | (show frun _ _ _ _ _ _ (⟨some _, _, _, _, _, none⟩ :: _) _ _ _; refine fr_s ?_) | (show frun _ _ _ _ _ _ (⟨none, _, _, _, _, none⟩ :: _) _ _ _; refine fr_n ?_) | (show grun _ _ _ _ _ _ _ (⟨some _, _, _, _, _, none⟩ :: _) _ _ _; refine gr_s ?_) | (show grun _ _ _ _ _ _ _ (⟨none, _, _, _, _, none⟩ :: _) _ _ _; refine gr_n ?_) | refine gr_nil ?_ | refine fr_nil ?_ | refine ar_nil ?_ | refine a_seq ?_ | refine a_block ?_ | refine a_region ?_ | refine a_drawn ?_ | refine a_skip ?_ | refine a_exit ?_ | refine a_ret ?_ | (show awp _ _ (.cond _ _ _) _ _ _ _; first | refine a_yes rfl ?_ | refine a_no rfl ?_ | refine a_dec_t ?_ | refine a_dec_f ?_ | refine a_dec rfl (fun h => ?_) (fun h => ?_))
    · exact ret_tmp (.inr rfl) rfl rfl (pk_bool (by rw [← hr, restR_step hx (by assumption) (by omega), decide_eq_false (by omega)]; rfl))
    · refine a_next (k + 1) ⟨hlt, by rw [← hr, restR_step hx (by assumption) (by omega), decide_eq_true (by omega)]; rfl⟩ (by omega) ?_
      exact wz
    · refine a_next (k + 1) ⟨hlt, by
        obtain rfl : k = 0 := by omega
        rw [← hr, restR_zero hx]⟩ (by omega) ?_
      exact wz
theorem numbers_v (t : Term) : VPure Tryz.prog 230 [.agg (termR.cells t)] (.bool (numbersF t)) := by
  have h1 := small_v t.base
  have h2 := small_v t.sum
  have ho := outer_v t
  have hr := pright_v (outerT t) 1
  have hq : rightP (outerT t) 1 = bitsF (outerT t) := by simp [rightP, outerT]
  rw [hq] at hr
  have hp := rising_v t.parts
  have hN : numbersF t = (smallN t.base && smallN t.sum && bitsF (outerT t) && (risingP t.parts && decide (t.parts.length ≤ 4))) := by unfold numbersF; simp [Bool.and_assoc]
  rw [hN]
  generalize (risingP t.parts && decide (t.parts.length ≤ 4)) = b4 at *
  generalize hb3 : bitsF (outerT t) = b3 at *
  generalize smallN t.sum = b2 at *
  generalize smallN t.base = b1 at *
  refine a_pure (n0 := 0) (hN := Tryz.ntmps230) (hf := Tryz.func230) ?_
  refine wk ⟨?_⟩
  refine ar_pure h1 ?_
  cases b1
  · refine wk ⟨?_⟩
    exact ret_tmp (.inr rfl) rfl rfl (pk_bool rfl)
  refine wk ⟨?_⟩
  refine ar_pure h2 ?_
  cases b2
  · refine wk ⟨?_⟩
    exact ret_tmp (.inr rfl) rfl rfl (pk_bool rfl)
  refine wk ⟨?_⟩
  refine ar_pure ho ?_
  refine wk ⟨?_⟩
  refine ar_pure hr ?_
  cases b3
  · refine wk ⟨?_⟩
    exact ret_tmp (.inr rfl) rfl rfl (pk_bool rfl)
  refine wk ⟨?_⟩
  refine ar_pure hp ?_
  refine wk ⟨?_⟩
  exact ret_tmp (.inr rfl) rfl rfl (pk_bool rfl)
theorem domF_nil {s : Int} : (domF s).length = 0 ↔ sortF s = false := by
  unfold domF sortF
  split
  · simp [*]
  · split <;> simp [*]
theorem tright_v (t : Term) (inn out n : Int) : VPure Tryz.prog 184 [.agg (termR.cells t), .int .i64 inn, .int .i64 out, .int .i64 n] (.bool (rightF t inn out n)) := by
  have h1 := domain_v inn
  have h2 := domain_v out
  have h3 := numbers_v t
  refine a_pure (n0 := 0) (hN := Tryz.ntmps184) (hf := Tryz.func184) ?_
  refine wk ⟨?_⟩
  refine ar_pure h1 ?_
  refine wk2 (fun h => ⟨?_⟩) (fun h => ⟨?_⟩)
  · have hs : sortF inn = false := domF_nil.1 (by omega)
    exact ret_tmp (.inr rfl) rfl rfl (pk_bool (by unfold rightF; rw [hs]; rfl))
  have s1 : sortF inn = true := by
    have := mt domF_nil.2 (show ¬ (domF inn).length = 0 by omega)
    simpa using this
  refine ar_pure h2 ?_
  refine wk2 (fun h => ⟨?_⟩) (fun h => ⟨?_⟩)
  · have hs : sortF out = false := domF_nil.1 (by omega)
    exact ret_tmp (.inr rfl) rfl rfl (pk_bool (by unfold rightF; rw [hs]; simp))
  have s2 : sortF out = true := by
    have := mt domF_nil.2 (show ¬ (domF out).length = 0 by omega)
    simpa using this
  refine ar_pure h3 ?_
  cases hn : numbersF t
  · refine wk ⟨?_⟩
    exact ret_tmp (.inr rfl) rfl rfl (pk_bool (by unfold rightF; rw [hn]; simp))
  refine wk ⟨?_⟩
  have hdef : rightF t inn out n = (t.parts.all (fun p => rightP p n && decide (inn = 2 → p = wholeP p.at_)) && decide (inn = 2 → t.parts.length ≤ 1) && decide (out = 2 → plainT t = true)) := by unfold rightF; rw [s1, s2, hn]; simp
  rw [hdef]
  clear hdef h1 h2 h3
  refine a_len 27 (f := partR.cells) (xs := t.parts) rfl rfl fun hpl => ?_
  refine a_loop (σ := Nat) 0 [1, 2, 3, 4, 27, 28] (fun k => [(29, V.int .i64 (k : Int))]) (fun _ => []) (fun k => k ≤ t.parts.length ∧ (t.parts.take k).all (fun p => rightP p n && decide (inn = 2 → p = wholeP p.at_)) = true) (fun k => t.parts.length - k) 0 ⟨Nat.zero_le _, rfl⟩ ?_
  rintro k ⟨hk, hr⟩
  obtain hx | ⟨x, hx, hlt⟩ := range_cases hk
  · subst k
    rw [List.take_length] at hr
    rw [hr]
    have hpl := plain_v t
    repeat' first | (show arun _ _ _ _ _ (⟨some _, _, _, _, _, none⟩ :: _) _ _ _; first | refine ar_s ?_ | refine ar_app_n (fun h => ?_) (fun h => ?_) | refine ar_app_nz (fun h => ?_) (fun h => ?_)) | (show arun _ _ _ _ _ (⟨_, _, _, _, _, some _⟩ :: _) _ _ _; first | refine ar_on ?_ | refine ar_off ?_ | refine ar_off2 ?_ | refine ar_split_t ?_ | refine ar_split_f ?_ | refine ar_split (fun h => ?_) (fun h => ?_)) | (show arun _ _ _ _ _ (⟨none, _, _, _, _, none⟩ :: _) _ _ _; refine ar_n ?_) | (show frun _ _ _ _ _ _ (⟨some _, _, _, _, _, none⟩ :: _) _ _ _; refine fr_s ?_) | (show frun _ _ _ _ _ _ (⟨none, _, _, _, _, none⟩ :: _) _ _ _; refine fr_n ?_) | (show grun _ _ _ _ _ _ _ (⟨some _, _, _, _, _, none⟩ :: _) _ _ _; refine gr_s ?_) | (show grun _ _ _ _ _ _ _ (⟨none, _, _, _, _, none⟩ :: _) _ _ _; refine gr_n ?_) | refine gr_nil ?_ | refine fr_nil ?_ | refine ar_nil ?_ | refine a_seq ?_ | refine a_block ?_ | refine a_region ?_ | refine a_drawn ?_ | refine a_skip ?_ | refine a_exit ?_ | refine a_ret ?_ | (show awp _ _ (.cond _ _ _) _ _ _ _; first | refine a_yes rfl ?_ | refine a_no rfl ?_ | refine a_dec_t ?_ | refine a_dec_f ?_ | refine a_dec rfl (fun h => ?_) (fun h => ?_))
    · exact ret_tmp (.inr rfl) rfl rfl (pk_bool (by simp [*]))
    · refine ar_pure hpl ?_
      refine wk ⟨?_⟩
      exact ret_tmp (.inr rfl) rfl rfl (pk_bool (by rename_i h2; simp [Decidable.not_not.1 h, h2]))
    · exact ret_tmp (.inr rfl) rfl rfl (pk_bool (by rename_i h1 h2; simp [h]; omega))
    · refine ar_pure hpl ?_
      refine wk ⟨?_⟩
      exact ret_tmp (.inr rfl) rfl rfl (pk_bool (by
        rw [decide_eq_true (show inn = 2 → t.parts.length ≤ 1 by omega)]
        simp [Decidable.not_not.1 h]))
    · exact ret_tmp (.inr rfl) rfl rfl (pk_bool (by
        rw [decide_eq_false (show ¬ (inn = 2 → t.parts.length ≤ 1) by omega)]
        simp))
  · have hp := pright_v x n
    have hw := whole_v x.at_
    have hno : ∀ p : Part → Bool, p x = false → t.parts.all p = false := fun p h => by
      rw [← Bool.not_eq_true]
      intro h2
      rw [List.all_eq_true.1 h2 x (List.mem_of_getElem? hx)] at h
      cases h
    have hyes : ∀ p : Part → Bool, (t.parts.take k).all p = true → p x = true → (t.parts.take (k + 1)).all p = true := fun p h1 h2 => by
      rw [take_at hx, List.all_append, h1]
      simp [h2]
    refine wk ⟨?_⟩
    refine ar_pure hp ?_
    cases hrp : rightP x n
    · refine wk ⟨?_⟩
      exact ret_tmp (.inr rfl) rfl rfl (pk_bool (by rw [hno _ (by simp [hrp])]; rfl))
    refine wk2 (fun h => ⟨?_⟩) (fun h => ⟨?_⟩)
    · refine ar_pure hw ?_
      refine wk2 (fun h => ⟨?_⟩) (fun h => ⟨?_⟩)
      · exact ret_tmp (.inr rfl) rfl rfl (pk_bool (by
          rename_i h1
          have h2 : ¬ x = wholeP x.at_ := fun e => h (part_eq.2 e)
          rw [hno _ (by simp [h1, h2])]
          rfl))
      · refine a_next (k + 1) ⟨hlt, hyes _ hr (by
          have h2 : x = wholeP x.at_ := part_eq.1 (Decidable.not_not.1 h)
          simp [hrp, ← h2])⟩ (by omega) ?_
        exact wz
    · refine a_next (k + 1) ⟨hlt, hyes _ hr (by simp [*])⟩ (by omega) ?_
      exact wz
end Go.Proofs.YtofcjmjokokajaaGreat
namespace Go.Um
theorem plain_len_from {last n : Int} {l : List Span} (h : plainFrom last l = true) (hn : ∀ s ∈ l, s.hi ≤ n) (hl : l ≠ []) : last + 2 * l.length ≤ n := by
  induction l generalizing last with
  | nil => exact absurd rfl hl
  | cons s r ih =>
    obtain ⟨h1, h2⟩ := plainFrom_cons.1 h
    have h3 := hn s (List.mem_cons_self ..)
    cases r with
    | nil => simp; omega
    | cons t u =>
      have := ih h2 (fun x hx => hn x (List.mem_cons_of_mem _ hx)) (by simp)
      simp only [List.length_cons] at this ⊢
      omega
theorem plain_len {n : Nat} {l : List Span} (h : plain l = true) (hn : inB n l) : l.length ≤ n + 1 := by
  cases l with
  | nil => simp
  | cons s r =>
    obtain ⟨h1, h2⟩ := plainFrom_cons.1 h
    have h3 := hn s (List.mem_cons_self ..)
    cases r with
    | nil => simp
    | cons t u =>
      have := plain_len_from h2 (fun x hx => (hn x (List.mem_cons_of_mem _ hx)).2) (by simp)
      simp only [List.length_cons] at this ⊢
      omega
theorem plusFold_len {b : List Span} {n m : Int} {K : Nat} (hb : neL b) (hbn : inB m b) (hnm : n + m + 1 ≤ K) (hnm2 : n + m ≤ 1073741824) (hnm0 : 0 ≤ n + m) (hK : 65536 ≤ K) {a : List Span} : ∀ {out : List Span}, neL a → inB n a → neL out → inB (n + m) out → out.length ≤ K → (a.foldl (plusStep b) out).length ≤ K := by
  induction a with
  | nil => intro out _ _ _ _ h; exact h
  | cons x r ih =>
    intro out ha hn h1 h2 h3
    obtain ⟨s1, s2, s3⟩ := plusStep_spec hb h1 (ha x (List.mem_cons_self ..)) hbn (hn x (List.mem_cons_self ..)) h2 hnm2
    refine ih (fun s hs => ha s (List.mem_cons_of_mem _ hs)) (fun s hs => hn s (List.mem_cons_of_mem _ hs)) s1 s2 ?_
    unfold plusStep at s2 ⊢
    split
    · rename_i hc
      rw [if_pos hc] at s2
      have := plain_len (n := (n + m).toNat) (normF_plain (out ++ b.map (addS x))) (by rw [Int.toNat_of_nonneg hnm0]; exact s2)
      omega
    · omega
def plusPart (a b : List Span) (k : Nat) : List Span := (a.take k).foldl (plusStep b) []
theorem plusPart_succ {a b : List Span} {k : Nat} {x : Span} (h : a[k]? = some x) : plusPart a b (k + 1) = plusStep b (plusPart a b k) x := by
  unfold plusPart; rw [take_at h, List.foldl_append]; rfl
end Go.Um
namespace Go.Vm
theorem pk_nrow_pre {s : Store} {α : Type} {r : Rp α} {t g e m G L k : Nat} {xs ys : List α} (hs : s t = nb e m G L (xs.map r.cells)) (hg : (Nat.ble L g && Nat.ble g G) = true) (hm : m = r.m) (h : xs.take k = ys) (h0 : k = 0 → xs = []) (hk : k ≤ xs.length) : Pk s (nrow t g k) (.list m (ys.map r.cells)) := by
  by_cases hz : k = 0
  · subst hz
    obtain rfl := h0 rfl
    obtain rfl : ys = [] := by rw [← h]; rfl
    exact pk_nrow hs hg hm rfl
  · rw [nrow_pos (by omega)]
    rw [nb_pos (by simp; omega)] at hs
    subst h
    exact pk_pre hs hg hm (by rw [List.length_take, Nat.min_eq_left hk]) (by rw [List.length_take, Nat.min_eq_left hk])
end Go.Vm
namespace Go.Proofs.YtofcjmjokokajaaGreat
open Go.RowKit Go.Um Go.Proofs Go.Vm
attribute [local irreducible] Ev arun awp RetQ NextQ
set_option maxHeartbeats 4000000
structure PlSt where
  k : Nat
  n : Nat
  cs : List Span
  g : Nat
  L : Nat
theorem plus_v (a b : List Span) (hbl : b.length ≤ 3000000) (hal : a.length ≤ 1073741824) (hane : neL a) (hbne : neL b) (han : inB 300000000 a) (hbn : inB 300000000 b) : VPure Tryz.prog 279 [spanR.L a, spanR.L b] (spanR.L (plusF a b)) := by
  have hF : plusF a b = normF (plusPart a b a.length) := by unfold plusF plusPart; rw [List.take_length]
  have hlen : ∀ k, (plusPart a b k).length ≤ 600000001 := fun k => plusFold_len (K := 600000001) hbne hbn (by decide) (by decide) (by decide) (by decide) (fun s hs => hane s (List.mem_of_mem_take hs)) (fun s hs => han s (List.mem_of_mem_take hs)) (fun s hs => by cases hs) (fun s hs => by cases hs) (by simp)
  refine a_pure (n0 := 0) (hN := Tryz.ntmps279) (hf := Tryz.func279) ?_
  refine wk ⟨?_⟩
  refine a_loop (σ := PlSt) 1 [1, 10, 11] (fun x => [(5, nrow 0 x.g x.n), (12, V.int .i64 (x.k : Int))]) (fun x => [(0, nb 90 2 x.g x.L (x.cs.map spanR.cells))]) (fun x => x.L ≤ x.g ∧ x.k ≤ a.length ∧ x.n ≤ x.cs.length ∧ (x.n = 0 → x.cs = []) ∧ x.cs.take x.n = plusPart a b x.k) (fun x => a.length - x.k) ⟨0, 0, [], 0, 0⟩ ⟨Nat.le_refl _, Nat.zero_le _, Nat.zero_le _, fun _ => rfl, rfl⟩ ?_
  rintro ⟨k, n, cs, g, L⟩ ⟨hLg, hk, hn, hn0, ho⟩
  simp only at hLg hk hn hn0 ho
  have hlk := hlen k
  obtain hx | ⟨x, hx, hlt⟩ := range_cases hk
  · subst k
    have hnv := norm_v (plusPart a b a.length) (by omega)
    dsimp only
    refine wk ⟨?_⟩
    refine ar_take [0] hnv ?_ (hx := .cons (pk_nrow_pre rfl (ble2 hLg) rfl ho hn0 hn) .nil) (hi := by simp only [List.all_cons, List.all_nil, Bool.and_true]; exact nb_some)
    refine wk ⟨?_⟩
    exact ret_tmp (.inr rfl) rfl rfl (pk_list hF.symm)
  · dsimp only
    refine wk ⟨?_⟩
    have hxm := List.mem_of_getElem? hx
    obtain ⟨x1, x2⟩ := han x hxm
    have x3 := hane x hxm
    have hP : plusPart a b (k + 1) = plusStep b (plusPart a b k) x := plusPart_succ hx
    have hlk1 := hlen (k + 1)
    obtain ⟨hPn, hPb, _⟩ : neL (plusPart a b k) ∧ inB 600000000 (plusPart a b k) ∧ _ := plusFold_spec (n := 300000000) (m := 300000000) (out := []) hbne hbn (by decide) (fun s hs => hane s (List.mem_of_mem_take hs)) (fun s hs => han s (List.mem_of_mem_take hs)) (fun s hs => by cases hs) (fun s hs => by cases hs)
    generalize plusPart a b k = P at ho hlk hP hPn hPb
    refine a_loop (σ := PlSt) 0 [1, 7, 10, 11, 12, 16, 17] (fun x => [(5, nrow 0 x.g x.n), (18, V.int .i64 (x.k : Int))]) (fun x => [(0, nb 90 2 x.g x.L (x.cs.map spanR.cells))]) (fun y => y.L ≤ y.g ∧ y.k ≤ b.length ∧ y.n ≤ y.cs.length ∧ (y.n = 0 → y.cs = []) ∧ y.cs.take y.n = P ++ (b.take y.k).map (addS x)) (fun y => b.length - y.k) ⟨0, n, cs, g, L⟩ ⟨hLg, Nat.zero_le _, hn, hn0, by simpa using ho⟩ ?_
    clear ho hLg hn hn0
    rintro ⟨j, n, cs, g, L⟩ ⟨hLg, hj, hn, hn0, ho⟩
    simp only at hLg hj hn hn0 ho
    have hnl : n ≤ 603000001 := by
      have := congrArg List.length ho
      rw [List.length_take, Nat.min_eq_left hn, List.length_append, List.length_map, List.length_take] at this
      omega
    obtain hy | ⟨y, hy, hjl⟩ := range_cases hj
    · subst j
      rw [List.take_length] at ho
      dsimp only
      refine wk2 (fun h => ⟨?_⟩) (fun h => ⟨?_⟩)
      · rw [plusStep, ← ho, List.length_take, Nat.min_eq_left hn, if_pos (by omega)] at hP
        have hno := norm_o (cs.take n) (by rw [List.length_take]; omega)
        have hC := normC_take (cs.take n)
        rw [← hP] at hno hC
        generalize normC (cs.take n) = C at hno hC
        have hpos : 0 < (plusPart a b (k + 1)).length := by
          rw [hP, ho]
          obtain ⟨s, hs⟩ := List.exists_mem_of_length_pos (l := P ++ b.map (addS x)) (by rw [← ho, List.length_take]; omega)
          have hsb : s.lo ≤ s.hi ∧ -600000000 ≤ s.lo ∧ s.hi ≤ 600000000 := by
            rcases List.mem_append.1 hs with h | h
            · exact ⟨hPn s h, hPb s h⟩
            · obtain ⟨y, hy, rfl⟩ := List.mem_map.1 h
              have := hbn y hy
              have := hbne y hy
              simp only [addS]
              omega
          have hm : mem (normF (P ++ b.map (addS x))) s.lo := mem_normF.2 ⟨by omega, s, hs, Int.le_refl _, hsb.1⟩
          obtain ⟨q, hq, _⟩ := hm
          exact List.length_pos_of_mem hq
        have hCl : (plusPart a b (k + 1)).length ≤ C.length := by
          have := congrArg List.length hC
          rw [List.length_take] at this
          omega
        refine ar_over 0 hno (spanR.cl 0 _) (nb_pos (by rw [List.length_map]; omega)) ?_ (hx := .cons (pk_nrow_pre rfl (ble2 hLg) rfl rfl hn0 hn) .nil)
        refine wk ⟨?_⟩
        refine a_next (⟨k + 1, (plusPart a b (k + 1)).length, C, g + 1, g + 1⟩ : PlSt) ⟨Nat.le_refl _, hlt, hCl, fun h => absurd h (by simp only; omega), hC⟩ (by simp only; omega) ?_
        exact wz
      · rw [plusStep, ← ho, List.length_take, Nat.min_eq_left hn, if_neg (by omega)] at hP
        refine a_next (⟨k + 1, n, cs, g, L⟩ : PlSt) ⟨hLg, hlt, hn, hn0, hP.symm⟩ (by simp only; omega) ?_
        exact wz
    · have hym := List.mem_of_getElem? hy
      obtain ⟨y1, y2⟩ := hbn y hym
      have y3 := hbne y hym
      have ho2 : cs.take n ++ [addS x y] = P ++ (b.take (j + 1)).map (addS x) := by
        rw [take_at hy, List.map_append, ← List.append_assoc, ← ho]
        rfl
      by_cases hnz : n = 0
      · obtain rfl := hn0 hnz
        subst n
        dsimp only
        refine wk ⟨?_⟩
        refine a_next (⟨j + 1, 1, [addS x y], 0, 0⟩ : PlSt) ⟨Nat.le_refl _, hjl, Nat.le_refl _, by simp, by simpa using ho2⟩ (by simp only; omega) ?_
        refine end1 (CS := []) 4 0 ?_ ?_ rfl (RnX.of_eq rfl) ?_ (hfree := rfl); all_goals repeat' first | exact trivial | refine And.intro ?_ ?_ | exact rn_int rfl | exact rn_list rfl | exact rn_row rfl ⟨rfl, rfl, rfl⟩ | exact rn_ptr rfl | exact rn_bool rfl | exact rn_agg rfl | exact rn_iptr rfl | exact rn_map rfl | exact rn_nrows rfl | exact rn_new rfl rfl rfl (by omega) | refine rn_int ?_ | refine rn_bool ?_ | refine rn_list ?_ | refine rn_row rfl ⟨?_, ?_, ?_⟩ | refine rn_nrow rfl ⟨rfl, ?_⟩ ?_ | refine rn_agg ?_ | exact Exists.intro _ ⟨rfl, RnB.cells (RnX.of_eq rfl), rfl⟩ | exact Exists.intro _ ⟨rfl, RnB.cells (RnX.of_eq (map_snoc rfl)), rfl⟩ | exact Exists.intro _ ⟨rfl, RnB.cells (RnX.of_eq (map_setc rfl)), rfl⟩ | exact Exists.intro _ ⟨rfl, RnB.cells (RnX.of_eq (map_inc rfl)), rfl⟩ | exact Exists.intro _ ⟨rfl, RnB.cells (RnX.of_eq (map_snocs rfl)), rfl⟩ | refine Exists.intro _ ⟨rfl, RnB.cells (RnX.cons (RnC.cons ?_ ?_ RnC.nil) RnX.nil), rfl⟩ | exact Exists.intro _ ⟨rfl, RnB.hole, rfl⟩ | refine Exists.intro _ ⟨rfl, rnm_of ?_, rfl⟩ | exact nrow_one | refine old_nbs ?_ rfl | refine old_nb ?_ ⟨?_, _, rfl, RnB.cells (RnX.of_eq (map_snoc rfl)), rfl⟩ | refine old_nb ?_ ⟨?_, _, rfl, RnB.cells (RnX.of_eq (map_snocs rfl)), rfl⟩ | refine old_nb ?_ ⟨?_, _, rfl, RnB.cells (RnX.of_eq (map_inc rfl)), rfl⟩ | refine old_nb ?_ ⟨?_, _, rfl, RnB.cells (RnX.of_eq rfl), rfl⟩ | rfl | (simp only []; omega) | (simp; done) | (simp; omega) | assumption
      · have hnp : 0 < n := by omega
        by_cases hnc : n = cs.length
        · subst n
          rw [List.take_length] at ho2
          dsimp only
          rw [nrow_pos (g := g) hnp, nb_pos (ys := cs.map spanR.cells) (by simpa using hnp)]
          refine wk ⟨?_⟩
          refine a_next (⟨j + 1, cs.length + 1, cs ++ [addS x y], g + 1, L⟩ : PlSt) ⟨by simp only; omega, hjl, by simp, by simp, by
            rw [← ho2]
            simp only
            rw [List.take_of_length_le (by simp)]⟩ (by simp only; omega) ?_
          exact wz
        · have hlt2 : n < cs.length := by omega
          dsimp only
          rw [nrow_pos (g := g) hnp, nb_pos (ys := cs.map spanR.cells) (by simp; omega)]
          refine wk ⟨?_⟩
          refine a_next (⟨j + 1, n + 1, cs.take n ++ addS x y :: cs.drop (n + 1), g, g⟩ : PlSt) ⟨Nat.le_refl _, hjl, by simp; omega, by simp, by
            rw [← ho2]
            simp only
            rw [List.take_append, List.length_take, Nat.min_eq_left hn, show n + 1 - n = 1 by omega, List.take_take, Nat.min_eq_right (by omega)]
            rfl⟩ (by simp only; omega) ?_
          exact wz
end Go.Proofs.YtofcjmjokokajaaGreat
namespace Go.Proofs.YtofcjmjokokajaaGreat
open Go.RowKit Go.Um Go.Proofs Go.Vm
attribute [local irreducible] Ev arun awp RetQ NextQ
set_option maxHeartbeats 4000000
theorem runsF_snoc (l : List Int) (n : Int) : runsF (l ++ [n]) = runStep (runsF l) n := by unfold runsF; rw [List.foldl_append]; rfl
theorem runs_len (l : List Int) : (runsF l).length ≤ l.length := by
  have := (foldRun_spec (l := l) (out := []) (fun s hs => by cases hs)).2.2
  simpa [runsF] using this
theorem runStep_in {out : List Span} {t : Span} {n : Int} {i : Nat} (hi : i + 1 = out.length) (ht : out[i]? = some t) : runStep out n = if t.hi = n - 1 then out.set i ⟨t.lo, n⟩ else out ++ [⟨n, n⟩] := by
  have hg : out.getLast? = some t := by rw [List.getLast?_eq_getElem?, ← ht]; congr 1; omega
  unfold runStep
  rw [hg]
  obtain ⟨ini, rfl⟩ := List.getLast?_eq_some_iff.1 hg
  simp at hi
  subst hi
  simp
structure TgSt where
  k : Nat
  n : Int
theorem together_v (l : List Part) (s : List Span) (hl : l.length ≤ 4) (hb : ∀ p ∈ l, bitsF p = true) (hsl : s.length ≤ 268435456) (hsy : symS s) : VPure Tryz.prog 280 [partR.L l, spanR.L s] (spanR.L (togF l s)) := by
  have hzs : ∀ z ∈ eachL (normF s), 0 ≤ z ∧ z ≤ 1114111 := fun z hz => hsy z (mem_normF.1 (mem_eachL.1 hz)).2
  have hNs : ∀ q ∈ normF s, 0 ≤ q.lo ∧ q.lo ≤ q.hi ∧ q.hi ≤ 1114111 := fun q hq => by
    have h1 := (plainFrom_ok (normF_plain s) q hq).1
    exact ⟨(hzs q.lo (mem_eachL.2 ⟨q, hq, Int.le_refl _, h1⟩)).1, h1, (hzs q.hi (mem_eachL.2 ⟨q, hq, h1, Int.le_refl _⟩)).2⟩
  have hit := each_iter (normF s) fun x hx => by have := hNs x hx; omega
  have hzl : (eachL (normF s)).length ≤ 1114112 := by
    have := eachL_len (plain_rise (normF_plain s) fun q hq => (hNs q hq).1) (M := 1114111) (fun q hq => (hNs q hq).2.2) (by omega)
    omega
  refine a_pure (n0 := 0) (hN := Tryz.ntmps280) (hf := Tryz.func280) ?_
  repeat' first | (show arun _ _ _ _ _ (⟨some _, _, _, _, _, none⟩ :: _) _ _ _; first | refine ar_s ?_ | refine ar_app_n (fun h => ?_) (fun h => ?_) | refine ar_app_nz (fun h => ?_) (fun h => ?_)) | (show arun _ _ _ _ _ (⟨_, _, _, _, _, some _⟩ :: _) _ _ _; first | refine ar_on ?_ | refine ar_off ?_ | refine ar_off2 ?_ | refine ar_split_t ?_ | refine ar_split_f ?_ | refine ar_split (fun h => ?_) (fun h => ?_)) | (show arun _ _ _ _ _ (⟨none, _, _, _, _, none⟩ :: _) _ _ _; refine ar_n ?_) | (show frun _ _ _ _ _ _ (⟨some _, _, _, _, _, none⟩ :: _) _ _ _; refine fr_s ?_) | (show frun _ _ _ _ _ _ (⟨none, _, _, _, _, none⟩ :: _) _ _ _; refine fr_n ?_) | (show grun _ _ _ _ _ _ _ (⟨some _, _, _, _, _, none⟩ :: _) _ _ _; refine gr_s ?_) | (show grun _ _ _ _ _ _ _ (⟨none, _, _, _, _, none⟩ :: _) _ _ _; refine gr_n ?_) | refine gr_nil ?_ | refine fr_nil ?_ | refine ar_nil ?_ | refine a_seq ?_ | refine a_block ?_ | refine a_region ?_ | refine a_drawn ?_ | refine a_skip ?_ | refine a_exit ?_ | refine a_ret ?_ | (show awp _ _ (.cond _ _ _) _ _ _ _; first | refine a_yes rfl ?_ | refine a_no rfl ?_ | refine a_dec_t ?_ | refine a_dec_f ?_ | refine a_dec rfl (fun h => ?_) (fun h => ?_))
  · obtain ⟨p, rfl⟩ := List.length_eq_one_iff.1 (show l.length = 1 by omega)
    have hI := image_v p s (by omega)
    refine wk ⟨?_⟩
    refine ar_pure hI ?_
    refine wk ⟨?_⟩
    exact ret_tmp (.inr rfl) rfl rfl (pk_list (by unfold togF; rw [if_pos (hb p (by simp))]))
  · have hF : togF l s = normF (runsF ((eachL (normF s)).map (sumP l))) := by
      unfold togF
      split
      · rename_i h
        simp at h
      · rfl
    rw [hF]
    clear hF
    refine ar_pure (each_v s (by omega)) ?_
    refine wk ⟨?_⟩
    generalize eachL (normF s) = zs at hzs hit hzl
    refine a_range (σ := TkSt) 1 (fun x => [(1, some (.cells 91 1 0 0 [[nrow 2 x.g x.out.length]])), (2, nb 90 2 x.g x.L (x.out.map spanR.cells))]) (fun k x => x.L ≤ x.g ∧ x.out = runsF ((zs.take k).map (sumP l))) ⟨[], 0, 0⟩ ⟨Nat.le_refl _, rfl⟩ hit (fun z hz => by obtain ⟨y, _, rfl⟩ := List.mem_map.1 hz; rfl) ?_ ?_
    · rintro k z ⟨out, gg, L⟩ hzk ⟨hLg, ho⟩
      simp only at hLg ho
      rw [List.getElem?_map] at hzk
      obtain ⟨y, hy, rfl⟩ := Option.map_eq_some_iff.1 hzk
      obtain ⟨b1, b2⟩ := hzs y (List.mem_of_getElem? hy)
      have hol : out.length ≤ 1114112 := by
        have := runs_len ((zs.take k).map (sumP l))
        rw [← ho, List.length_map, List.length_take] at this
        omega
      have hk : runsF ((zs.take (k + 1)).map (sumP l)) = runStep out (sumP l y) := by
        rw [take_at hy, List.map_append, List.map_singleton, runsF_snoc, ← ho]
      have hsb := sumP_bd hb y
      dsimp only
      refine wk ⟨?_⟩
      refine a_len 24 (f := partR.cells) (xs := l) rfl rfl fun hll => ?_
      refine a_loop (σ := TgSt) 0 [2, 5, 6, 24, 25] (fun x => [(7, V.int .i64 x.n), (26, V.int .i64 (x.k : Int))]) (fun _ => []) (fun x => x.k ≤ l.length ∧ x.n = sumP (l.take x.k) y) (fun x => l.length - x.k) ⟨0, 0⟩ ⟨Nat.zero_le _, rfl⟩ ?_
      rintro ⟨i, n⟩ ⟨hi, hn⟩
      simp only at hi hn
      obtain hx | ⟨p, hp, hil⟩ := range_cases hi
      · subst i
        rw [List.take_length] at hn
        dsimp only
        rw [← hn] at hk hsb
        clear hn
        clear ho
        by_cases hoz : out = []
        · subst out
          refine wk ⟨?_⟩
          refine ⟨(⟨[⟨n, n⟩], 0, 0⟩ : TkSt), ⟨Nat.le_refl _, by rw [hk]; rfl⟩, ?_⟩
          refine end1 (CS := [(1, some (.cells 91 1 0 0 [[nrow 2 0 1]]))]) 4 2 ?_ ?_ rfl (RnX.of_eq rfl) ?_ (hfree := rfl); all_goals repeat' first | exact trivial | refine And.intro ?_ ?_ | exact rn_int rfl | exact rn_list rfl | exact rn_row rfl ⟨rfl, rfl, rfl⟩ | exact rn_ptr rfl | exact rn_bool rfl | exact rn_agg rfl | exact rn_iptr rfl | exact rn_map rfl | exact rn_nrows rfl | exact rn_new rfl rfl rfl (by omega) | refine rn_int ?_ | refine rn_bool ?_ | refine rn_list ?_ | refine rn_row rfl ⟨?_, ?_, ?_⟩ | refine rn_nrow rfl ⟨rfl, ?_⟩ ?_ | refine rn_agg ?_ | exact Exists.intro _ ⟨rfl, RnB.cells (RnX.of_eq rfl), rfl⟩ | exact Exists.intro _ ⟨rfl, RnB.cells (RnX.of_eq (map_snoc rfl)), rfl⟩ | exact Exists.intro _ ⟨rfl, RnB.cells (RnX.of_eq (map_setc rfl)), rfl⟩ | exact Exists.intro _ ⟨rfl, RnB.cells (RnX.of_eq (map_inc rfl)), rfl⟩ | exact Exists.intro _ ⟨rfl, RnB.cells (RnX.of_eq (map_snocs rfl)), rfl⟩ | refine Exists.intro _ ⟨rfl, RnB.cells (RnX.cons (RnC.cons ?_ ?_ RnC.nil) RnX.nil), rfl⟩ | exact Exists.intro _ ⟨rfl, RnB.hole, rfl⟩ | refine Exists.intro _ ⟨rfl, rnm_of ?_, rfl⟩ | exact nrow_one | refine old_nbs ?_ rfl | refine old_nb ?_ ⟨?_, _, rfl, RnB.cells (RnX.of_eq (map_snoc rfl)), rfl⟩ | refine old_nb ?_ ⟨?_, _, rfl, RnB.cells (RnX.of_eq (map_snocs rfl)), rfl⟩ | refine old_nb ?_ ⟨?_, _, rfl, RnB.cells (RnX.of_eq (map_inc rfl)), rfl⟩ | refine old_nb ?_ ⟨?_, _, rfl, RnB.cells (RnX.of_eq rfl), rfl⟩ | rfl | (simp only []; omega) | (simp; done) | (simp; omega) | assumption
        · have hlp : 0 < out.length := List.length_pos_iff.2 hoz
          obtain ⟨t, ht⟩ : ∃ t, out[((out.length : Int) - 1).toNat]? = some t := ⟨_, List.getElem?_eq_getElem (by omega)⟩
          have hst := runStep_in (n := n) (by omega) ht
          rw [nrow_pos (g := gg) hlp, nb_pos (ys := out.map spanR.cells) (by simpa using hlp)]
          refine wk2 (fun h => ⟨?_⟩) (fun h => ⟨?_⟩)
          · refine ⟨(⟨out.set ((out.length : Int) - 1).toNat ⟨t.lo, n⟩, gg, gg⟩ : TkSt), ⟨Nat.le_refl _, by rw [hk, hst, if_pos (by assumption)]⟩, ?_⟩
            exact wz
          · refine ⟨(⟨out ++ [⟨n, n⟩], gg + 1, L⟩ : TkSt), ⟨by simp only; omega, by rw [hk, hst, if_neg (by assumption)]⟩, ?_⟩
            exact wz
      · have hpv := pvalue_v p y (hb p (List.mem_of_getElem? hp)) ⟨by omega, by omega⟩
        have hsum : sumP (l.take (i + 1)) y = n + valF p y := by rw [take_at hp, sumP_snoc, hn]
        have h1 := sumP_bd (l := l.take (i + 1)) (fun q hq => hb q (List.mem_of_mem_take hq)) y
        have h2 := sumP_bd (l := l.take i) (fun q hq => hb q (List.mem_of_mem_take hq)) y
        rw [← hn] at h2
        rw [hsum] at h1
        rw [List.length_take] at h1 h2
        dsimp only
        refine wk ⟨?_⟩
        refine ar_pure hpv ?_
        refine wk ⟨?_⟩
        refine a_next (⟨i + 1, n + valF p y⟩ : TgSt) ⟨hil, hsum.symm⟩ (by simp only; omega) ?_
        exact wz
    · rintro ⟨out, gg, L⟩ ⟨hLg, ho⟩
      rw [List.length_map, List.take_length] at ho
      simp only at hLg ho
      have hn := norm_v out (by
        have := runs_len (zs.map (sumP l))
        rw [← ho, List.length_map] at this
        omega)
      refine wk ⟨?_⟩
      refine ar_take [2] hn ?_ (hi := by simp only [List.all_cons, List.all_nil, Bool.and_true]; exact nb_some)
      refine wk ⟨?_⟩
      exact ret_tmp (.inr rfl) rfl rfl (pk_list (by rw [ho]))
end Go.Proofs.YtofcjmjokokajaaGreat
namespace Go.Vm
open Go.RowKit
theorem vfind_keys {a : Int} : ∀ {es : List (V × V)} {qs : List Int} {i0 : Nat}, es.map (·.1) = qs.map (V.int .i64) →
    (a ∉ qs → vfind (.int .i64) (.int .i64 a) es i0 = some none) ∧ ∀ i, qs.Nodup → qs[i]? = some a → vfind (.int .i64) (.int .i64 a) es i0 = some (some (i0 + i))
  | [], [], i0, _ => ⟨fun _ => rfl, fun i _ h => by simp at h⟩
  | [], _ :: _, _, h => by simp at h
  | _ :: _, [], _, h => by simp at h
  | e :: es, q :: qs, i0, h => by
    simp only [List.map_cons, List.cons.injEq] at h
    obtain ⟨ih1, ih2⟩ := vfind_keys (a := a) (i0 := i0 + 1) h.2
    obtain ⟨k, v⟩ := e
    obtain ⟨rfl, h2⟩ := h
    refine ⟨fun hn => ?_, fun i hnd hi => ?_⟩
    · simp only [List.mem_cons, not_or] at hn
      have hb : (a == q) = false := by simpa using hn.1
      simp only [vfind, veq, if_true, hb]
      exact ih1 hn.2
    · cases i with
      | zero =>
        simp only [List.getElem?_cons_zero, Option.some.injEq] at hi
        subst hi
        simp [vfind, veq]
      | succ i =>
        simp only [List.getElem?_cons_succ] at hi
        rw [List.nodup_cons] at hnd
        have hb : (a == q) = false := by
          have := List.mem_of_getElem? hi
          simp only [beq_eq_false_iff_ne, ne_eq]
          rintro rfl
          exact hnd.1 this
        simp only [vfind, veq, if_true, hb]
        rw [ih2 i hnd.2 hi]
        congr 2
        omega
section
variable {P : Program} {E : AEnv} {S : ASt} {n : Nat} {t kt et : TypeId} {sz by' sz2 by2 sz3 by3 : Nat} {ag ag2 ag3 : Bool} {z z2 : Option V} {x y v : Operand} {id : Nat} {es : List (V × V)} {qs : List Int} {a : Int}
theorem ev_makemap [h : TyI P t ⟨.map kt et, sz, by', ag, z⟩] : Ev P E S n (.makeMap t none) (.map n) ((n, some (.map kt [])) :: S) (n + 1) := ⟨[(n, .map kt [])], by simp only [vop, tk_eq (h := h)], upd_one _ _⟩
theorem ev_lookup [h : TyI P t ⟨.map kt et, sz, by', ag, z⟩] [h2 : TyI P kt ⟨.int .i64, sz2, by2, ag2, z2⟩] {kt' : TypeId} (i : Nat) {e : V × V} (hx : aev E x = .map id := by rfl) (hy : aev E y = .int .i64 a := by rfl) (hs : slk S id = some (.map kt' es) := by rfl) (hk : es.map (·.1) = qs.map (V.int .i64)) (hn : qs.Nodup) (hi : qs[i]? = some a) (he : es[i]? = some e := by rfl) : Ev P E S n (.lookup t x y false) e.2 S n := ⟨[], by
  have := (vfind_keys (a := a) (i0 := 0) hk).2 i hn hi
  rw [Nat.zero_add] at this
  simp only [vop, vlookup, hx, hy, tk_eq (h := h), tk_eq (h := h2), plainKey, if_true, hs, this, he, Option.map_some]
  rfl, rfl⟩
theorem ev_lookup_no {ek : TK} {zz : V} [h : TyI P t ⟨.map kt et, sz, by', ag, z⟩] [h2 : TyI P kt ⟨.int .i64, sz2, by2, ag2, z2⟩] [h3 : TyI P et ⟨ek, sz3, by3, ag3, some zz⟩] {kt' : TypeId} (hx : aev E x = .map id := by rfl) (hy : aev E y = .int .i64 a := by rfl) (hs : slk S id = some (.map kt' es) := by rfl) (hk : es.map (·.1) = qs.map (V.int .i64)) (hi : a ∉ qs) : Ev P E S n (.lookup t x y false) zz S n := ⟨[], by
  have := (vfind_keys (a := a) (i0 := 0) hk).1 hi
  simp only [vop, vlookup, hx, hy, tk_eq (h := h), tk_eq (h := h2), plainKey, if_true, hs, this, h3.eq, Option.bind_some, Option.map_some]
  rfl, rfl⟩
theorem ev_mapset {kt' : TypeId} {u : V} [h : TyI P t ⟨.map kt et, sz, by', ag, z⟩] [h2 : TyI P kt ⟨.int .i64, sz2, by2, ag2, z2⟩] (i : Nat) (hx : aev E x = .map id := by rfl) (hy : aev E y = .int .i64 a := by rfl) (hv : aev E v = u := by rfl) (hs : slk S id = some (.map kt' es) := by rfl) (hk : es.map (·.1) = qs.map (V.int .i64)) (hn : qs.Nodup) (hi : qs[i]? = some a) : Ev P E S n (.mapUpdate t x y v) (.tuple []) ((id, some (.map kt' (es.set i (.int .i64 a, u)))) :: S) n := ⟨[(id, .map kt' (es.set i (.int .i64 a, u)))], by
  have := (vfind_keys (a := a) (i0 := 0) hk).2 i hn hi
  rw [Nat.zero_add] at this
  simp only [vop, vupdate, hx, hy, hv, tk_eq (h := h), tk_eq (h := h2), plainKey, if_true, hs, this, Option.map_some], upd_one _ _⟩
theorem ev_mapnew {kt' : TypeId} {u : V} [h : TyI P t ⟨.map kt et, sz, by', ag, z⟩] [h2 : TyI P kt ⟨.int .i64, sz2, by2, ag2, z2⟩] (hx : aev E x = .map id := by rfl) (hy : aev E y = .int .i64 a := by rfl) (hv : aev E v = u := by rfl) (hs : slk S id = some (.map kt' es) := by rfl) (hk : es.map (·.1) = qs.map (V.int .i64)) (hi : a ∉ qs) : Ev P E S n (.mapUpdate t x y v) (.tuple []) ((id, some (.map kt' (es ++ [(.int .i64 a, u)]))) :: S) n := ⟨[(id, .map kt' (es ++ [(.int .i64 a, u)]))], by
  have := (vfind_keys (a := a) (i0 := 0) hk).1 hi
  simp only [vop, vupdate, hx, hy, hv, tk_eq (h := h), tk_eq (h := h2), plainKey, if_true, hs, this, Option.map_some], upd_one _ _⟩
end
end Go.Vm
namespace Go.Proofs.YtofcjmjokokajaaGreat
open Go.RowKit Go.Um Go.Proofs Go.Vm
attribute [local irreducible] Ev arun awp RetQ NextQ
set_option maxHeartbeats 4000000
structure PR where
  cs : List Part
  g : Nat
  L : Nat
structure VsSt where
  k : Nat
  qs : List Int
  pg : Nat
  pL : Nat
  rs : List PR
def rowB : Option PR → Option Blk
  | some r => some (.cells 87 4 r.g r.L (r.cs.map partR.cells))
  | none => some .hole
def ents : Nat → List Int → List PR → List (V × V)
  | j, q :: qs, r :: rs => (.int .i64 q, .row j r.g 0 r.cs.length) :: ents (j + 1) qs rs
  | _, _, _ => []
def Vok (ps : List Part) (x : VsSt) : Prop := x.pL ≤ x.pg ∧ x.k ≤ ps.length ∧ x.qs = placesF (ps.take x.k) ∧ x.qs.length = x.rs.length ∧ x.qs.length ≤ x.k ∧ ∀ (i : Nat) (q : Int) (r : PR), x.qs[i]? = some q → x.rs[i]? = some r → r.cs = ofAt (ps.take x.k) q ∧ 0 < r.cs.length ∧ r.L ≤ r.g
theorem ofAt_next {ps : List Part} {k : Nat} {p : Part} (hp : ps[k]? = some p) (q : Int) : ofAt (ps.take (k + 1)) q = ofAt (ps.take k) q ++ if p.at_ = q then [p] else [] := by
  rw [take_at hp]
  unfold ofAt
  rw [List.filter_append, List.filter_cons]
  by_cases h : p.at_ = q <;> simp [h]
theorem places_next {ps : List Part} {k : Nat} {p : Part} (hp : ps[k]? = some p) : placesF (ps.take (k + 1)) = placeStep (placesF (ps.take k)) p := by
  rw [take_at hp, placesF, List.foldl_append]
  rfl
theorem Vok.found {ps : List Part} {k pg pL : Nat} {qs : List Int} {rs : List PR} (h : Vok ps ⟨k, qs, pg, pL, rs⟩) {p : Part} (hp : ps[k]? = some p) {j : Nat} {r : PR} (hq : qs[j]? = some p.at_) (hr : rs[j]? = some r) : Vok ps ⟨k + 1, qs, pg, pL, rs.set j ⟨r.cs ++ [p], r.g + 1, r.L⟩⟩ := by
  obtain ⟨h1, h2, h3, h4, h5, h6⟩ := h
  simp only at h1 h2 h3 h4 h5 h6
  have hlt := (List.getElem?_eq_some_iff.1 hp).1
  have hnd : qs.Nodup := h3 ▸ places_nodup _
  refine ⟨h1, hlt, ?_, by simpa using h4, by simp only; omega, fun i q r' hi hr' => ?_⟩
  · rw [places_next hp, ← h3, placeStep, if_pos (List.mem_of_getElem? hq)]
  · simp only at hi hr'
    rw [ofAt_next hp]
    by_cases hij : i = j
    · subst hij
      have hlt2 : i < rs.length := (List.getElem?_eq_some_iff.1 hr).1
      rw [List.getElem?_set_self hlt2] at hr'
      cases hr'
      rw [hq] at hi
      cases hi
      obtain ⟨q1, q2, q3⟩ := h6 i _ r hq hr
      rw [if_pos rfl, ← q1]
      exact ⟨rfl, by simp, by simp only; omega⟩
    · rw [List.getElem?_set_ne (fun h => hij h.symm)] at hr'
      obtain ⟨q1, q2, q3⟩ := h6 i q r' hi hr'
      have hne : ¬ p.at_ = q := by
        rintro rfl
        exact hij ((List.getElem?_inj (List.getElem?_eq_some_iff.1 hi).1 hnd).1 (hi.trans hq.symm))
      rw [if_neg hne, List.append_nil]
      exact ⟨q1, q2, q3⟩
theorem Vok.new {ps : List Part} {k pg pL pg2 pL2 : Nat} {qs : List Int} {rs : List PR} (h : Vok ps ⟨k, qs, pg, pL, rs⟩) {p : Part} (hp : ps[k]? = some p) (hq : p.at_ ∉ qs) (h2 : pL2 ≤ pg2) : Vok ps ⟨k + 1, qs ++ [p.at_], pg2, pL2, rs ++ [⟨[p], 0, 0⟩]⟩ := by
  obtain ⟨h1, _, h3, h4, h5, h6⟩ := h
  simp only at h1 h3 h4 h5 h6
  have hlt := (List.getElem?_eq_some_iff.1 hp).1
  refine ⟨h2, hlt, ?_, by simpa using h4, by simp; omega, fun i q r' hi hr' => ?_⟩
  · rw [places_next hp, ← h3, placeStep, if_neg hq]
  · simp only at hi hr'
    rw [ofAt_next hp]
    by_cases hil : i < qs.length
    · rw [List.getElem?_append_left hil] at hi
      rw [List.getElem?_append_left (by omega)] at hr'
      obtain ⟨q1, q2, q3⟩ := h6 i q r' hi hr'
      have hne : ¬ p.at_ = q := by
        rintro rfl
        exact hq (List.mem_of_getElem? hi)
      rw [if_neg hne, List.append_nil]
      exact ⟨q1, q2, q3⟩
    · have hie : i = qs.length := by
        have := (List.getElem?_eq_some_iff.1 hi).1
        simp at this
        omega
      subst hie
      rw [List.getElem?_append_right (Nat.le_refl _), Nat.sub_self] at hi
      rw [h4, List.getElem?_append_right (Nat.le_refl _), Nat.sub_self] at hr'
      simp only [List.getElem?_cons_zero, Option.some.injEq] at hi hr'
      subst hi hr'
      have : ofAt (ps.take k) p.at_ = [] := by
        unfold ofAt
        rw [List.filter_eq_nil_iff]
        intro a ha
        have : ¬ a.at_ = p.at_ := fun e => hq (by rw [h3, mem_placesF]; exact ⟨a, ha, e⟩)
        simpa using this
      rw [this, if_pos rfl]
      exact ⟨rfl, by simp, Nat.le_refl _⟩
end Go.Proofs.YtofcjmjokokajaaGreat
