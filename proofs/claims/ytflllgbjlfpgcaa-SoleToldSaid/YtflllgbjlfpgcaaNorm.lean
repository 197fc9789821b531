/-
  A row of spans that is read and written over at once, from its beginning on: what Norm's last loop keeps. No program is named here.
-/
import Derived.Test.YtflllgbjlfpgcaaSort
namespace Go.Um
open Go.RowKit

/-- outs lies at the row's beginning, ys from place i on where it lay. -/
def RowG (w : World) (e : TypeId) (g cap : Nat) (outs ys : List Span) (i : Nat) : Prop :=
  ∃ cur : Array Value, w.heap[g]? = some (.cells cur e (0, 0)) ∧ cur.size = cap * 2 ∧ outs.length ≤ i ∧ (∀ (j : Nat) (x : Span), outs[j]? = some x → cur[j * 2]? = some (.int .i64 x.lo) ∧ cur[j * 2 + 1]? = some (.int .i64 x.hi)) ∧
    ∀ (j : Nat) (x : Span), i ≤ j → ys[j]? = some x → cur[j * 2]? = some (.int .i64 x.lo) ∧ cur[j * 2 + 1]? = some (.int .i64 x.hi)

section
variable {w w' : World} {e : TypeId} {g cap : Nat} {outs ys : List Span} {i : Nat}
theorem RowG.keep (h : RowG w e g cap outs ys i) (hw : w'.heap[g]? = w.heap[g]?) : RowG w' e g cap outs ys i := by
  obtain ⟨cur, h1, h2⟩ := h
  exact ⟨cur, hw.trans h1, h2⟩
theorem RowG.lt (h : RowG w e g cap outs ys i) : g < w.heap.size := by
  obtain ⟨cur, h1, _⟩ := h
  exact (Array.getElem?_eq_some_iff.1 h1).1
theorem RowG.alloc (h : RowG w e g cap outs ys i) (o : Obj) : RowG (w.alloc o) e g cap outs ys i := h.keep (Below.heap_alloc w o g h.lt)
theorem RowG.out_cell (h : RowG w e g cap outs ys i) {j : Nat} {x : Span} (hx : outs[j]? = some x) : w.cell? ⟨g, j * 2, none⟩ = some (.int .i64 x.lo) ∧ w.cell? ⟨g, j * 2 + 1, none⟩ = some (.int .i64 x.hi) := by
  obtain ⟨cur, h1, h2, h3, h4, h5⟩ := h
  have := h4 j x hx
  exact ⟨(cell_of_row w g _ cur e (0, 0) h1).trans this.1, (cell_of_row w g _ cur e (0, 0) h1).trans this.2⟩
theorem RowG.in_cell (h : RowG w e g cap outs ys i) {j : Nat} {x : Span} (hj : i ≤ j) (hx : ys[j]? = some x) : w.cell? ⟨g, j * 2, none⟩ = some (.int .i64 x.lo) ∧ w.cell? ⟨g, j * 2 + 1, none⟩ = some (.int .i64 x.hi) := by
  obtain ⟨cur, h1, h2, h3, h4, h5⟩ := h
  have := h5 j x hj hx
  exact ⟨(cell_of_row w g _ cur e (0, 0) h1).trans this.1, (cell_of_row w g _ cur e (0, 0) h1).trans this.2⟩
theorem RowG.frozen (h : RowG w e g cap outs ys i) (j : Nat) : w.frozen? ⟨g, j, none⟩ = false := by
  obtain ⟨cur, h1, _⟩ := h
  simp [World.frozen?, h1]
theorem RowG.next (h : RowG w e g cap outs ys i) : RowG w e g cap outs ys (i + 1) := by
  obtain ⟨cur, h1, h2, h3, h4, h5⟩ := h
  exact ⟨cur, h1, h2, by omega, h4, fun j x hj hx => h5 j x (by omega) hx⟩
/-- the last one's Hi is written. -/
theorem RowG.store {ini : List Span} {t : Span} (h : RowG w e g cap (ini ++ [t]) ys i) (hi : Int) : RowG (w.setCell ⟨g, ini.length * 2 + 1, none⟩ (.int .i64 hi)) e g cap (ini ++ [⟨t.lo, hi⟩]) ys i := by
  obtain ⟨cur, h1, h2, h3, h4, h5⟩ := h
  refine ⟨cur.setIfInBounds (ini.length * 2 + 1) (.int .i64 hi), ?_, by simpa using h2, by simpa using h3, fun j x hx => ?_, fun j x hj hx => ?_⟩
  · simp [World.setCell, Array.getElem?_modify, h1]
  · by_cases hj : j = ini.length
    · subst hj
      simp at hx
      subst hx
      have h6 := h4 ini.length t (by simp)
      refine ⟨by rw [Array.getElem?_setIfInBounds_ne (by omega)]; exact h6.1, ?_⟩
      have hlt : ini.length * 2 + 1 < cur.size := (Array.getElem?_eq_some_iff.1 h6.2).1
      simp [hlt]
    · have hlt : j < ini.length := by
        have := (List.getElem?_eq_some_iff.1 hx).1
        simp at this
        omega
      have h6 := h4 j x (by rw [List.getElem?_append_left hlt] at hx ⊢; exact hx)
      exact ⟨by rw [Array.getElem?_setIfInBounds_ne (by omega)]; exact h6.1, by rw [Array.getElem?_setIfInBounds_ne (by omega)]; exact h6.2⟩
  · have h6 := h5 j x hj hx
    simp at h3
    exact ⟨by rw [Array.getElem?_setIfInBounds_ne (by omega)]; exact h6.1, by rw [Array.getElem?_setIfInBounds_ne (by omega)]; exact h6.2⟩
/-- one more lies behind the last one. -/
theorem RowG.push (h : RowG w e g cap outs ys i) (x : Span) {cur : Array Value} (hc : w.heap[g]? = some (.cells cur e (0, 0))) (hl : outs.length < cap)
    (hw : w'.heap[g]? = some (.cells (cur.toList.take (outs.length * 2) ++ [Value.int .i64 x.lo, Value.int .i64 x.hi] ++ cur.toList.drop (outs.length * 2 + 2)).toArray e (0, 0))) : RowG w' e g cap (outs ++ [x]) ys (i + 1) := by
  obtain ⟨cur', h1, h2, h3, h4, h5⟩ := h
  rw [hc] at h1
  obtain rfl : cur = cur' := by injection h1 with h1; injection h1
  have hsz : outs.length * 2 + 2 ≤ cur.size := by omega
  have hin : ∀ k, k < outs.length * 2 → (cur.toList.take (outs.length * 2) ++ [Value.int .i64 x.lo, Value.int .i64 x.hi] ++ cur.toList.drop (outs.length * 2 + 2)).toArray[k]? = cur[k]? := by
    intro k hk
    rw [List.getElem?_toArray, List.append_assoc, List.getElem?_append_left (by simp; omega), List.getElem?_take_of_lt hk, Array.getElem?_toList]
  have hout : ∀ k, outs.length * 2 + 2 ≤ k → (cur.toList.take (outs.length * 2) ++ [Value.int .i64 x.lo, Value.int .i64 x.hi] ++ cur.toList.drop (outs.length * 2 + 2)).toArray[k]? = cur[k]? := by
    intro k hk
    have hlen : (cur.toList.take (outs.length * 2) ++ [Value.int .i64 x.lo, Value.int .i64 x.hi]).length = outs.length * 2 + 2 := by simp; omega
    rw [List.getElem?_toArray, List.getElem?_append_right (by omega), hlen, List.getElem?_drop, Array.getElem?_toList]
    congr 1
    omega
  have hmid : ∀ k u, [Value.int .i64 x.lo, Value.int .i64 x.hi][k]? = some u → (cur.toList.take (outs.length * 2) ++ [Value.int .i64 x.lo, Value.int .i64 x.hi] ++ cur.toList.drop (outs.length * 2 + 2)).toArray[outs.length * 2 + k]? = some u := by
    intro k u hk
    have hlen : (cur.toList.take (outs.length * 2)).length = outs.length * 2 := by simp; omega
    have hk2 := (List.getElem?_eq_some_iff.1 hk).1
    rw [List.getElem?_toArray, List.append_assoc, List.getElem?_append_right (by omega), hlen, List.getElem?_append_left (by omega), Nat.add_sub_cancel_left]
    exact hk
  refine ⟨_, hw, ?_, by simp; omega, fun j y hy => ?_, fun j y hj hy => ?_⟩
  · simp; omega
  · by_cases hj : j = outs.length
    · subst hj
      simp at hy
      subst hy
      exact ⟨by have := hmid 0 _ rfl; simpa using this, hmid 1 _ rfl⟩
    · have hlt : j < outs.length := by
        have := (List.getElem?_eq_some_iff.1 hy).1
        simp at this
        omega
      have h6 := h4 j y (by rw [List.getElem?_append_left hlt] at hy; exact hy)
      exact ⟨(hin _ (by omega)).trans h6.1, (hin _ (by omega)).trans h6.2⟩
  · have h6 := h5 j y (by omega) hy
    exact ⟨(hout _ (by omega)).trans h6.1, (hout _ (by omega)).trans h6.2⟩
theorem RowG.own {base : Nat} (h : RowG w e g cap outs ys i) (hb : base ≤ g) (hl : outs.length ≤ cap) (hm : cap ≤ maxLen) (hx : ∀ x ∈ outs, x.ok) : OwnS e w base (.slice (some ⟨g, 0, none⟩) outs.length cap) outs := by
  obtain ⟨cur, h1, h2, h3, h4, h5⟩ := h
  refine ⟨⟨length_cells outs, .inr ⟨g, cap, cur, rfl, hb, h1, hl, hm, h2, ?_⟩⟩, hx⟩
  clear h1 h3 h5 hx
  have hle : outs.length * 2 ≤ cur.toList.length := by simp only [Array.length_toList, h2]; exact Nat.mul_le_mul_right 2 hl
  refine List.ext_getElem (by rw [List.length_take, length_cells]; omega) fun k k1 k2 => ?_
  rw [length_cells] at k2
  have hj : k / 2 < outs.length := by omega
  obtain ⟨x, hx⟩ := at_lt hj
  have h6 := h4 (k / 2) x hx
  have key : ∀ (l : List Span) (q : Nat) (y : Span), l[q]? = some y → (l.flatMap Span.cells)[q * 2]? = some (.int .i64 y.lo) ∧ (l.flatMap Span.cells)[q * 2 + 1]? = some (.int .i64 y.hi) := by
    intro l
    induction l with
    | nil => intro q y hq; simp at hq
    | cons a r ih =>
      intro q y hq
      rw [List.flatMap_cons]
      cases q with
      | zero => simp at hq; subst hq; exact ⟨rfl, rfl⟩
      | succ q =>
        have := ih q y (by simpa using hq)
        have e1 : (q + 1) * 2 = q * 2 + 2 := by omega
        rw [e1]
        simpa [Span.cells] using this
  have h7 := key outs (k / 2) x hx
  apply Option.some.inj
  rw [← List.getElem?_eq_getElem, ← List.getElem?_eq_getElem, List.getElem?_take_of_lt k2, Array.getElem?_toList]
  rcases Nat.mod_two_eq_zero_or_one k with hk | hk
  · have e1 : k / 2 * 2 = k := by omega
    rw [e1] at h6 h7
    rw [h6.1, h7.1]
  · have e1 : k / 2 * 2 + 1 = k := by omega
    rw [e1] at h6 h7
    rw [h6.2, h7.2]
theorem RowG.start {base : Nat} (h : OwnS e w base (.slice (some ⟨g, 0, none⟩) ys.length cap) ys) : RowG w e g cap [] ys 0 := by
  rcases h.1.2 with ⟨h0, _⟩ | ⟨g', cap', cur, hv, hb, hg, hn, hc, hs, ht⟩
  · cases h0
  · cases hv
    refine ⟨cur, hg, hs, Nat.le_refl _, fun j x hx => by simp at hx, fun j x _ hx => ?_⟩
    have hj := (List.getElem?_eq_some_iff.1 hx).1
    have key := list_at (r := spanR) h.rel hx
    obtain ⟨b, o, ds, h1, h2, ⟨rfl, h4, h5⟩, h7⟩ := key
    cases h1
    have k0 := h7 0 _ rfl
    have k1 := h7 1 _ rfl
    have hw2 : spanR.width = 2 := rfl
    rw [hw2, cell_of_row w g _ cur e (0, 0) hg] at k0 k1
    simp only [Nat.zero_add, Nat.add_zero] at k0 k1
    exact ⟨k0, k1⟩
end

theorem RowG.row {w : World} {e : TypeId} {g cap i : Nat} {outs ys : List Span} (h : RowG w e g cap outs ys i) : ∃ cur : Array Value, w.heap[g]? = some (.cells cur e (0, 0)) ∧ cur.size = cap * 2 := by
  obtain ⟨cur, h1, h2, _⟩ := h
  exact ⟨cur, h1, h2⟩
theorem okS_snoc {l : List Span} {x : Span} (h : ∀ y ∈ l, okS y) (hx : okS x) : ∀ y ∈ l ++ [x], okS y := by
  intro y hy
  rcases List.mem_append.1 hy with hy | hy
  · exact h y hy
  · simp at hy; subst hy; exact hx
theorem joinStep_nil (x : Span) : joinStep [] x = [x] := rfl
theorem joinStep_yes {ini : List Span} {t x : Span} (h : x.lo ≤ t.hi + 1) : joinStep (ini ++ [t]) x = ini ++ [⟨t.lo, max t.hi x.hi⟩] := by simp [joinStep, h]
theorem joinStep_no {ini : List Span} {t x : Span} (h : ¬ x.lo ≤ t.hi + 1) : joinStep (ini ++ [t]) x = (ini ++ [t]) ++ [x] := by simp [joinStep, h]
/-- an append for which there is room, to the cell. -/
theorem wpList_append_here {P : Program} (w : World) {ops : Array Oper} {rest : List Oper} {o : Oper} {a : Act} {Q : Exit → Act → World → Prop} (hgd : o.guard = none) (s x : Operand) (t : TypeId)
    (ho : o.op = .call { callee := .builtin .append, args := #[s, x], argTypes := #[t, t] }) (e : TypeId) (i : TypeInfo) (ht : P.underlying t = some (.slice e)) (hi : P.info? e = some i)
    (g n cap : Nat) (cur : Array Value) (hs : a.eval s = .slice (some ⟨g, 0, none⟩) n cap) (hg : w.heap[g]? = some (.cells cur e (0, 0)))
    (ad : Addr) (m c : Nat) (news : List Value) (hx : a.eval x = .slice (some ad) m c) (hl : news.length = m * i.size) (hnews : ∀ j u, news[j]? = some u → w.cell? (ad.add j) = some u) (h1 : ∀ u ∈ news, u.oneCell' = true)
    (hroom : n + m ≤ cap) (hfit : n * i.size + news.length ≤ cur.size)
    (h : ∀ w', w'.heap[g]? = some (.cells (cur.toList.take (n * i.size) ++ news ++ cur.toList.drop (n * i.size + news.length)).toArray e (0, 0)) → w.grownBy w' (some g) → wpList P ops Q rest (a.put o.dst (.slice (some ⟨g, 0, none⟩) (n + m) cap)) w') : wpList P ops Q (o :: rest) a w := by
  refine wpList_plain hgd fun K hK => ?_
  have hrun := run_append_room (P := P) w t o.type e i ht hi g n cap cur hg ad m c news hl hnews h1 hroom hfit
  unfold Oper.wp
  simp only [execOp, ho, resolve, invoke, builtin, Sem.run_bind, Sem.run_pure, Result.andThen_ok, List.map_toArray, List.map_cons, List.map_nil, hs, hx, hrun]
  exact hK _ _ (h _ (setRow_heap w g cur _ e _ hg) ⟨rfl, rfl, rfl, by simp, fun k _ hk => setRow_other w g k _ (fun e => hk (by simp [e]))⟩)
end Go.Um
