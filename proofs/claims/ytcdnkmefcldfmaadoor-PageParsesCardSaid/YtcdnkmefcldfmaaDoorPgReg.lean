/-
  A region that draws its order: whatever yields the same in every world of a class is taken first, many at a time, in an order of one's own; what acts is then alone. No program is named here.
-/
import Derived.Test.YtcdnkmefcldfmaaDoorMem
namespace Go.Um
open Go.RowKit

section
variable {P : Program} {md : Region.Mode} {ops : Array Oper} {Q : Exit → Act → World → Prop} {S : World → Prop} {last : Nat}

/-- Whatever order is picked from here on; S holds behind each operation, but perhaps behind the one that is last. -/
def anyL (P : Program) (md : Region.Mode) (ops : Array Oper) (Q : Exit → Act → World → Prop) (S : World → Prop) (last : Nat) : Nat → Array Bool → Act → World → Prop
  | 0, listed, a, w => Region.ready md ops listed = [] ∧ Q .normal a w
  | f + 1, listed, a, w => (Region.ready md ops listed = [] → Q .normal a w) ∧
      ∀ i ∈ Region.ready md ops listed, wpOp P ops Q i (fun a' w' => (i ≠ last → S w') ∧ anyL P md ops Q S last f (listed.setIfInBounds i true) a' w') a w

theorem any_of_anyL : ∀ (f : Nat) (listed : Array Bool) (a : Act) (w : World), anyL P md ops Q S last f listed a w → wpAny P md ops Q f listed a w
  | 0, _, _, _, h => h
  | f + 1, _, _, _, h => ⟨h.1, fun i hi => wpOp_mono (fun a' w' h' => any_of_anyL f _ a' w' h'.2) (h.2 i hi)⟩

/-- what is last waits for number i: by itself, or for one that has not come up and waits for it. -/
def LastWaits (md : Region.Mode) (ops : Array Oper) (last i : Nat) (listed : Array Bool) : Prop :=
  ∀ ol, ops[last]? = some ol → ∃ e ∈ ol.after, Region.binds md e = true ∧ (e.on = i ∨ (listed.getD e.on false = false ∧ ∃ ok, ops[e.on]? = some ok ∧ ∃ e' ∈ ok.after, Region.binds md e' = true ∧ e'.on = i))

theorem anyL_first {i : Nat} {oi : Oper} {v : Value} (hi : ops[i]? = some oi) (hsel : ∀ (j : Nat) (o : Oper) (cs : Array SelectCase) (b : Bool), ops[j]? = some o → o.op ≠ .select cs b)
    (hQ : ∀ c a w, Q (.panic c) (a.put oi.dst v) w → Q (.panic c) a w) (hil : i ≠ last) :
    ∀ (f : Nat) (listed : Array Bool) (a : Act) (w : World),
      (∀ j oj, ops[j]? = some oj → j ≠ i → listed.getD j true = false → (∀ e ∈ oj.after, Region.binds md e = true → e.on ≠ i) → oi.apart ops oj = true) →
      LastWaits md ops last i listed → i ∈ Region.ready md ops listed → YieldsIf P ops S oi v a → S w →
      anyL P md ops Q S last f (listed.setIfInBounds i true) (a.put oi.dst v) w → anyL P md ops Q S last (f + 1) listed a w := by
  intro f
  induction f with
  | zero =>
    intro listed a w _ _ hr hy hS H
    refine ⟨fun h => (by rw [h] at hr; cases hr), fun j hj => ?_⟩
    by_cases hji : j = i
    · subst hji; exact hy.wpOp hi hS ⟨fun _ => hS, H⟩
    · have := ready_mono hj hji
      rw [H.1] at this
      cases this
  | succ f ih =>
    intro listed a w hfree hlw hr hy hS H
    refine ⟨fun h => (by rw [h] at hr; cases hr), fun j hj => ?_⟩
    by_cases hji : j = i
    · subst hji; exact hy.wpOp hi hS ⟨fun _ => hS, H⟩
    · have h1 := H.2 j (ready_mono hj hji)
      obtain ⟨hjun, oj, hoj, hall⟩ := mem_ready.1 hj
      have hnot : ∀ e ∈ oj.after, Region.binds md e = true → e.on ≠ i := fun e he hb heq => by
        have g1 := hall e he hb
        have g0 := (mem_ready.1 hr).1
        rw [heq] at g1
        rcases Nat.lt_or_ge i listed.size with h' | h'
        · simp [h'] at g0 g1; rw [g0] at g1; cases g1
        · simp [Array.getElem?_eq_none h'] at g1
      have hjl : j ≠ last := fun hjl => by
        subst hjl
        obtain ⟨e, he, hb, hon | ⟨hun, _⟩⟩ := hlw oj hoj
        · exact hnot e he hb hon
        · rw [hall e he hb] at hun; cases hun
      have hlw' : LastWaits md ops last i (listed.setIfInBounds j true) := fun ol hol => by
        obtain ⟨e, he, hb, hon | ⟨hun, ok, hok, e', he', hb', hon'⟩⟩ := hlw ol hol
        · exact ⟨e, he, hb, .inl hon⟩
        · refine ⟨e, he, hb, .inr ⟨?_, ok, hok, e', he', hb', hon'⟩⟩
          have hne : j ≠ e.on := fun hje => by
            subst hje
            rw [hoj] at hok
            cases hok
            exact hnot e' he' hb' hon'
          rw [getD_set_ne false hne]; exact hun
      have h2 := wpOp_putIf hoj (hfree j oj hoj hji hjun hnot) (fun cs b => hsel i oi cs b hi) (fun cs b => hsel j oj cs b hoj) hQ hy h1
      have hfree' : ∀ k ok, ops[k]? = some ok → k ≠ i → (listed.setIfInBounds j true).getD k true = false →
          (∀ e ∈ ok.after, Region.binds md e = true → e.on ≠ i) → oi.apart ops ok = true := fun k ok hk hki hun hno => by
        refine hfree k ok hk hki ?_ hno
        by_cases hjk : j = k
        · subst hjk; exact hjun
        · rw [getD_set_ne true hjk] at hun; exact hun
      refine wpOp_mono (fun a' w' h3 => ⟨h3.2.1, ih (listed.setIfInBounds j true) a' w' hfree' hlw' (ready_mono hr (Ne.symm hji)) h3.1 (h3.2.1 hjl) ?_⟩) h2
      rw [Array.setIfInBounds_comm _ _ hji]
      exact h3.2.2

/-- an operation that hands back a value, or does not run. -/
def plainOp : Op → Bool
  | .move _ | .assign _ | .nilCheck .. | .pick .. | .build .. | .load .. | .binOp .. | .unOp .. | .convert .. | .slice .. | .fieldAddr .. | .field .. | .indexAddr .. | .index .. | .extract .. | .lookup .. => true
  | .call { callee := .builtin .len, .. } | .call { callee := .builtin .cap, .. } | .call { callee := .builtin .max, .. } | .call { callee := .builtin .min, .. } => true
  | _ => false

theorem value_of_bind {s : Sem Value} {w w' : World} {n : Next} (h : (do pure (Next.value (← s)) : Sem Next).run P w = .ok n w') : ∃ u, n = .value u := by
  rw [Sem.run_bind] at h
  cases hs : s.run P w with
  | ok u w'' =>
    rw [hs] at h
    simp only [Result.andThen_ok, Sem.run_pure] at h
    injection h with h1 h2
    exact ⟨u, h1.symm⟩
  | halt x w'' =>
    rw [hs] at h
    cases h

theorem plainOp_value {o : Oper} {ρ : Operand → Value} {w w' : World} {n : Next} (hp : plainOp o.op = true) (h : (execOp ρ o).run P w = .ok n w') : ∃ u, n = .value u := by
  obtain ⟨dst, op, ty, pos, after, guard⟩ := o
  cases op <;> simp only [plainOp, Bool.false_eq_true] at hp
  case call c =>
    obtain ⟨callee, args, argTypes⟩ := c
    cases callee with
    | builtin b =>
      cases b <;> simp only [Bool.false_eq_true] at hp <;>
        (simp only [execOp, resolve, Sem.run_bind, Sem.run_pure, Result.andThen_ok, invoke, builtin] at h
         exact value_of_bind (P := P) (w := w) (w' := w') (by rw [Sem.run_bind]; exact h))
    | value f => simp at hp
    | invoke r m => simp at hp
  case move x => simp only [execOp, Sem.run_pure] at h; injection h with h1 h2; exact ⟨_, h1.symm⟩
  case assign x => simp only [execOp, Sem.run_pure] at h; injection h with h1 h2; exact ⟨_, h1.symm⟩
  case pick c x y => exact value_of_bind (s := do pure (if ← asBool (ρ c) then ρ x else ρ y)) (by simpa [execOp, Sem.run_bind] using h)
  case nilCheck x =>
    have hpan : ∀ (w w' : World) (n : Next), (runtimePanic .nilDeref : Sem Next).run P w ≠ .ok n w' := by
      intro w w' n h
      simp [runtimePanic, goPanic, go_sem] at h
    simp only [execOp] at h
    split at h
    · exact absurd h (hpan _ _ _)
    · exact absurd h (hpan _ _ _)
    · exact absurd h (hpan _ _ _)
    · split at h
      · exact absurd h (hpan _ _ _)
      · rename_i t v hfi
        have h' := h
        rw [Sem.run_bind] at h'
        cases hp : Sem.run P program w with
        | halt q w2 => rw [hp] at h'; cases h'
        | ok a w2 =>
          rw [hp] at h'
          simp only [Result.andThen_ok] at h'
          rw [Sem.run_bind] at h'
          cases hq : Sem.run P (nilAhead (a.types.size + Made.depth) t v ‹String›) w2 with
          | halt q w3 => rw [hq] at h'; cases h'
          | ok c w3 =>
            rw [hq] at h'
            simp only [Result.andThen_ok] at h'
            split at h'
            · simp [unsupported, go_sem] at h'
            · simp only [Sem.run_pure] at h'; injection h' with h1 h2; exact ⟨_, h1.symm⟩
      · simp only [Sem.run_pure] at h; injection h with h1 h2; exact ⟨_, h1.symm⟩
    · simp only [Sem.run_pure] at h; injection h with h1 h2; exact ⟨_, h1.symm⟩
  all_goals exact value_of_bind h

/-- may these be taken first, one behind the other, in this order? -/
def batchB (md : Region.Mode) (ops : Array Oper) (last : Nat) (listed : Array Bool) : List Nat → Bool
  | [] => true
  | i :: r => (Region.ready md ops listed).contains i && Region.free md ops listed i && i != last &&
      (match ops[last]? with | some ol => ol.after.any (fun e => Region.binds md e && (e.on == i || (!listed.getD e.on false && (match ops[e.on]? with | some ok => ok.after.any (fun e' => Region.binds md e' && e'.on == i) | none => false)))) | none => true) &&
      (match ops[i]? with | some o => plainOp o.op | none => false) && batchB md ops last (listed.setIfInBounds i true) r
def marked (listed : Array Bool) (l : List Nat) : Array Bool := l.foldl (fun s i => s.setIfInBounds i true) listed

theorem put_panic (hQ : ∀ c (t u : Array Value) ds w, Q (.panic c) ⟨t, ds⟩ w → Q (.panic c) ⟨u, ds⟩ w) {c : List PanicEntry} {a : Act} {d : Option Tmp} {v : Value} {w : World} (h : Q (.panic c) (a.put d v) w) : Q (.panic c) a w := by
  cases d with
  | none => exact h
  | some d => exact hQ c _ _ _ w h
theorem anyL_batch (hs : Region.noSelect ops = true) (hQ : ∀ c (t u : Array Value) ds w, Q (.panic c) ⟨t, ds⟩ w → Q (.panic c) ⟨u, ds⟩ w) {w : World} (hS : S w) {f : Nat} :
    ∀ (l : List Nat) (lo : List Oper) (listed : Array Bool) (a : Act), l.map (ops[·]?) = lo.map some → batchB md ops last listed l = true →
      wpQuiet P ops S (fun a' => anyL P md ops Q S last f (marked listed l) a' w) lo a → anyL P md ops Q S last (f + l.length) listed a w := by
  intro l
  induction l with
  | nil =>
    intro lo listed a hlo _ h
    have : lo = [] := by cases lo <;> simp_all
    subst this
    exact h
  | cons i r ih =>
    intro lo listed a hlo hB h
    cases lo with
    | nil => simp at hlo
    | cons o lo =>
      simp only [List.map_cons, List.cons.injEq] at hlo
      obtain ⟨ho, hlo⟩ := hlo
      simp only [batchB, Bool.and_eq_true, bne_iff_ne] at hB
      obtain ⟨⟨⟨⟨⟨hr, hf⟩, hne⟩, hl⟩, hp⟩, hB⟩ := hB
      rw [ho] at hp
      simp only at hp
      have hl' : LastWaits md ops last i listed := by
        intro ol hol
        rw [hol] at hl
        obtain ⟨e, he, hb⟩ := Array.any_eq_true'.1 hl
        simp only [Bool.and_eq_true, Bool.or_eq_true, beq_iff_eq, Bool.not_eq_true'] at hb
        obtain ⟨hb1, hb2⟩ := hb
        refine ⟨e, he, hb1, ?_⟩
        rcases hb2 with hb2 | ⟨hb2, hb3⟩
        · exact .inl hb2
        · right
          refine ⟨hb2, ?_⟩
          cases hk : ops[e.on]? with
          | none => rw [hk] at hb3; cases hb3
          | some ok =>
            rw [hk] at hb3
            obtain ⟨e', he', hb'⟩ := Array.any_eq_true'.1 hb3
            simp only [Bool.and_eq_true, beq_iff_eq] at hb'
            exact ⟨ok, rfl, e', he', hb'⟩
      have key : ∃ v, YieldsIf P ops S o v a ∧ wpQuiet P ops S (fun a' => anyL P md ops Q S last f (marked listed (i :: r)) a' w) lo (a.put o.dst v) := by
        simp only [wpQuiet] at h
        split at h
        · rename_i hw
          obtain ⟨v, h1, h2⟩ := h
          refine ⟨v, .inl ⟨hw, fun w' hw' => ?_⟩, h2⟩
          have h3 := h1 w' hw'
          unfold Oper.quietAt at h3
          cases hrun : (execOp a.eval o).run P w' with
          | ok n w'' =>
            obtain ⟨u, rfl⟩ := plainOp_value hp hrun
            rw [hrun] at h3
            obtain ⟨rfl, rfl⟩ := h3
            rfl
          | halt x w'' =>
            rw [hrun] at h3
            exact h3.elim
        · rename_i hw
          exact ⟨undef, .inr ⟨by simpa using hw, rfl⟩, h⟩
      obtain ⟨v, hy, hrest⟩ := key
      have h4 := ih lo (listed.setIfInBounds i true) (a.put o.dst v) hlo hB hrest
      exact anyL_first ho (Region.noSelect_spec hs) (fun c a w h => put_panic hQ h) hne _ listed a w (Region.free_spec ho hf) hl' (by simpa using hr) hy hS h4

theorem range_picks (lo : List Oper) : ∀ (n k : Nat), k + n ≤ lo.length → (List.range' k n).map (lo.toArray[·]?) = ((lo.drop k).take n).map some := by
  intro n
  induction n with
  | zero => intro k _; simp
  | succ n ih =>
    intro k hk
    rw [List.range'_succ, List.map_cons, ih (k + 1) (by omega)]
    have hlt : k < lo.length := by omega
    rw [List.drop_eq_getElem_cons hlt, List.take_succ_cons, List.map_cons]
    congr 1
    simp [hlt]
/-- so many, one behind the other in the text, from number k on. -/
theorem anyL_seg {lo : List Oper} (k n : Nat) (hs : Region.noSelect lo.toArray = true) (hQ : ∀ c (t u : Array Value) ds w, Q (.panic c) ⟨t, ds⟩ w → Q (.panic c) ⟨u, ds⟩ w) {w : World} (hS : S w) {f F : Nat} {listed : Array Bool} {a : Act}
    (hF : F = f + n) (hk : Nat.ble (k + n) lo.length = true) (hB : batchB md lo.toArray last listed (List.range' k n) = true)
    (h : wpQuiet P lo.toArray S (fun a' => anyL P md lo.toArray Q S last f (marked listed (List.range' k n)) a' w) ((lo.drop k).take n) a) : anyL P md lo.toArray Q S last F listed a w := by
  subst hF
  have := anyL_batch (P := P) (md := md) (ops := lo.toArray) (Q := Q) (S := S) (last := last) hs hQ hS (f := f) (List.range' k n) ((lo.drop k).take n) listed a (range_picks lo n k (Nat.le_of_ble_eq_true hk)) hB h
  simpa using this

/-- the beginning. -/
theorem region_anyL {id : Nat} {a : Act} {w : World} (hm : P.follows .mixedOrders = true) (h : anyL P .any ops Q S last ops.size (Array.replicate ops.size false) a w.drew) : (Code.region id ops true).wp P Q a w :=
  wp_region_any hm (any_of_anyL _ _ _ _ h)

/-- what alone may come up now. -/
theorem anyL_act {i f : Nat} {o : Oper} {listed : Array Bool} {a : Act} {w : World} (hr : Region.ready md ops listed = [i]) (ho : ops[i]? = some o) (hg : o.guard = none)
    (h : ∀ K : Act → World → Prop, Hid (∀ a' w', (i ≠ last → S w') → anyL P md ops Q S last f (listed.setIfInBounds i true) a' w' → K a' w') → o.wp P a w K Q) : anyL P md ops Q S last (f + 1) listed a w := by
  refine ⟨fun h0 => (by rw [hr] at h0; cases h0), fun j hj => ?_⟩
  rw [hr] at hj
  obtain rfl : j = i := by simpa using hj
  unfold wpOp
  simp only [ho]
  rw [if_pos (by simp [Region.wanted, hg])]
  exact .inl (h _ (fun a' w' h1 h2 => ⟨h1, h2⟩))

/-- all have come up. -/
theorem anyL_done {listed : Array Bool} {a : Act} {w : World} (hr : Region.ready md ops listed = []) (h : Q .normal a w) : ∀ f, anyL P md ops Q S last f listed a w
  | 0 => ⟨hr, h⟩
  | _ + 1 => ⟨fun _ => h, by rw [hr]; simp⟩
end

/-- the worlds that go on from one, by a name that the walk does not look behind. -/
theorem ext_class (w : World) : ∃ (ι : Type) (W : ι → World), (∃ i, W i = w) ∧ (∀ i, Below w.heap.size w (W i)) ∧ ∀ i w', Below (W i).heap.size (W i) w' → ∃ j, w' = W j := by
  refine ⟨{ w' : World // Below w.heap.size w w' }, fun i => i.1, ⟨⟨w, Below.refl _ _⟩, rfl⟩, fun i => i.2, fun i w' h => ⟨⟨w', ?_⟩, rfl⟩⟩
  exact i.2.trans (h.mono i.2.size)

section
variable {P : Program} {ops : Array Oper} {Q : Exit → Act → World → Prop} {a : Act} {w : World}
theorem anyL_two {md : Region.Mode} {S : World → Prop} {last i j f : Nat} {oi oj : Oper} {listed : Array Bool} (hr : Region.ready md ops listed = [i, j]) (hi : ops[i]? = some oi) (hj : ops[j]? = some oj) (hgi : oi.guard = none) (hgj : oj.guard = none)
    (h1 : ∀ K : Act → World → Prop, Hid (∀ a' w', (i ≠ last → S w') → anyL P md ops Q S last f (listed.setIfInBounds i true) a' w' → K a' w') → oi.wp P a w K Q)
    (h2 : ∀ K : Act → World → Prop, Hid (∀ a' w', (j ≠ last → S w') → anyL P md ops Q S last f (listed.setIfInBounds j true) a' w' → K a' w') → oj.wp P a w K Q) : anyL P md ops Q S last (f + 1) listed a w := by
  refine ⟨fun h0 => (by rw [hr] at h0; cases h0), fun q hq => ?_⟩
  rw [hr] at hq
  simp only [List.mem_cons, List.not_mem_nil, or_false] at hq
  unfold wpOp
  rcases hq with rfl | rfl
  · simp only [hi]
    rw [if_pos (by simp [Region.wanted, hgi])]
    exact .inl (h1 _ (fun a' w' q1 q2 => ⟨q1, q2⟩))
  · simp only [hj]
    rw [if_pos (by simp [Region.wanted, hgj])]
    exact .inl (h2 _ (fun a' w' q1 q2 => ⟨q1, q2⟩))
end
/-- the worlds in which some blocks stand as they stood. -/
theorem held_class (w : World) (p : Nat → Prop) : ∃ (ι : Type) (W : ι → World), (∃ i, W i = w) ∧ (∀ i g, p g → (W i).heap[g]? = w.heap[g]?) ∧ ∀ w', (∀ g, p g → w'.heap[g]? = w.heap[g]?) → ∃ j, w' = W j :=
  ⟨{ w' : World // ∀ g, p g → w'.heap[g]? = w.heap[g]? }, fun i => i.1, ⟨⟨w, fun _ _ => rfl⟩, rfl⟩, fun i => i.2, fun w' h => ⟨⟨w', h⟩, rfl⟩⟩
theorem anyL_actG {P : Program} {md : Region.Mode} {ops : Array Oper} {Q : Exit → Act → World → Prop} {S : World → Prop} {last : Nat} {i f : Nat} {o : Oper} {listed : Array Bool} {a : Act} {w : World} (hr : Region.ready md ops listed = [i]) (ho : ops[i]? = some o) (hg : Region.wanted o (yielded ops a.tmps) = true)
    (h : ∀ K : Act → World → Prop, Hid (∀ a' w', (i ≠ last → S w') → anyL P md ops Q S last f (listed.setIfInBounds i true) a' w' → K a' w') → o.wp P a w K Q) : anyL P md ops Q S last (f + 1) listed a w := by
  refine ⟨fun h0 => (by rw [hr] at h0; cases h0), fun j hj => ?_⟩
  rw [hr] at hj
  obtain rfl : j = i := by simpa using hj
  unfold wpOp
  simp only [ho]
  rw [if_pos hg]
  exact .inl (h _ (fun a' w' h1 h2 => ⟨h1, h2⟩))
theorem anyL_skip {P : Program} {md : Region.Mode} {ops : Array Oper} {Q : Exit → Act → World → Prop} {S : World → Prop} {last : Nat} {i f : Nat} {o : Oper} {listed : Array Bool} {a : Act} {w : World} (hr : Region.ready md ops listed = [i]) (ho : ops[i]? = some o) (hg : Region.wanted o (yielded ops a.tmps) = false) (hS : S w)
    (h : anyL P md ops Q S last f (listed.setIfInBounds i true) (a.put o.dst undef) w) : anyL P md ops Q S last (f + 1) listed a w := by
  refine ⟨fun h0 => (by rw [hr] at h0; cases h0), fun j hj => ?_⟩
  rw [hr] at hj
  obtain rfl : j = i := by simpa using hj
  unfold wpOp
  simp only [ho]
  rw [if_neg (by simp [hg])]
  exact ⟨fun _ => hS, h⟩
theorem anyL_skipD {P : Program} {md : Region.Mode} {ops : Array Oper} {Q : Exit → Act → World → Prop} {S : World → Prop} {last : Nat} {i f : Nat} {o : Oper} {listed : Array Bool} {a : Act} {w : World} (hr : Region.ready md ops listed = [i]) (ho : ops[i]? = some o) (hd : a.put o.dst undef = a) (hg : Region.wanted o (yielded ops a.tmps) = false) (hS : S w)
    (h : anyL P md ops Q S last f (listed.setIfInBounds i true) a w) : anyL P md ops Q S last (f + 1) listed a w := anyL_skip hr ho hg hS (by rw [hd]; exact h)
end Go.Um
