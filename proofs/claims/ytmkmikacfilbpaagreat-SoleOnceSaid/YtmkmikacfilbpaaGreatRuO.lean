/-
  What a place is related to, out of what the next places are; plain Lean, and an append that leaves other memory.
-/
import Derived.Test.YtmkmikacfilbpaaGreatRuBk
namespace Go.Um
open Go.RowKit
section
variable {P : Program} {α : Type} {e : TypeId} {r : RepOf α} {b0 base : Nat} {v : Value} {xs : List α}
theorem run_append_fl2 {w0 w : World} (t ty : TypeId) (i : TypeInfo) (z : Value) (bytes : Nat) (ht : P.underlying t = some (.slice e)) (hi : P.info? e = some i) (hz : i.zero = some z)
    (hsize : i.size = r.width) (hby : i.bytes = bytes) (hzs : z.cells.size = r.width) (hsz : 0 < r.width)
    (h : FL e r w0 b0 base v xs) (hb : Below w0.heap.size w0 w) (hB : base ≤ w.heap.size) (ad : Addr) (c : Nat) (x : α) (cs : List Value) (hx : r.rel w (Els w b0 v) cs x)
    (hnews : ∀ (j : Nat) (u : Value), cs[j]? = some u → w.cell? (ad.add j) = some u) (h1 : ∀ u ∈ cs, u.oneCell' = true) (h63 : xs.length + 1 ≤ maxLen) (hbytes : (xs.length + 1) * bytes ≤ 140737488355328) :
    ∃ v' w', (Builtin.append_ #[t, t] ty #[v, .slice (some ad) 1 c]).run P w = .ok v' w' ∧ FL e r w' b0 base v' (xs ++ [x]) ∧ Below base w w' ∧ ∀ b, Els w b0 v b → w'.heap[b]? = w.heap[b]? ∧ Els w' b0 v' b := by
  have h2 := h.later hb
  obtain ⟨css, hl, hown, hel⟩ := h2
  have hlen : cs.length = 1 * r.width := by rw [r.len hx, Nat.one_mul]
  obtain ⟨v', w', hr, ho, hg, _, hloc⟩ := run_append_own_at (P := P) w base t ty e i z r.width bytes ht hi hz hsize hby hzs hsz v xs.length css.flatten hown ad 1 c cs hlen hnews h1 h63 hbytes hB
  have hk : ∀ b, Els w b0 v b → w'.heap[b]? = w.heap[b]? := fun b hb' => hg.block b hb'.2.1 (fun he => hb'.2.2 he.symm)
  have hS : ∀ b, Els w b0 v b → Els w' b0 v' b := fun b hb' => ⟨hb'.1, Nat.lt_of_lt_of_le hb'.2.1 hg.size, fun he => by
    rcases hloc with h9 | h9
    · exact hb'.2.2 (h9 ▸ he)
    · rw [h9] at he
      have := hb'.2.1
      injection he with he
      omega⟩
  have hcell : ∀ p : Addr, Els w b0 v p.block → w'.cell? p = w.cell? p := fun p hp => World.cell?_of_block (hk _ hp)
  refine ⟨v', w', hr, OwnR.push hl ho (fun j y ds q1 q2 => r.mono hcell hS (hel j y ds q1 q2)) (r.mono hcell hS hx), ?_, fun b hb' => ⟨hk b hb', hS b hb'⟩⟩
  exact below_grown hown hg (Nat.le_refl _) hB
theorem wpList_append_fl2 {ops : Array Oper} {rest : List Oper} {o : Oper} {a : Act} {Q : Exit → Act → World → Prop} {w0 w : World} (hgd : o.guard = none) (s xo : Operand) (t : TypeId)
    (ho : o.op = .call { callee := .builtin .append, args := #[s, xo], argTypes := #[t, t] }) (i : TypeInfo) (z : Value) (bytes : Nat) (ht : P.underlying t = some (.slice e)) (hi : P.info? e = some i) (hz : i.zero = some z)
    (hsize : i.size = r.width) (hby : i.bytes = bytes) (hzs : z.cells.size = r.width) (hsz : 0 < r.width)
    (hs : a.eval s = v) (h : FL e r w0 b0 base v xs) (hb : Below w0.heap.size w0 w) (hB : base ≤ w.heap.size) (ad : Addr) (c : Nat) (x : α) (cs : List Value) (hxo : a.eval xo = .slice (some ad) 1 c) (hx : r.rel w (Els w b0 v) cs x)
    (hnews : ∀ (j : Nat) (u : Value), cs[j]? = some u → w.cell? (ad.add j) = some u) (h1 : ∀ u ∈ cs, u.oneCell' = true) (h63 : xs.length + 1 ≤ maxLen) (hbytes : (xs.length + 1) * bytes ≤ 140737488355328)
    (hK : ∀ v' w', FL e r w' b0 base v' (xs ++ [x]) → Below base w w' → (∀ b, Els w b0 v b → w'.heap[b]? = w.heap[b]? ∧ Els w' b0 v' b) → wpList P ops Q rest (a.put o.dst v') w') : wpList P ops Q (o :: rest) a w := by
  refine wpList_plain hgd fun K hK' => ?_
  obtain ⟨v', w', hr, h2, h3, h4⟩ := run_append_fl2 (P := P) t o.type i z bytes ht hi hz hsize hby hzs hsz h hb hB ad c x cs hx hnews h1 h63 hbytes
  unfold Oper.wp
  simp [execOp, ho, resolve, invoke, builtin, hs, hxo, hr, Result.andThen]
  exact hK' _ _ (hK v' w' h2 h3 h4)
end
end Go.Um
namespace Go.Proofs.YtmkmikacfilbpaaGreat
open Go.Proofs Go.Um Go.RowKit
theorem dom_bd {s z : Int} (h : mem (domF s) z) : 0 ≤ z ∧ z ≤ 1114111 := by
  unfold domF at h
  split at h
  · simp [mem] at h; omega
  · split at h
    · simp [mem] at h; omega
    · simp [mem] at h
/-- the terms of an option whose window fits may be reckoned. -/
theorem terms_ok {inn out : Int} {ts : List Term} {gs : List (List Span)} {x : List Int} {a : Nat} (hw : writesF inn out ts gs = true) (hg : guardsF inn gs = true) (hx : fitsX x gs a) (ha : a ≤ x.length) : ∀ t ∈ ts, okT t (winF x a gs.length) := fun t ht => by
  unfold writesF at hw
  rw [Bool.and_eq_true, List.all_eq_true] at hw
  have hgg := (guardsF_good hg).1
  obtain ⟨h1, h2, h3, h4⟩ := fits_val (hw.2 t ht) hgg hx
  have hl : (winF x a gs.length).length = gs.length := win_len (by have := hx.1; omega)
  rw [← hl] at h2
  have h5 := dom_bd h4
  exact ⟨h1, h2, h3, h5.1, h5.2⟩
def finOut (d : Desc) (x : List Int) (a : Nat) (z : Int) : List (List Int) := match d.finals[z.toNat]? with
  | some f => if endsB x f.guards a then [writesV f.out (winF x a f.guards.length)] else []
  | none => []
def ruleOut (d : Desc) (x : List Int) (n a : Nat) (W : Nat → List (List Int)) (z : Int) : List (List Int) := match d.rules[z.toNat]? with
  | some r => if fitsB x r.guards a then (W ((a + r.eat.toNat) * n + r.dst.toNat)).map (writesV r.out (winF x a r.guards.length) ++ ·) else []
  | none => []
def WordsOf (d : Desc) (x : List Int) (a : Nat) (s : Int) (most : Nat) (ls : List (List Int)) : Prop := (∀ y, y ∈ ls ↔ Run d x a s y) ∧ ls.Pairwise (fun p q => cmpW p q < 0) ∧ ls.length ≤ most
def TooMany (d : Desc) (x : List Int) (most : Nat) : Prop := ∃ (a : Nat) (s : Int) (ls : List (List Int)), Reach d x a s ∧ (∀ y ∈ ls, Run d x a s y) ∧ ls.Pairwise (fun p q => cmpW p q < 0) ∧ most < ls.length
theorem endsB_iff {x : List Int} {gs : List (List Span)} {a : Nat} (ha : a ≤ x.length) : endsB x gs a = true ↔ gs.length = x.length - a ∧ fitsX x gs a := by
  unfold endsB
  rw [Bool.and_eq_true, decide_eq_true_eq, fitsB_iff]
  constructor
  · rintro ⟨h1, h2⟩; exact ⟨by omega, h2⟩
  · rintro ⟨h1, h2⟩; exact ⟨by omega, h2⟩
/-- all that a place is related to. -/
theorem outs_iff {d : Desc} {x : List Int} {n a : Nat} {s : Int} {W : Nat → List (List Int)} (ha : a ≤ x.length) (hW : ∀ r ∈ d.rules, r.src = s → fitsX x r.guards a → ∀ y, y ∈ W ((a + r.eat.toNat) * n + r.dst.toNat) ↔ Run d x (a + r.eat.toNat) r.dst y) (y : List Int) :
    y ∈ (finalsOf d s).flatMap (finOut d x a) ++ (rulesOf d s).flatMap (ruleOut d x n a W) ↔ Run d x a s y := by
  rw [List.mem_append, List.mem_flatMap, List.mem_flatMap]
  constructor
  · rintro (⟨z, hz, hy⟩ | ⟨z, hz, hy⟩)
    · obtain ⟨q, f, rfl, hq, hs⟩ := finalsOf_mem.1 hz
      unfold finOut at hy
      rw [Int.toNat_natCast, hq] at hy
      dsimp only at hy
      split at hy
      · rename_i he
        obtain ⟨h1, h2⟩ := (endsB_iff ha).1 he
        simp at hy
        exact Run.fin f (List.mem_of_getElem? hq) hs h1 h2 hy
      · cases hy
    · obtain ⟨q, r, rfl, hq, hs⟩ := rulesOf_mem.1 hz
      unfold ruleOut at hy
      rw [Int.toNat_natCast, hq] at hy
      dsimp only at hy
      split at hy
      · rename_i he
        obtain ⟨u, hu, rfl⟩ := List.mem_map.1 hy
        have hx := fitsB_iff.1 he
        exact Run.step r (List.mem_of_getElem? hq) hs hx ((hW r (List.mem_of_getElem? hq) hs hx u).1 hu) rfl
      · cases hy
  · intro h
    cases h with
    | fin f hf hs hl hx hw =>
      left
      obtain ⟨q, hq⟩ := List.mem_iff_getElem?.1 hf
      refine ⟨q, finalsOf_mem.2 ⟨q, f, rfl, hq, hs⟩, ?_⟩
      unfold finOut
      rw [Int.toNat_natCast, hq]
      dsimp only
      rw [if_pos ((endsB_iff ha).2 ⟨hl, hx⟩), hw]
      simp
    | step r hr hs hx h' hw =>
      right
      obtain ⟨q, hq⟩ := List.mem_iff_getElem?.1 hr
      refine ⟨q, rulesOf_mem.2 ⟨q, r, rfl, hq, hs⟩, ?_⟩
      unfold ruleOut
      rw [Int.toNat_natCast, hq]
      dsimp only
      rw [if_pos (fitsB_iff.2 hx), hw]
      exact List.mem_map.2 ⟨_, (hW r hr hs hx _).2 h', rfl⟩
theorem flat_le {α β : Type} {f : α → List β} {m : Nat} : ∀ {l : List α}, (∀ z ∈ l, (f z).length ≤ m) → (l.flatMap f).length ≤ l.length * m
  | [], _ => by simp
  | z :: l, h => by
    rw [List.flatMap_cons, List.length_append, List.length_cons, Nat.add_mul]
    have h1 := h z List.mem_cons_self
    have h2 := flat_le (f := f) (m := m) (l := l) fun y hy => h y (List.mem_cons_of_mem _ hy)
    omega
theorem flat_take {α β : Type} {f : α → List β} {l : List α} {i : Nat} {z : α} (h : l[i]? = some z) : (l.take (i + 1)).flatMap f = (l.take i).flatMap f ++ f z := by
  rw [List.take_add_one, h, List.flatMap_append]
  simp
def DoneP (ord : List Int) (a q a' s' : Nat) : Prop := a < a' ∨ (a' = a ∧ (s' : Int) ∈ ord.take q)
end Go.Proofs.YtmkmikacfilbpaaGreat
