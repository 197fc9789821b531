/-
  Several lists that a call builds side by side by appending: all their rows' blocks, old and new, are kept in one set; what elements reach lies outside of it. No program is named here.
-/
import Derived.Test.YthfcbbdghggefaaGreatPj
namespace Go.Um
open Go.RowKit
def ElX (w : World) (b0 : Nat) (X : Nat → Prop) : Nat → Prop := fun b => b0 ≤ b ∧ b < w.heap.size ∧ ¬ X b
def FX {α : Type} (e : TypeId) (r : RepOf α) (w : World) (b0 : Nat) (X : Nat → Prop) (v : Value) (xs : List α) : Prop :=
  OwnR e r w (ElX w b0 X) b0 v xs ∧ ∀ g, v.ownBlock = some g → X g
section
variable {α : Type} {e : TypeId} {r : RepOf α} {w w' : World} {b0 : Nat} {X X' : Nat → Prop} {v : Value} {xs : List α}
theorem FX.nil : FX e r w b0 X (.slice none 0 0) [] := ⟨OwnR.nil, fun g hg => by simp [Value.ownBlock] at hg⟩
theorem FX.rel (h : FX e r w b0 X v xs) : (listR r).rel w (Fresh b0 w) [v] xs :=
  OwnR.rel h.1 (fun _ hb => ⟨hb.1, hb.2.1⟩) (fun g hg => ⟨(OwnR.tag h.1 g hg).2, (OwnR.tag h.1 g hg).1.lt⟩)
theorem FX.len (h : FX e r w b0 X v xs) : ∃ A c, v = .slice A xs.length c := by
  obtain ⟨A, c, rfl, _, _⟩ := list_form h.rel
  exact ⟨A, c, rfl⟩
theorem FX.own_lt (h : FX e r w b0 X v xs) : ∀ g, v.ownBlock = some g → g < w.heap.size := fun g hg => (OwnR.tag h.1 g hg).1.lt
/-- what leaves the row and all outside of the set, from b0 on; the set may grow by what is new. -/
theorem FX.keep (h : FX e r w b0 X v xs) (hs : w.heap.size ≤ w'.heap.size) (hX : ∀ g, X g → X' g) (hX' : ∀ g, X' g → g < w.heap.size → X g)
    (hv : ∀ g, v.ownBlock = some g → w'.heap[g]? = w.heap[g]?) (hk : ∀ g, b0 ≤ g → g < w.heap.size → ¬ X g → w'.heap[g]? = w.heap[g]?) : FX e r w' b0 X' v xs :=
  ⟨OwnR.keep h.1 hv (fun _ hp => World.cell?_of_block (hk _ hp.1 hp.2.1 hp.2.2)) (fun _ hb => ⟨hb.1, Nat.lt_of_lt_of_le hb.2.1 hs, fun hx => hb.2.2 (hX' _ hx hb.2.1)⟩), fun g hg => hX g (h.2 g hg)⟩
theorem FX.later (h : FX e r w b0 X v xs) (hb : Below w.heap.size w w') : FX e r w' b0 X v xs :=
  h.keep hb.size (fun _ h => h) (fun _ h _ => h) (fun g hg => hb.block g (h.own_lt g hg)) (fun g _ hg _ => hb.block g hg)
theorem FX.tag (h : FX e r w b0 X v xs) : ∀ g, v.ownBlock = some g → Tag e w g := fun g hg => (OwnR.tag h.1 g hg).1
/-- rows of unlike elements lie in unlike blocks. -/
theorem FX.apart {β : Type} {e2 : TypeId} {q : RepOf β} {v2 : Value} {ys : List β} (h : FX e r w b0 X v xs) (h2 : FX e2 q w b0 X v2 ys) (hne : e ≠ e2) : ∀ g, v2.ownBlock = some g → v.ownBlock ≠ some g := fun g hg he =>
  Tag.ne (h.tag g he) (h2.tag g hg) hne rfl
/-- what is new lies outside of the set. -/
theorem elx_of_fresh {b' : Nat} (hX : ∀ g, X g → g < b') (hb : b0 ≤ b') {g : Nat} (h : Fresh b' w g) : ElX w b0 X g :=
  ⟨Nat.le_trans hb h.1, h.2, fun hx => by have := hX g hx; have := h.1; omega⟩
theorem rel_elx {β : Type} {q : RepOf β} {b' : Nat} {cs : List Value} {x : β} (h : q.rel w (Fresh b' w) cs x) (hX : ∀ g, X g → g < b') (hb : b0 ≤ b') : q.rel w (ElX w b0 X) cs x :=
  q.mono (fun _ _ => rfl) (fun _ hp => elx_of_fresh hX hb hp) h
/-- out of a list that a call has built alone. -/
theorem FX.of {base : Nat} (h : FL e r w b0 base v xs) (hb : b0 ≤ base) (hX : ∀ g, X g ↔ v.ownBlock = some g) : FX e r w b0 X v xs :=
  ⟨OwnR.base' (OwnR.keep h (fun _ _ => rfl) (fun _ _ => rfl) (fun _ hs => ⟨hs.1, hs.2.1, fun hx => hs.2.2 ((hX _).1 hx)⟩)) hb, fun g hg => (hX g).2 hg⟩
end
/-- the set behind an append. -/
def XNew (X : Nat → Prop) (v' : Value) : Nat → Prop := fun g => X g ∨ v'.ownBlock = some g
section
variable {P : Program} {α : Type} {e : TypeId} {r : RepOf α} {b0 : Nat} {X : Nat → Prop} {v : Value} {xs : List α}
theorem run_append_fx {w : World} (t ty : TypeId) (i : TypeInfo) (z : Value) (bytes : Nat) (ht : P.underlying t = some (.slice e)) (hi : P.info? e = some i) (hz : i.zero = some z)
    (hsize : i.size = r.width) (hby : i.bytes = bytes) (hzs : z.cells.size = r.width) (hsz : 0 < r.width)
    (h : FX e r w b0 X v xs) (hXl : ∀ g, X g → g < w.heap.size) (hB : b0 ≤ w.heap.size) (ad : Addr) (c : Nat) (x : α) (cs : List Value) (hx : r.rel w (ElX w b0 X) cs x)
    (hnews : ∀ (j : Nat) (u : Value), cs[j]? = some u → w.cell? (ad.add j) = some u) (h1 : ∀ u ∈ cs, u.oneCell' = true) (h63 : xs.length + 1 ≤ maxLen) (hbytes : (xs.length + 1) * bytes ≤ 140737488355328) :
    ∃ v' w', (Builtin.append_ #[t, t] ty #[v, .slice (some ad) 1 c]).run P w = .ok v' w' ∧ FX e r w' b0 (XNew X v') v' (xs ++ [x]) ∧ (∀ g, XNew X v' g → g < w.heap.size → X g) ∧ (∀ g, XNew X v' g → g < w'.heap.size) ∧
      Below b0 w w' ∧ (∀ g, g < w.heap.size → v.ownBlock ≠ some g → w'.heap[g]? = w.heap[g]?) := by
  obtain ⟨⟨css, hl, hown, hel⟩, hv⟩ := h
  have hlen : cs.length = 1 * r.width := by rw [r.len hx, Nat.one_mul]
  obtain ⟨v', w', hr, ho, hg, _, hloc⟩ := run_append_own_at (P := P) w b0 t ty e i z r.width bytes ht hi hz hsize hby hzs hsz v xs.length css.flatten hown ad 1 c cs hlen hnews h1 h63 hbytes hB
  have hX' : ∀ g, XNew X v' g → g < w.heap.size → X g := fun g hg' hgl => by
    rcases hg' with h9 | h9
    · exact h9
    · rcases hloc with h8 | h8
      · exact hv g (h8 ▸ h9)
      · rw [h8] at h9; injection h9 with h9; omega
  have hk : ∀ b, ElX w b0 X b → w'.heap[b]? = w.heap[b]? := fun b hb' => hg.block b hb'.2.1 (fun he => hb'.2.2 (hv b he.symm))
  have hS : ∀ b, ElX w b0 X b → ElX w' b0 (XNew X v') b := fun b hb' => ⟨hb'.1, Nat.lt_of_lt_of_le hb'.2.1 hg.size, fun hx9 => hb'.2.2 (hX' b hx9 hb'.2.1)⟩
  have hcell : ∀ p : Addr, ElX w b0 X p.block → w'.cell? p = w.cell? p := fun p hp => World.cell?_of_block (hk _ hp)
  refine ⟨v', w', hr, ⟨OwnR.push hl ho (fun j y ds q1 q2 => r.mono hcell hS (hel j y ds q1 q2)) (r.mono hcell hS hx), fun g hg' => .inr hg'⟩, hX', fun g hg' => ?_, below_grown hown hg (Nat.le_refl _) hB, fun g hgl hne => hg.block g hgl (fun he => hne he.symm)⟩
  rcases hg' with h9 | h9
  · exact Nat.lt_of_lt_of_le (hXl g h9) hg.size
  · exact (own_tag ho g h9).1.lt
theorem act_append_fx {o : Oper} {a : Act} {K : Act → World → Prop} {Q : Exit → Act → World → Prop} {w : World} (s xo : Operand) (t : TypeId)
    (ho : o.op = .call { callee := .builtin .append, args := #[s, xo], argTypes := #[t, t] }) (i : TypeInfo) (z : Value) (bytes : Nat) (ht : P.underlying t = some (.slice e)) (hi : P.info? e = some i) (hz : i.zero = some z)
    (hsize : i.size = r.width) (hby : i.bytes = bytes) (hzs : z.cells.size = r.width) (hsz : 0 < r.width)
    (hs : a.eval s = v) (h : FX e r w b0 X v xs) (hXl : ∀ g, X g → g < w.heap.size) (hB : b0 ≤ w.heap.size) (ad : Addr) (c : Nat) (x : α) (cs : List Value) (hxo : a.eval xo = .slice (some ad) 1 c) (hx : r.rel w (ElX w b0 X) cs x)
    (hnews : ∀ (j : Nat) (u : Value), cs[j]? = some u → w.cell? (ad.add j) = some u) (h1 : ∀ u ∈ cs, u.oneCell' = true) (h63 : xs.length + 1 ≤ maxLen) (hbytes : (xs.length + 1) * bytes ≤ 140737488355328)
    (hK : ∀ v' w', FX e r w' b0 (XNew X v') v' (xs ++ [x]) → (∀ g, XNew X v' g → g < w.heap.size → X g) → (∀ g, XNew X v' g → g < w'.heap.size) → Below b0 w w' → (∀ g, g < w.heap.size → v.ownBlock ≠ some g → w'.heap[g]? = w.heap[g]?) → K (a.put o.dst v') w') : o.wp P a w K Q := by
  obtain ⟨v', w', hr, h2, h3, h4, h5, h6⟩ := run_append_fx (P := P) t o.type i z bytes ht hi hz hsize hby hzs hsz h hXl hB ad c x cs hx hnews h1 h63 hbytes
  unfold Oper.wp execOp
  simp only [ho, resolve, invoke, builtin, Sem.run_bind, Sem.run_pure, Result.andThen_ok, List.map_toArray, List.map_cons, List.map_nil, hs, hxo, hr]
  exact hK v' w' h2 h3 h4 h5 h6
end
end Go.Um
