/-
  A row that the call owns, whose elements read as something that lies elsewhere. No program is named here. A list that a call builds by appending: its row and all that its elements reach lie in memory that the call has made, and apart from each other. No program is named here.
-/
import Derived.Test.YtmkmikacfilbpaaGreatKBase
import Derived.Test.YtmkmikacfilbpaaGreatKPlain
import Derived.Deep.Upon
import Derived.Maps.AppendAt
namespace Go.Um
open Go.RowKit

/-- a block of elements of type t. -/
def Tag (t : TypeId) (w : World) (g : Nat) : Prop := ∃ cs fz, w.heap[g]? = some (.cells cs t fz)
theorem Tag.lt {t : TypeId} {w : World} {g : Nat} (h : Tag t w g) : g < w.heap.size := by
  obtain ⟨cs, fz, h⟩ := h
  rcases Nat.lt_or_ge g w.heap.size with h' | h'
  · exact h'
  · simp [Array.getElem?_eq_none h'] at h
theorem Tag.ne {t t' : TypeId} {w : World} {g g' : Nat} (h : Tag t w g) (h' : Tag t' w g') (hne : t ≠ t') : g ≠ g' := by
  rintro rfl
  obtain ⟨_, _, h1⟩ := h
  obtain ⟨_, _, h2⟩ := h'
  rw [h1] at h2
  injection h2 with h2
  injection h2 with _ h2
  exact hne h2
theorem Tag.keep {t : TypeId} {w w' : World} {g : Nat} (h : Tag t w g) (hk : w'.heap[g]? = w.heap[g]?) : Tag t w' g := by
  obtain ⟨cs, fz, h⟩ := h
  exact ⟨cs, fz, hk.trans h⟩

/-- a row of the call's own, element by element. -/
def OwnR {α : Type} (e : TypeId) (r : RepOf α) (w : World) (S : Nat → Prop) (base : Nat) (v : Value) (xs : List α) : Prop :=
  ∃ css : List (List Value), css.length = xs.length ∧ w.ownsRow base e r.width v xs.length css.flatten ∧ ∀ (i : Nat) (x : α) (cs : List Value), xs[i]? = some x → css[i]? = some cs → r.rel w S cs x

theorem flatten_at {m : Nat} (css : List (List Value)) (h : ∀ cs ∈ css, cs.length = m) : ∀ (i j : Nat) (cs : List Value) (v : Value), css[i]? = some cs → cs[j]? = some v → css.flatten[i * m + j]? = some v := by
  induction css with
  | nil => intro i j cs v h1; simp at h1
  | cons c css ih =>
    intro i j cs v h1 h2
    have hc := h c (List.mem_cons_self ..)
    cases i with
    | zero =>
      simp at h1
      subst h1
      rw [Nat.zero_mul, Nat.zero_add, List.flatten_cons, List.getElem?_append_left (List.getElem?_eq_some_iff.1 h2).1]
      exact h2
    | succ i =>
      rw [List.flatten_cons, List.getElem?_append_right (by rw [hc, Nat.add_mul]; omega), hc]
      rw [show (i + 1) * m + j - m = i * m + j by rw [Nat.add_mul]; omega]
      exact ih (fun x hx => h x (List.mem_cons_of_mem _ hx)) i j cs v (by simpa using h1) h2

section
variable {α : Type} {e : TypeId} {r : RepOf α} {w w' : World} {S S' : Nat → Prop} {base : Nat} {v : Value} {xs : List α}
theorem OwnR.nil : OwnR e r w S base (.slice none 0 0) [] := ⟨[], rfl, World.ownsRow_nil _ _ _ _, fun i x cs h => by simp at h⟩
theorem OwnR.rel (h : OwnR e r w S base v xs) (hS : ∀ b, S b → S' b) (hv : ∀ g, v.ownBlock = some g → S' g) : (listR r).rel w S' [v] xs := by
  obtain ⟨css, hl, hown, hel⟩ := h
  rcases hown.2 with ⟨rfl, hn⟩ | ⟨g, cap, cur, rfl, hb, hg, hnc, hcm, hcs, htake⟩
  · have : xs = [] := List.eq_nil_of_length_eq_zero hn
    subst this
    exact list_nil r w S'
  · refine ⟨_, _, _, rfl, rfl, hnc, hcm, .inr ⟨g, 0, rfl, hv g rfl, fun i x hi => ?_⟩⟩
    obtain ⟨cs, hcs'⟩ := at_lt (xs := css) (i := i) (by have := (List.getElem?_eq_some_iff.1 hi).1; omega)
    have hall : ∀ cs ∈ css, cs.length = r.width := by
      intro cs hc
      obtain ⟨k, hk, rfl⟩ := List.getElem_of_mem hc
      obtain ⟨y, hy⟩ := at_lt (xs := xs) (i := k) (by omega)
      exact r.len (hel k y _ hy (List.getElem?_eq_getElem hk))
    refine ⟨cs, r.mono (fun _ _ => rfl) hS (hel i x cs hi hcs'), fun j u hu => ?_⟩
    have hc := hown.cells (g := g) rfl (i * r.width + j) u (flatten_at css hall i j cs u hcs' hu)
    rw [show 0 + i * r.width + j = i * r.width + j by omega]
    have ha : (⟨g, 0, none⟩ : Addr).add (i * r.width + j) = ⟨g, i * r.width + j, none⟩ := by unfold Addr.add; split <;> simp_all
    rwa [ha] at hc
/-- what leaves the row and the elements' memory. -/
theorem OwnR.keep (h : OwnR e r w S base v xs) (hv : ∀ g, v.ownBlock = some g → w'.heap[g]? = w.heap[g]?) (hc : ∀ p : Addr, S p.block → w'.cell? p = w.cell? p) (hS : ∀ b, S b → S' b) : OwnR e r w' S' base v xs := by
  obtain ⟨css, hl, hown, hel⟩ := h
  refine ⟨css, hl, ⟨hown.1, ?_⟩, fun i x cs h1 h2 => r.mono hc hS (hel i x cs h1 h2)⟩
  rcases hown.2 with h2 | ⟨g, cap, cur, rfl, h3, h4, h5⟩
  · exact .inl h2
  · exact .inr ⟨g, cap, cur, rfl, h3, (hv g rfl).trans h4, h5⟩
/-- behind an append. -/
theorem OwnR.push {x : α} {cs : List Value} {css : List (List Value)} (hl : css.length = xs.length) (h : w.ownsRow base e r.width v (xs.length + 1) (css.flatten ++ cs)) (hel : ∀ (i : Nat) (x : α) (cs : List Value), xs[i]? = some x → css[i]? = some cs → r.rel w S cs x) (hx : r.rel w S cs x) :
    OwnR e r w S base v (xs ++ [x]) := by
  refine ⟨css ++ [cs], by simp [hl], by simpa using h, fun i y ds h1 h2 => ?_⟩
  rcases Nat.lt_or_ge i xs.length with h3 | h3
  · rw [List.getElem?_append_left h3] at h1
    rw [List.getElem?_append_left (by omega)] at h2
    exact hel i y ds h1 h2
  · rw [List.getElem?_append_right h3] at h1
    rw [List.getElem?_append_right (by omega)] at h2
    have : i = xs.length := by
      have := (List.getElem?_eq_some_iff.1 h1).1
      simp at this
      omega
    subst this
    rw [Nat.sub_self] at h1
    rw [hl, Nat.sub_self] at h2
    simp at h1 h2
    subst h1 h2
    exact hx
theorem OwnR.base' {base' : Nat} (h : OwnR e r w S base v xs) (hb : base' ≤ base) : OwnR e r w S base' v xs := by
  obtain ⟨css, hl, hown, hel⟩ := h
  exact ⟨css, hl, ownsRow_base hown hb, hel⟩
theorem own_tag {size n : Nat} {cs : List Value} (h : w.ownsRow base e size v n cs) : ∀ g, v.ownBlock = some g → Tag e w g ∧ base ≤ g := by
  intro g hg
  rcases h.2 with ⟨rfl, _⟩ | ⟨g', cap, cur, rfl, hb, hh, _⟩
  · simp [Value.ownBlock] at hg
  · have : g' = g := by simpa [Value.ownBlock] using hg
    subst this
    exact ⟨⟨_, _, hh⟩, hb⟩
theorem OwnR.tag (h : OwnR e r w S base v xs) : ∀ g, v.ownBlock = some g → Tag e w g ∧ base ≤ g := by
  obtain ⟨css, hl, hown, hel⟩ := h
  exact own_tag hown
end
/-- own rows: what comes behind leaves them. -/
theorem OwnR.below {α : Type} {e : TypeId} {r : RepOf α} {w w' : World} {S S' : Nat → Prop} {base : Nat} {v : Value} {xs : List α} (h : OwnR e r w S base v xs) (hb : Below w.heap.size w w') (hS : ∀ b, S b → b < w.heap.size) (hS' : ∀ b, S b → S' b) : OwnR e r w' S' base v xs :=
  h.keep (fun g hg => hb.block g (h.tag g hg).1.lt) (fun _ hp => hb.cell (hS _ hp)) hS'
end Go.Um
namespace Go.Um
open Go.RowKit
/-- what an element may reach. -/
def Els (w : World) (base : Nat) (v : Value) : Nat → Prop := fun b => base ≤ b ∧ b < w.heap.size ∧ v.ownBlock ≠ some b
/-- memory that is new since a world of so many blocks. -/
def Fresh (base : Nat) (w : World) : Nat → Prop := fun b => base ≤ b ∧ b < w.heap.size
/-- the elements reach memory from b0 on, the row's own block lies from base on. -/
def FL {α : Type} (e : TypeId) (r : RepOf α) (w : World) (b0 base : Nat) (v : Value) (xs : List α) : Prop := OwnR e r w (Els w b0 v) base v xs
section
variable {α : Type} {e : TypeId} {r : RepOf α} {w w' : World} {b0 base : Nat} {v : Value} {xs : List α}
theorem FL.nil : FL e r w b0 base (.slice none 0 0) [] := OwnR.nil
theorem FL.rel (h : FL e r w b0 base v xs) (hb : b0 ≤ base) : (listR r).rel w (Fresh b0 w) [v] xs :=
  OwnR.rel h (fun _ hb => ⟨hb.1, hb.2.1⟩) (fun g hg => ⟨Nat.le_trans hb (OwnR.tag h g hg).2, (OwnR.tag h g hg).1.lt⟩)
theorem FL.later (h : FL e r w b0 base v xs) (hb : Below w.heap.size w w') : FL e r w' b0 base v xs :=
  OwnR.below h hb (fun _ hs => hs.2.1) (fun _ hs => ⟨hs.1, Nat.lt_of_lt_of_le hs.2.1 hb.size, hs.2.2⟩)
theorem Fresh.later {b : Nat} (h : Fresh base w b) (hb : Below w.heap.size w w') : Fresh base w' b := ⟨h.1, Nat.lt_of_lt_of_le h.2 hb.size⟩
theorem fresh_upto {b : Nat} (h : Fresh base w b) : upto w.heap.size b := h.2
theorem FL.upto (h : FL e r w b0 base v xs) : (listR r).rel w (upto w.heap.size) [v] xs := OwnR.rel h (fun _ hb => hb.2.1) (fun g hg => (OwnR.tag h g hg).1.lt)
theorem FL.len (h : FL e r w b0 base v xs) : ∃ A c, v = .slice A xs.length c := by
  obtain ⟨A, c, rfl, _, _⟩ := list_form h.upto
  exact ⟨A, c, rfl⟩
theorem rel_fresh {β : Type} {q : RepOf β} {cs : List Value} {x : β} (h : q.rel w (Fresh base w) cs x) (hb : Below w.heap.size w w') : q.rel w' (Fresh base w') cs x :=
  q.mono (fun _ hp => hb.cell hp.2) (fun _ hp => hp.later hb) h
theorem els_of_fresh {b' : Nat} (hv : ∀ g, v.ownBlock = some g → g < b') (hb : base ≤ b') {g : Nat} (h : Fresh b' w g) : Els w base v g :=
  ⟨Nat.le_trans hb h.1, h.2, fun he => by have := hv g he; have := h.1; omega⟩
/-- a list that is written out. -/
theorem FL.lit {css : List (List Value)} {cells : Array Value} (hl : css.length = xs.length) (hc : cells.toList = css.flatten) (hel : ∀ (i : Nat) (x : α) (cs : List Value), xs[i]? = some x → css[i]? = some cs → r.rel w (Fresh b0 w) cs x) (hB : base ≤ w.heap.size) (hm : xs.length ≤ maxLen) :
    FL e r (w.alloc (.cells cells e)) b0 base (.slice (some ⟨w.heap.size, 0, none⟩) xs.length xs.length) xs := by
  have hw : ∀ cs ∈ css, cs.length = r.width := by
    intro cs hcs
    obtain ⟨k, hk, rfl⟩ := List.getElem_of_mem hcs
    obtain ⟨y, hy⟩ := at_lt (xs := xs) (i := k) (by omega)
    exact r.len (hel k y _ hy (List.getElem?_eq_getElem hk))
  have hsz : cells.size = xs.length * r.width := by
    have h1 : cells.size = cells.toList.length := by simp
    rw [h1, hc, ← hl]
    clear hel hc hl h1
    induction css with
    | nil => simp
    | cons a q ih => rw [List.flatten_cons, List.length_append, hw a (by simp), ih (fun c hcs => hw c (by simp [hcs])), List.length_cons, Nat.add_mul]; omega
  have hown := World.ownsRow_lit (base := base) (e := e) (size := r.width) w cells xs.length hB hm hsz
  rw [hc] at hown
  refine ⟨css, hl, hown, fun i x cs h1 h2 => r.mono (fun p hp => ?_) (fun b hb => ⟨hb.1, by have := hb.2; simp; omega, fun he => by
    have := hb.2
    simp [Value.ownBlock] at he
    omega⟩) (hel i x cs h1 h2)⟩
  exact (Below.alloc (Below.refl w.heap.size w) (Nat.le_refl _) _).cell hp.2
/-- element by element. -/
def Rels (r : RepOf α) (w : World) (S : Nat → Prop) : List (List Value) → List α → Prop
  | [], [] => True
  | c :: cs, x :: xs => r.rel w S c x ∧ Rels r w S cs xs
  | [], _ :: _ => False
  | _ :: _, [] => False
theorem Rels.len {S : Nat → Prop} : ∀ {css : List (List Value)} {xs : List α}, Rels r w S css xs → css.length = xs.length
  | [], [], _ => rfl
  | _ :: cs, _ :: xs, h => by simp [Rels.len (css := cs) (xs := xs) h.2]
  | [], _ :: _, h => h.elim
  | _ :: _, [], h => h.elim
theorem Rels.at {S : Nat → Prop} : ∀ {css : List (List Value)} {xs : List α}, Rels r w S css xs → ∀ (i : Nat) (x : α) (cs : List Value), xs[i]? = some x → css[i]? = some cs → r.rel w S cs x
  | [], [], _ => fun i x cs h => by simp at h
  | c :: cs, y :: ys, h => fun i x ds h1 h2 => by
    cases i with
    | zero => simp at h1 h2; subst h1 h2; exact h.1
    | succ i => exact Rels.at (css := cs) (xs := ys) h.2 i x ds (by simpa using h1) (by simpa using h2)
  | [], _ :: _, h => h.elim
  | _ :: _, [], h => h.elim
theorem FL.lits {css : List (List Value)} {cells : Array Value} (h : Rels r w (Fresh b0 w) css xs) (hc : cells.toList = css.flatten) (hB : base ≤ w.heap.size) (hm : xs.length ≤ maxLen) :
    FL e r (w.alloc (.cells cells e)) b0 base (.slice (some ⟨w.heap.size, 0, none⟩) xs.length xs.length) xs := FL.lit h.len hc h.at hB hm
theorem FL.one {x : α} {cs : List Value} {cells : Array Value} (h : r.rel w (Fresh b0 w) cs x) (hc : cells.toList = cs) (hB : base ≤ w.heap.size) :
    FL e r (w.alloc (.cells cells e)) b0 base (.slice (some ⟨w.heap.size, 0, none⟩) 1 1) [x] := FL.lits (css := [cs]) (xs := [x]) ⟨h, trivial⟩ (by simp [hc]) hB (by unfold maxLen; simp)
theorem own_fresh {e' : TypeId} {xs' : List Span} {b : Nat} (h : OwnS e' w b v xs') (hb : base ≤ b) : spansR.rel w (Fresh base w) [v] xs' :=
  OwnS.rel_in h fun g hg => ⟨Nat.le_trans hb (h.1.lt g hg).1, (h.1.lt g hg).2⟩
theorem Fresh.low {b : Nat} (h : Fresh base w b) (hb : b0 ≤ base) : Fresh b0 w b := ⟨Nat.le_trans hb h.1, h.2⟩
theorem rel_low {β : Type} {q : RepOf β} {cs : List Value} {x : β} (h : q.rel w (Fresh base w) cs x) (hb : b0 ≤ base) : q.rel w (Fresh b0 w) cs x := q.mono (fun _ _ => rfl) (fun _ hp => hp.low hb) h
theorem rel_els {β : Type} {q : RepOf β} {b' : Nat} {cs : List Value} {x : β} (h : q.rel w (Fresh b' w) cs x) (hv : ∀ g, v.ownBlock = some g → g < b') (hb : base ≤ b') : q.rel w (Els w base v) cs x :=
  q.mono (fun _ _ => rfl) (fun _ hp => els_of_fresh hv hb hp) h
theorem FL.low {c0 c1 : Nat} (h : FL e r w b0 base v xs) (h0 : c0 ≤ b0) (h1 : c1 ≤ base) : FL e r w c0 c1 v xs :=
  OwnR.base' (OwnR.keep h (fun _ _ => rfl) (fun _ _ => rfl) (fun _ hs => ⟨Nat.le_trans h0 hs.1, hs.2⟩)) h1
/-- what leaves all from the lower base on. -/
theorem FL.keep (h : FL e r w b0 base v xs) (hb : b0 ≤ base) (hs : w.heap.size ≤ w'.heap.size) (hk : ∀ g, b0 ≤ g → g < w.heap.size → w'.heap[g]? = w.heap[g]?) : FL e r w' b0 base v xs :=
  OwnR.keep h (fun g hg => hk g (Nat.le_trans hb (OwnR.tag h g hg).2) (OwnR.tag h g hg).1.lt) (fun _ hp => World.cell?_of_block (hk _ hp.1 hp.2.1)) (fun _ hq => ⟨hq.1, Nat.lt_of_lt_of_le hq.2.1 hs, hq.2.2⟩)
theorem FL.own_lt (h : FL e r w b0 base v xs) : ∀ g, v.ownBlock = some g → g < w.heap.size := fun g hg => (OwnR.tag h g hg).1.lt
theorem FL.own_ge (h : FL e r w b0 base v xs) : ∀ g, v.ownBlock = some g → base ≤ g := fun g hg => (OwnR.tag h g hg).2
end
section
variable {P : Program} {α : Type} {e : TypeId} {r : RepOf α} {b0 base : Nat} {v : Value} {xs : List α}
/-- an element more: 'w0' is the world in which the list stood, 'w' the one in which the element's cells lie. -/
theorem run_append_fl {w0 w : World} (t ty : TypeId) (i : TypeInfo) (z : Value) (bytes : Nat) (ht : P.underlying t = some (.slice e)) (hi : P.info? e = some i) (hz : i.zero = some z)
    (hsize : i.size = r.width) (hby : i.bytes = bytes) (hzs : z.cells.size = r.width) (hsz : 0 < r.width)
    (h : FL e r w0 b0 base v xs) (hb : Below w0.heap.size w0 w) (hB : base ≤ w.heap.size) (ad : Addr) (c : Nat) (x : α) (cs : List Value) (hx : r.rel w (Els w b0 v) cs x)
    (hnews : ∀ (j : Nat) (u : Value), cs[j]? = some u → w.cell? (ad.add j) = some u) (h1 : ∀ u ∈ cs, u.oneCell' = true) (h63 : xs.length + 1 ≤ maxLen) (hbytes : (xs.length + 1) * bytes ≤ 140737488355328) :
    ∃ v' w', (Builtin.append_ #[t, t] ty #[v, .slice (some ad) 1 c]).run P w = .ok v' w' ∧ FL e r w' b0 base v' (xs ++ [x]) ∧ Below base w w' := by
  have h2 := h.later hb
  obtain ⟨css, hl, hown, hel⟩ := h2
  have hlen : cs.length = 1 * r.width := by rw [r.len hx, Nat.one_mul]
  obtain ⟨v', w', hr, ho, hg, _, hloc⟩ := run_append_own_at (P := P) w base t ty e i z r.width bytes ht hi hz hsize hby hzs hsz v xs.length css.flatten hown ad 1 c cs hlen hnews h1 h63 hbytes hB
  have hk : ∀ b, Els w b0 v b → w'.heap[b]? = w.heap[b]? := fun b hb' => hg.block b hb'.2.1 (fun he => hb'.2.2 he.symm)
  have hS : ∀ b, Els w b0 v b → Els w' b0 v' b := fun b hb' => ⟨hb'.1, Nat.lt_of_lt_of_le hb'.2.1 hg.size, fun he => by
    rcases hloc with h9 | h9
    · exact hb'.2.2 (h9 ▸ he)
    · rw [h9] at he
      have := hb'.2.1
      injection he with he
      omega⟩
  have hcell : ∀ p : Addr, Els w b0 v p.block → w'.cell? p = w.cell? p := fun p hp => World.cell?_of_block (hk _ hp)
  refine ⟨v', w', hr, OwnR.push hl ho (fun j y ds q1 q2 => r.mono hcell hS (hel j y ds q1 q2)) (r.mono hcell hS hx), ?_⟩
  exact below_grown hown hg (Nat.le_refl _) hB
theorem act_append_fl {o : Oper} {a : Act} {K : Act → World → Prop} {Q : Exit → Act → World → Prop} {w0 w : World} (s xo : Operand) (t : TypeId)
    (ho : o.op = .call { callee := .builtin .append, args := #[s, xo], argTypes := #[t, t] }) (i : TypeInfo) (z : Value) (bytes : Nat) (ht : P.underlying t = some (.slice e)) (hi : P.info? e = some i) (hz : i.zero = some z)
    (hsize : i.size = r.width) (hby : i.bytes = bytes) (hzs : z.cells.size = r.width) (hsz : 0 < r.width)
    (hs : a.eval s = v) (h : FL e r w0 b0 base v xs) (hb : Below w0.heap.size w0 w) (hB : base ≤ w.heap.size) (ad : Addr) (c : Nat) (x : α) (cs : List Value) (hxo : a.eval xo = .slice (some ad) 1 c) (hx : r.rel w (Els w b0 v) cs x)
    (hnews : ∀ (j : Nat) (u : Value), cs[j]? = some u → w.cell? (ad.add j) = some u) (h1 : ∀ u ∈ cs, u.oneCell' = true) (h63 : xs.length + 1 ≤ maxLen) (hbytes : (xs.length + 1) * bytes ≤ 140737488355328)
    (hK : ∀ v' w', FL e r w' b0 base v' (xs ++ [x]) → Below base w w' → K (a.put o.dst v') w') : o.wp P a w K Q := by
  obtain ⟨v', w', hr, h2, h3⟩ := run_append_fl (P := P) t o.type i z bytes ht hi hz hsize hby hzs hsz h hb hB ad c x cs hx hnews h1 h63 hbytes
  unfold Oper.wp execOp
  simp only [ho, resolve, invoke, builtin, Sem.run_bind, Sem.run_pure, Result.andThen_ok, List.map_toArray, List.map_cons, List.map_nil, hs, hxo, hr]
  exact hK v' w' h2 h3
theorem wpList_append_fl {ops : Array Oper} {rest : List Oper} {o : Oper} {a : Act} {Q : Exit → Act → World → Prop} {w0 w : World} (hgd : o.guard = none) (s xo : Operand) (t : TypeId)
    (ho : o.op = .call { callee := .builtin .append, args := #[s, xo], argTypes := #[t, t] }) (i : TypeInfo) (z : Value) (bytes : Nat) (ht : P.underlying t = some (.slice e)) (hi : P.info? e = some i) (hz : i.zero = some z)
    (hsize : i.size = r.width) (hby : i.bytes = bytes) (hzs : z.cells.size = r.width) (hsz : 0 < r.width)
    (hs : a.eval s = v) (h : FL e r w0 b0 base v xs) (hb : Below w0.heap.size w0 w) (hB : base ≤ w.heap.size) (ad : Addr) (c : Nat) (x : α) (cs : List Value) (hxo : a.eval xo = .slice (some ad) 1 c) (hx : r.rel w (Els w b0 v) cs x)
    (hnews : ∀ (j : Nat) (u : Value), cs[j]? = some u → w.cell? (ad.add j) = some u) (h1 : ∀ u ∈ cs, u.oneCell' = true) (h63 : xs.length + 1 ≤ maxLen) (hbytes : (xs.length + 1) * bytes ≤ 140737488355328)
    (hK : ∀ v' w', FL e r w' b0 base v' (xs ++ [x]) → Below base w w' → wpList P ops Q rest (a.put o.dst v') w') : wpList P ops Q (o :: rest) a w := by
  refine wpList_plain hgd fun K hK' => ?_
  obtain ⟨v', w', hr, h2, h3⟩ := run_append_fl (P := P) t o.type i z bytes ht hi hz hsize hby hzs hsz h hb hB ad c x cs hx hnews h1 h63 hbytes
  unfold Oper.wp
  simp [execOp, ho, resolve, invoke, builtin, hs, hxo, hr, Result.andThen]
  exact hK' _ _ (hK v' w' h2 h3)
end
end Go.Um
