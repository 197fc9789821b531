/-
  A row that the call owns, whose elements read as something that lies elsewhere. No program is named here. A list that a call builds by appending: its row and all that its elements reach lie in memory that the call has made, and apart from each other. No program is named here. A list copied whole by one append: its elements reach nothing. No program is named here. Words copied and put together: slices.Clone, slices.Grow, slices.Concat at runes. A term's value of a window: term.Value. A runner's parts: run.fits, run.ends. A runner's parts: run.ends. What terms write of a window: run.writes.
-/
import Derived.Test.YthfcbbdghggefaaGreatPa
import Derived.Test.YthfcbbdghggefaaGreatPi
import Derived.Deep.Upon
import Derived.Maps.AppendAt
import Derived.Lib.BufferMore
import Derived.Lib.AppendZerosOnto
import Derived.Lib.SliceRun
import Derived.Lib.Walk
import Derived.Laws.AppendOwnNone
namespace Go.Um
open Go.RowKit

/-- a block of elements of type t. -/
def Tag (t : TypeId) (w : World) (g : Nat) : Prop := ∃ cs fz, w.heap[g]? = some (.cells cs t fz)
theorem Tag.lt {t : TypeId} {w : World} {g : Nat} (h : Tag t w g) : g < w.heap.size := by
  obtain ⟨cs, fz, h⟩ := h
  rcases Nat.lt_or_ge g w.heap.size with h' | h'
  · exact h'
  · simp [Array.getElem?_eq_none h'] at h
theorem Tag.ne {t t' : TypeId} {w : World} {g g' : Nat} (h : Tag t w g) (h' : Tag t' w g') (hne : t ≠ t') : g ≠ g' := by
  rintro rfl
  obtain ⟨_, _, h1⟩ := h
  obtain ⟨_, _, h2⟩ := h'
  rw [h1] at h2
  injection h2 with h2
  injection h2 with _ h2
  exact hne h2
theorem Tag.keep {t : TypeId} {w w' : World} {g : Nat} (h : Tag t w g) (hk : w'.heap[g]? = w.heap[g]?) : Tag t w' g := by
  obtain ⟨cs, fz, h⟩ := h
  exact ⟨cs, fz, hk.trans h⟩

/-- a row of the call's own, element by element. -/
def OwnR {α : Type} (e : TypeId) (r : RepOf α) (w : World) (S : Nat → Prop) (base : Nat) (v : Value) (xs : List α) : Prop :=
  ∃ css : List (List Value), css.length = xs.length ∧ w.ownsRow base e r.width v xs.length css.flatten ∧ ∀ (i : Nat) (x : α) (cs : List Value), xs[i]? = some x → css[i]? = some cs → r.rel w S cs x

theorem flatten_at {m : Nat} (css : List (List Value)) (h : ∀ cs ∈ css, cs.length = m) : ∀ (i j : Nat) (cs : List Value) (v : Value), css[i]? = some cs → cs[j]? = some v → css.flatten[i * m + j]? = some v := by
  induction css with
  | nil => intro i j cs v h1; simp at h1
  | cons c css ih =>
    intro i j cs v h1 h2
    have hc := h c (List.mem_cons_self ..)
    cases i with
    | zero =>
      simp at h1
      subst h1
      rw [Nat.zero_mul, Nat.zero_add, List.flatten_cons, List.getElem?_append_left (List.getElem?_eq_some_iff.1 h2).1]
      exact h2
    | succ i =>
      rw [List.flatten_cons, List.getElem?_append_right (by rw [hc, Nat.add_mul]; omega), hc]
      rw [show (i + 1) * m + j - m = i * m + j by rw [Nat.add_mul]; omega]
      exact ih (fun x hx => h x (List.mem_cons_of_mem _ hx)) i j cs v (by simpa using h1) h2

section
variable {α : Type} {e : TypeId} {r : RepOf α} {w w' : World} {S S' : Nat → Prop} {base : Nat} {v : Value} {xs : List α}
theorem OwnR.nil : OwnR e r w S base (.slice none 0 0) [] := ⟨[], rfl, World.ownsRow_nil _ _ _ _, fun i x cs h => by simp at h⟩
theorem OwnR.rel (h : OwnR e r w S base v xs) (hS : ∀ b, S b → S' b) (hv : ∀ g, v.ownBlock = some g → S' g) : (listR r).rel w S' [v] xs := by
  obtain ⟨css, hl, hown, hel⟩ := h
  rcases hown.2 with ⟨rfl, hn⟩ | ⟨g, cap, cur, rfl, hb, hg, hnc, hcm, hcs, htake⟩
  · have : xs = [] := List.eq_nil_of_length_eq_zero hn
    subst this
    exact list_nil r w S'
  · refine ⟨_, _, _, rfl, rfl, hnc, hcm, .inr ⟨g, 0, rfl, hv g rfl, fun i x hi => ?_⟩⟩
    obtain ⟨cs, hcs'⟩ := at_lt (xs := css) (i := i) (by have := (List.getElem?_eq_some_iff.1 hi).1; omega)
    have hall : ∀ cs ∈ css, cs.length = r.width := by
      intro cs hc
      obtain ⟨k, hk, rfl⟩ := List.getElem_of_mem hc
      obtain ⟨y, hy⟩ := at_lt (xs := xs) (i := k) (by omega)
      exact r.len (hel k y _ hy (List.getElem?_eq_getElem hk))
    refine ⟨cs, r.mono (fun _ _ => rfl) hS (hel i x cs hi hcs'), fun j u hu => ?_⟩
    have hc := hown.cells (g := g) rfl (i * r.width + j) u (flatten_at css hall i j cs u hcs' hu)
    rw [show 0 + i * r.width + j = i * r.width + j by omega]
    have ha : (⟨g, 0, none⟩ : Addr).add (i * r.width + j) = ⟨g, i * r.width + j, none⟩ := by unfold Addr.add; split <;> simp_all
    rwa [ha] at hc
/-- what leaves the row and the elements' memory. -/
theorem OwnR.keep (h : OwnR e r w S base v xs) (hv : ∀ g, v.ownBlock = some g → w'.heap[g]? = w.heap[g]?) (hc : ∀ p : Addr, S p.block → w'.cell? p = w.cell? p) (hS : ∀ b, S b → S' b) : OwnR e r w' S' base v xs := by
  obtain ⟨css, hl, hown, hel⟩ := h
  refine ⟨css, hl, ⟨hown.1, ?_⟩, fun i x cs h1 h2 => r.mono hc hS (hel i x cs h1 h2)⟩
  rcases hown.2 with h2 | ⟨g, cap, cur, rfl, h3, h4, h5⟩
  · exact .inl h2
  · exact .inr ⟨g, cap, cur, rfl, h3, (hv g rfl).trans h4, h5⟩
/-- behind an append. -/
theorem OwnR.push {x : α} {cs : List Value} {css : List (List Value)} (hl : css.length = xs.length) (h : w.ownsRow base e r.width v (xs.length + 1) (css.flatten ++ cs)) (hel : ∀ (i : Nat) (x : α) (cs : List Value), xs[i]? = some x → css[i]? = some cs → r.rel w S cs x) (hx : r.rel w S cs x) :
    OwnR e r w S base v (xs ++ [x]) := by
  refine ⟨css ++ [cs], by simp [hl], by simpa using h, fun i y ds h1 h2 => ?_⟩
  rcases Nat.lt_or_ge i xs.length with h3 | h3
  · rw [List.getElem?_append_left h3] at h1
    rw [List.getElem?_append_left (by omega)] at h2
    exact hel i y ds h1 h2
  · rw [List.getElem?_append_right h3] at h1
    rw [List.getElem?_append_right (by omega)] at h2
    have : i = xs.length := by
      have := (List.getElem?_eq_some_iff.1 h1).1
      simp at this
      omega
    subst this
    rw [Nat.sub_self] at h1
    rw [hl, Nat.sub_self] at h2
    simp at h1 h2
    subst h1 h2
    exact hx
theorem OwnR.base' {base' : Nat} (h : OwnR e r w S base v xs) (hb : base' ≤ base) : OwnR e r w S base' v xs := by
  obtain ⟨css, hl, hown, hel⟩ := h
  exact ⟨css, hl, ownsRow_base hown hb, hel⟩
theorem own_tag {size n : Nat} {cs : List Value} (h : w.ownsRow base e size v n cs) : ∀ g, v.ownBlock = some g → Tag e w g ∧ base ≤ g := by
  intro g hg
  rcases h.2 with ⟨rfl, _⟩ | ⟨g', cap, cur, rfl, hb, hh, _⟩
  · simp [Value.ownBlock] at hg
  · have : g' = g := by simpa [Value.ownBlock] using hg
    subst this
    exact ⟨⟨_, _, hh⟩, hb⟩
theorem OwnR.tag (h : OwnR e r w S base v xs) : ∀ g, v.ownBlock = some g → Tag e w g ∧ base ≤ g := by
  obtain ⟨css, hl, hown, hel⟩ := h
  exact own_tag hown
end
/-- own rows: what comes behind leaves them. -/
theorem OwnR.below {α : Type} {e : TypeId} {r : RepOf α} {w w' : World} {S S' : Nat → Prop} {base : Nat} {v : Value} {xs : List α} (h : OwnR e r w S base v xs) (hb : Below w.heap.size w w') (hS : ∀ b, S b → b < w.heap.size) (hS' : ∀ b, S b → S' b) : OwnR e r w' S' base v xs :=
  h.keep (fun g hg => hb.block g (h.tag g hg).1.lt) (fun _ hp => hb.cell (hS _ hp)) hS'
end Go.Um
namespace Go.Um
open Go.RowKit
/-- what an element may reach. -/
def Els (w : World) (base : Nat) (v : Value) : Nat → Prop := fun b => base ≤ b ∧ b < w.heap.size ∧ v.ownBlock ≠ some b
/-- memory that is new since a world of so many blocks. -/
def Fresh (base : Nat) (w : World) : Nat → Prop := fun b => base ≤ b ∧ b < w.heap.size
/-- the elements reach memory from b0 on, the row's own block lies from base on. -/
def FL {α : Type} (e : TypeId) (r : RepOf α) (w : World) (b0 base : Nat) (v : Value) (xs : List α) : Prop := OwnR e r w (Els w b0 v) base v xs
section
variable {α : Type} {e : TypeId} {r : RepOf α} {w w' : World} {b0 base : Nat} {v : Value} {xs : List α}
theorem FL.nil : FL e r w b0 base (.slice none 0 0) [] := OwnR.nil
theorem FL.rel (h : FL e r w b0 base v xs) (hb : b0 ≤ base) : (listR r).rel w (Fresh b0 w) [v] xs :=
  OwnR.rel h (fun _ hb => ⟨hb.1, hb.2.1⟩) (fun g hg => ⟨Nat.le_trans hb (OwnR.tag h g hg).2, (OwnR.tag h g hg).1.lt⟩)
theorem FL.later (h : FL e r w b0 base v xs) (hb : Below w.heap.size w w') : FL e r w' b0 base v xs :=
  OwnR.below h hb (fun _ hs => hs.2.1) (fun _ hs => ⟨hs.1, Nat.lt_of_lt_of_le hs.2.1 hb.size, hs.2.2⟩)
theorem Fresh.later {b : Nat} (h : Fresh base w b) (hb : Below w.heap.size w w') : Fresh base w' b := ⟨h.1, Nat.lt_of_lt_of_le h.2 hb.size⟩
theorem fresh_upto {b : Nat} (h : Fresh base w b) : upto w.heap.size b := h.2
theorem FL.upto (h : FL e r w b0 base v xs) : (listR r).rel w (upto w.heap.size) [v] xs := OwnR.rel h (fun _ hb => hb.2.1) (fun g hg => (OwnR.tag h g hg).1.lt)
theorem FL.len (h : FL e r w b0 base v xs) : ∃ A c, v = .slice A xs.length c := by
  obtain ⟨A, c, rfl, _, _⟩ := list_form h.upto
  exact ⟨A, c, rfl⟩
theorem rel_fresh {β : Type} {q : RepOf β} {cs : List Value} {x : β} (h : q.rel w (Fresh base w) cs x) (hb : Below w.heap.size w w') : q.rel w' (Fresh base w') cs x :=
  q.mono (fun _ hp => hb.cell hp.2) (fun _ hp => hp.later hb) h
theorem els_of_fresh {b' : Nat} (hv : ∀ g, v.ownBlock = some g → g < b') (hb : base ≤ b') {g : Nat} (h : Fresh b' w g) : Els w base v g :=
  ⟨Nat.le_trans hb h.1, h.2, fun he => by have := hv g he; have := h.1; omega⟩
/-- a list that is written out. -/
theorem FL.lit {css : List (List Value)} {cells : Array Value} (hl : css.length = xs.length) (hc : cells.toList = css.flatten) (hel : ∀ (i : Nat) (x : α) (cs : List Value), xs[i]? = some x → css[i]? = some cs → r.rel w (Fresh b0 w) cs x) (hB : base ≤ w.heap.size) (hm : xs.length ≤ maxLen) :
    FL e r (w.alloc (.cells cells e)) b0 base (.slice (some ⟨w.heap.size, 0, none⟩) xs.length xs.length) xs := by
  have hw : ∀ cs ∈ css, cs.length = r.width := by
    intro cs hcs
    obtain ⟨k, hk, rfl⟩ := List.getElem_of_mem hcs
    obtain ⟨y, hy⟩ := at_lt (xs := xs) (i := k) (by omega)
    exact r.len (hel k y _ hy (List.getElem?_eq_getElem hk))
  have hsz : cells.size = xs.length * r.width := by
    have h1 : cells.size = cells.toList.length := by simp
    rw [h1, hc, ← hl]
    clear hel hc hl h1
    induction css with
    | nil => simp
    | cons a q ih => rw [List.flatten_cons, List.length_append, hw a (by simp), ih (fun c hcs => hw c (by simp [hcs])), List.length_cons, Nat.add_mul]; omega
  have hown := World.ownsRow_lit (base := base) (e := e) (size := r.width) w cells xs.length hB hm hsz
  rw [hc] at hown
  refine ⟨css, hl, hown, fun i x cs h1 h2 => r.mono (fun p hp => ?_) (fun b hb => ⟨hb.1, by have := hb.2; simp; omega, fun he => by
    have := hb.2
    simp [Value.ownBlock] at he
    omega⟩) (hel i x cs h1 h2)⟩
  exact (Below.alloc (Below.refl w.heap.size w) (Nat.le_refl _) _).cell hp.2
/-- element by element. -/
def Rels (r : RepOf α) (w : World) (S : Nat → Prop) : List (List Value) → List α → Prop
  | [], [] => True
  | c :: cs, x :: xs => r.rel w S c x ∧ Rels r w S cs xs
  | [], _ :: _ => False
  | _ :: _, [] => False
theorem Rels.len {S : Nat → Prop} : ∀ {css : List (List Value)} {xs : List α}, Rels r w S css xs → css.length = xs.length
  | [], [], _ => rfl
  | _ :: cs, _ :: xs, h => by simp [Rels.len (css := cs) (xs := xs) h.2]
  | [], _ :: _, h => h.elim
  | _ :: _, [], h => h.elim
theorem Rels.at {S : Nat → Prop} : ∀ {css : List (List Value)} {xs : List α}, Rels r w S css xs → ∀ (i : Nat) (x : α) (cs : List Value), xs[i]? = some x → css[i]? = some cs → r.rel w S cs x
  | [], [], _ => fun i x cs h => by simp at h
  | c :: cs, y :: ys, h => fun i x ds h1 h2 => by
    cases i with
    | zero => simp at h1 h2; subst h1 h2; exact h.1
    | succ i => exact Rels.at (css := cs) (xs := ys) h.2 i x ds (by simpa using h1) (by simpa using h2)
  | [], _ :: _, h => h.elim
  | _ :: _, [], h => h.elim
theorem FL.lits {css : List (List Value)} {cells : Array Value} (h : Rels r w (Fresh b0 w) css xs) (hc : cells.toList = css.flatten) (hB : base ≤ w.heap.size) (hm : xs.length ≤ maxLen) :
    FL e r (w.alloc (.cells cells e)) b0 base (.slice (some ⟨w.heap.size, 0, none⟩) xs.length xs.length) xs := FL.lit h.len hc h.at hB hm
theorem FL.one {x : α} {cs : List Value} {cells : Array Value} (h : r.rel w (Fresh b0 w) cs x) (hc : cells.toList = cs) (hB : base ≤ w.heap.size) :
    FL e r (w.alloc (.cells cells e)) b0 base (.slice (some ⟨w.heap.size, 0, none⟩) 1 1) [x] := FL.lits (css := [cs]) (xs := [x]) ⟨h, trivial⟩ (by simp [hc]) hB (by unfold maxLen; simp)
theorem own_fresh {e' : TypeId} {xs' : List Span} {b : Nat} (h : OwnS e' w b v xs') (hb : base ≤ b) : spansR.rel w (Fresh base w) [v] xs' :=
  OwnS.rel_in h fun g hg => ⟨Nat.le_trans hb (h.1.lt g hg).1, (h.1.lt g hg).2⟩
theorem Fresh.low {b : Nat} (h : Fresh base w b) (hb : b0 ≤ base) : Fresh b0 w b := ⟨Nat.le_trans hb h.1, h.2⟩
theorem rel_low {β : Type} {q : RepOf β} {cs : List Value} {x : β} (h : q.rel w (Fresh base w) cs x) (hb : b0 ≤ base) : q.rel w (Fresh b0 w) cs x := q.mono (fun _ _ => rfl) (fun _ hp => hp.low hb) h
theorem rel_els {β : Type} {q : RepOf β} {b' : Nat} {cs : List Value} {x : β} (h : q.rel w (Fresh b' w) cs x) (hv : ∀ g, v.ownBlock = some g → g < b') (hb : base ≤ b') : q.rel w (Els w base v) cs x :=
  q.mono (fun _ _ => rfl) (fun _ hp => els_of_fresh hv hb hp) h
theorem FL.low {c0 c1 : Nat} (h : FL e r w b0 base v xs) (h0 : c0 ≤ b0) (h1 : c1 ≤ base) : FL e r w c0 c1 v xs :=
  OwnR.base' (OwnR.keep h (fun _ _ => rfl) (fun _ _ => rfl) (fun _ hs => ⟨Nat.le_trans h0 hs.1, hs.2⟩)) h1
/-- what leaves all from the lower base on. -/
theorem FL.keep (h : FL e r w b0 base v xs) (hb : b0 ≤ base) (hs : w.heap.size ≤ w'.heap.size) (hk : ∀ g, b0 ≤ g → g < w.heap.size → w'.heap[g]? = w.heap[g]?) : FL e r w' b0 base v xs :=
  OwnR.keep h (fun g hg => hk g (Nat.le_trans hb (OwnR.tag h g hg).2) (OwnR.tag h g hg).1.lt) (fun _ hp => World.cell?_of_block (hk _ hp.1 hp.2.1)) (fun _ hq => ⟨hq.1, Nat.lt_of_lt_of_le hq.2.1 hs, hq.2.2⟩)
theorem FL.own_lt (h : FL e r w b0 base v xs) : ∀ g, v.ownBlock = some g → g < w.heap.size := fun g hg => (OwnR.tag h g hg).1.lt
theorem FL.own_ge (h : FL e r w b0 base v xs) : ∀ g, v.ownBlock = some g → base ≤ g := fun g hg => (OwnR.tag h g hg).2
end
section
variable {P : Program} {α : Type} {e : TypeId} {r : RepOf α} {b0 base : Nat} {v : Value} {xs : List α}
/-- an element more: 'w0' is the world in which the list stood, 'w' the one in which the element's cells lie. -/
theorem run_append_fl {w0 w : World} (t ty : TypeId) (i : TypeInfo) (z : Value) (bytes : Nat) (ht : P.underlying t = some (.slice e)) (hi : P.info? e = some i) (hz : i.zero = some z)
    (hsize : i.size = r.width) (hby : i.bytes = bytes) (hzs : z.cells.size = r.width) (hsz : 0 < r.width)
    (h : FL e r w0 b0 base v xs) (hb : Below w0.heap.size w0 w) (hB : base ≤ w.heap.size) (ad : Addr) (c : Nat) (x : α) (cs : List Value) (hx : r.rel w (Els w b0 v) cs x)
    (hnews : ∀ (j : Nat) (u : Value), cs[j]? = some u → w.cell? (ad.add j) = some u) (h1 : ∀ u ∈ cs, u.oneCell' = true) (h63 : xs.length + 1 ≤ maxLen) (hbytes : (xs.length + 1) * bytes ≤ 140737488355328) :
    ∃ v' w', (Builtin.append_ #[t, t] ty #[v, .slice (some ad) 1 c]).run P w = .ok v' w' ∧ FL e r w' b0 base v' (xs ++ [x]) ∧ Below base w w' := by
  have h2 := h.later hb
  obtain ⟨css, hl, hown, hel⟩ := h2
  have hlen : cs.length = 1 * r.width := by rw [r.len hx, Nat.one_mul]
  obtain ⟨v', w', hr, ho, hg, _, hloc⟩ := run_append_own_at (P := P) w base t ty e i z r.width bytes ht hi hz hsize hby hzs hsz v xs.length css.flatten hown ad 1 c cs hlen hnews h1 h63 hbytes hB
  have hk : ∀ b, Els w b0 v b → w'.heap[b]? = w.heap[b]? := fun b hb' => hg.block b hb'.2.1 (fun he => hb'.2.2 he.symm)
  have hS : ∀ b, Els w b0 v b → Els w' b0 v' b := fun b hb' => ⟨hb'.1, Nat.lt_of_lt_of_le hb'.2.1 hg.size, fun he => by
    rcases hloc with h9 | h9
    · exact hb'.2.2 (h9 ▸ he)
    · rw [h9] at he
      have := hb'.2.1
      injection he with he
      omega⟩
  have hcell : ∀ p : Addr, Els w b0 v p.block → w'.cell? p = w.cell? p := fun p hp => World.cell?_of_block (hk _ hp)
  refine ⟨v', w', hr, OwnR.push hl ho (fun j y ds q1 q2 => r.mono hcell hS (hel j y ds q1 q2)) (r.mono hcell hS hx), ?_⟩
  exact below_grown hown hg (Nat.le_refl _) hB
theorem act_append_fl {o : Oper} {a : Act} {K : Act → World → Prop} {Q : Exit → Act → World → Prop} {w0 w : World} (s xo : Operand) (t : TypeId)
    (ho : o.op = .call { callee := .builtin .append, args := #[s, xo], argTypes := #[t, t] }) (i : TypeInfo) (z : Value) (bytes : Nat) (ht : P.underlying t = some (.slice e)) (hi : P.info? e = some i) (hz : i.zero = some z)
    (hsize : i.size = r.width) (hby : i.bytes = bytes) (hzs : z.cells.size = r.width) (hsz : 0 < r.width)
    (hs : a.eval s = v) (h : FL e r w0 b0 base v xs) (hb : Below w0.heap.size w0 w) (hB : base ≤ w.heap.size) (ad : Addr) (c : Nat) (x : α) (cs : List Value) (hxo : a.eval xo = .slice (some ad) 1 c) (hx : r.rel w (Els w b0 v) cs x)
    (hnews : ∀ (j : Nat) (u : Value), cs[j]? = some u → w.cell? (ad.add j) = some u) (h1 : ∀ u ∈ cs, u.oneCell' = true) (h63 : xs.length + 1 ≤ maxLen) (hbytes : (xs.length + 1) * bytes ≤ 140737488355328)
    (hK : ∀ v' w', FL e r w' b0 base v' (xs ++ [x]) → Below base w w' → K (a.put o.dst v') w') : o.wp P a w K Q := by
  obtain ⟨v', w', hr, h2, h3⟩ := run_append_fl (P := P) t o.type i z bytes ht hi hz hsize hby hzs hsz h hb hB ad c x cs hx hnews h1 h63 hbytes
  unfold Oper.wp execOp
  simp only [ho, resolve, invoke, builtin, Sem.run_bind, Sem.run_pure, Result.andThen_ok, List.map_toArray, List.map_cons, List.map_nil, hs, hxo, hr]
  exact hK v' w' h2 h3
theorem wpList_append_fl {ops : Array Oper} {rest : List Oper} {o : Oper} {a : Act} {Q : Exit → Act → World → Prop} {w0 w : World} (hgd : o.guard = none) (s xo : Operand) (t : TypeId)
    (ho : o.op = .call { callee := .builtin .append, args := #[s, xo], argTypes := #[t, t] }) (i : TypeInfo) (z : Value) (bytes : Nat) (ht : P.underlying t = some (.slice e)) (hi : P.info? e = some i) (hz : i.zero = some z)
    (hsize : i.size = r.width) (hby : i.bytes = bytes) (hzs : z.cells.size = r.width) (hsz : 0 < r.width)
    (hs : a.eval s = v) (h : FL e r w0 b0 base v xs) (hb : Below w0.heap.size w0 w) (hB : base ≤ w.heap.size) (ad : Addr) (c : Nat) (x : α) (cs : List Value) (hxo : a.eval xo = .slice (some ad) 1 c) (hx : r.rel w (Els w b0 v) cs x)
    (hnews : ∀ (j : Nat) (u : Value), cs[j]? = some u → w.cell? (ad.add j) = some u) (h1 : ∀ u ∈ cs, u.oneCell' = true) (h63 : xs.length + 1 ≤ maxLen) (hbytes : (xs.length + 1) * bytes ≤ 140737488355328)
    (hK : ∀ v' w', FL e r w' b0 base v' (xs ++ [x]) → Below base w w' → wpList P ops Q rest (a.put o.dst v') w') : wpList P ops Q (o :: rest) a w := by
  refine wpList_plain hgd fun K hK' => ?_
  obtain ⟨v', w', hr, h2, h3⟩ := run_append_fl (P := P) t o.type i z bytes ht hi hz hsize hby hzs hsz h hb hB ad c x cs hx hnews h1 h63 hbytes
  unfold Oper.wp
  simp [execOp, ho, resolve, invoke, builtin, hs, hxo, hr, Result.andThen]
  exact hK' _ _ (hK v' w' h2 h3)
end
end Go.Um
namespace Go.Um
open Go.RowKit
def Flat {α : Type} (r : RepOf α) : Prop := ∀ (w w' : World) (S S' : Nat → Prop) (cs : List Value) (x : α), r.rel w S cs x → r.rel w' S' cs x
theorem span_flat : Flat spanR := fun _ _ _ _ _ _ h => h
theorem part_flat : Flat partR := fun _ _ _ _ _ _ h => h
theorem rows_news {α : Type} {r : RepOf α} {w : World} {S : Nat → Prop} {b : Nat} : ∀ {xs : List α} {o : Nat}, (∀ (i : Nat) (x : α), xs[i]? = some x → ∃ cs, r.rel w S cs x ∧ ∀ (j : Nat) (u : Value), cs[j]? = some u → w.cell? ⟨b, o + i * r.width + j, none⟩ = some u) →
    ∃ css, Rels r w S css xs ∧ css.flatten.length = xs.length * r.width ∧ ∀ (j : Nat) (u : Value), css.flatten[j]? = some u → w.cell? ⟨b, o + j, none⟩ = some u := by
  intro xs
  induction xs with
  | nil => intro o _; exact ⟨[], trivial, by simp, fun j u h => by simp at h⟩
  | cons x r' ih =>
    intro o h
    obtain ⟨cs, h1, h2⟩ := h 0 x rfl
    obtain ⟨css, q1, q3, q2⟩ := ih (o := o + r.width) (fun i y hy => by
      obtain ⟨ds, d1, d2⟩ := h (i + 1) y (by simpa using hy)
      exact ⟨ds, d1, fun j u hu => by have := d2 j u hu; rwa [show o + (i + 1) * r.width + j = o + r.width + i * r.width + j by rw [Nat.add_mul]; omega] at this⟩)
    refine ⟨cs :: css, ⟨h1, q1⟩, by rw [List.flatten_cons, List.length_append, q3, r.len h1, List.length_cons, Nat.add_mul]; omega, fun j u hu => ?_⟩
    rw [List.flatten_cons] at hu
    rcases Nat.lt_or_ge j cs.length with hj | hj
    · rw [List.getElem?_append_left hj] at hu
      have := h2 j u hu
      simpa using this
    · rw [List.getElem?_append_right hj] at hu
      have := q2 _ u hu
      rw [r.len h1] at this hj
      rwa [show o + r.width + (j - r.width) = o + j by omega] at this
theorem list_news {α : Type} {r : RepOf α} {w : World} {S : Nat → Prop} {b o n cap : Nat} {xs : List α} (h : (listR r).rel w S [.slice (some ⟨b, o, none⟩) n cap] xs) :
    ∃ css, Rels r w S css xs ∧ css.flatten.length = xs.length * r.width ∧ ∀ (j : Nat) (u : Value), css.flatten[j]? = some u → w.cell? ((⟨b, o, none⟩ : Addr).add j) = some u := by
  obtain ⟨css, h1, h3, h2⟩ := rows_news (r := r) (w := w) (S := S) (b := b) (o := o) (xs := xs) (fun i x hi => by
    obtain ⟨b', o', ds, hA, _, h4, h5⟩ := list_at h hi
    cases hA
    exact ⟨ds, h4, h5⟩)
  refine ⟨css, h1, h3, fun j u hu => ?_⟩
  have := h2 j u hu
  have ha : (⟨b, o, none⟩ : Addr).add j = ⟨b, o + j, none⟩ := by unfold Addr.add; split <;> simp_all
  rwa [ha]
theorem FL.cloned {α : Type} {e : TypeId} {r : RepOf α} {w w' : World} {S : Nat → Prop} {base : Nat} {v : Value} {xs : List α} {css : List (List Value)} (hf : Flat r) (h : Rels r w S css xs) (ho : w'.ownsRow base e r.width v xs.length css.flatten) : FL e r w' base base v xs :=
  ⟨css, h.len, ho, fun i x cs h1 h2 => hf _ _ _ _ _ _ (h.at i x cs h1 h2)⟩
end Go.Um
namespace Go.Um
open Go.RowKit
def encW (l : List Int) : List Value := l.map (Value.int .i32)
theorem encW_len (l : List Int) : (encW l).length = l.length := List.length_map _
theorem encW_one {l : List Int} : ∀ u ∈ encW l, u.oneCell' = true := fun u hu => by
  obtain ⟨x, _, rfl⟩ := List.mem_map.1 hu
  rfl
theorem encW_flat (l : List Int) : encW l = l.flatMap fun x => [Value.int .i32 x] := by
  unfold encW
  induction l with
  | nil => rfl
  | cons x l ih => rw [List.map_cons, ih]; rfl
theorem encW_append (a b : List Int) : encW (a ++ b) = encW a ++ encW b := List.map_append
/-- a row of runes that a call has made. -/
def OwnW (e : TypeId) (w : World) (base : Nat) (v : Value) (l : List Int) : Prop := w.ownsRow base e 1 v l.length (encW l) ∧ ∀ x ∈ l, I32 x
/-- a word; nothing is the nil slice. -/
def nwordR : RepOf (List Int) where
  width := 1
  rel := fun w S cs l => wordR.rel w S cs l ∧ ∀ n c, cs = [.slice none n c] → c = 0
  len := fun h => wordR.len h.1
  mono := fun h1 h2 h => ⟨wordR.mono h1 h2 h.1, h.2⟩
section
variable {e : TypeId} {w w' : World} {base : Nat} {v : Value} {l : List Int} {S : Nat → Prop}
theorem OwnW.rel (h : OwnW e w base v l) (hS : ∀ g, v.ownBlock = some g → S g) : nwordR.rel w S [v] l := by
  refine ⟨own_list (r := runeR) (enc := fun x => [Value.int .i32 x]) (by rw [← encW_flat]; exact h.1) hS (fun x hx => ⟨rfl, rfl, h.2 x hx⟩), fun n c hc => ?_⟩
  injection hc with hc _
  rcases h.1.2 with ⟨h1, _⟩ | ⟨g, cap, cur, h1, _⟩
  · rw [h1] at hc; injection hc with _ _ hc; exact hc.symm
  · rw [h1] at hc; injection hc with hc; cases hc
theorem OwnW.fresh {b : Nat} (h : OwnW e w base v l) (hb : b ≤ base) : nwordR.rel w (Fresh b w) [v] l := h.rel fun g hg => ⟨Nat.le_trans hb (h.1.lt g hg).1, (h.1.lt g hg).2⟩
theorem OwnW.nil : OwnW e w base (.slice none 0 0) [] := ⟨World.ownsRow_nil _ _ _ _, fun x hx => by cases hx⟩
theorem word_news {ad : Addr} {n c : Nat} (h : wordR.rel w S [.slice (some ad) n c] l) (j : Nat) (u : Value) (hu : (encW l)[j]? = some u) : S ad.block ∧ w.cell? (ad.add j) = some u := by
  unfold encW at hu
  rw [List.getElem?_map] at hu
  obtain ⟨x, hx, rfl⟩ := Option.map_eq_some_iff.1 hu
  obtain ⟨b, o, hA, hb, hc, _⟩ := rune_at h hx
  injection hA with hA
  subst hA
  refine ⟨hb, ?_⟩
  have ha : (⟨b, o, none⟩ : Addr).add j = ⟨b, o + j, none⟩ := by unfold Addr.add; split <;> simp_all
  rw [ha]
  exact hc
theorem word_i32 (h : wordR.rel w S [v] l) : ∀ x ∈ l, I32 x := fun x hx => by
  obtain ⟨i, hi⟩ := List.mem_iff_getElem?.1 hx
  obtain ⟨A, c, rfl, _, _⟩ := list_form h
  obtain ⟨_, _, _, _, _, h4⟩ := rune_at h hi
  exact h4
theorem word_none {n c : Nat} (h : wordR.rel w S [.slice none n c] l) : l = [] := by
  cases l with
  | nil => rfl
  | cons x l =>
    obtain ⟨_, _, hA, _⟩ := rune_at h (i := 0) (x := x) rfl
    cases hA
end
theorem wpList_append_word {P : Program} {w : World} {ops : Array Oper} {rest : List Oper} {o : Oper} {a : Act} {Q : Exit → Act → World → Prop} (hgd : o.guard = none) (s x : Operand) (t : TypeId)
    (ho : o.op = .call { callee := .builtin .append, args := #[s, x], argTypes := #[t, t] }) (base : Nat) (e : TypeId) (i : TypeInfo) (z : Value) (ht : P.underlying t = some (.slice e)) (hi : P.info? e = some i) (hz : i.zero = some z)
    (hsize : i.size = 1) (hby : i.bytes = 4) (hzs : z.cells.size = 1) (v vx : Value) (l m : List Int) {S : Nat → Prop} (hs : a.eval s = v) (hown : OwnW e w base v l) (hx : a.eval x = vx) (hm : nwordR.rel w S [vx] m) (hlen : l.length + m.length ≤ 1000000000000) (hbase : base ≤ w.heap.size)
    (hK : ∀ v' w', OwnW e w' base v' (l ++ m) → Below base w w' → wpList P ops Q rest (a.put o.dst v') w') : wpList P ops Q (o :: rest) a w := by
  obtain ⟨A, c, rfl, _, _⟩ := list_form hm.1
  have hI := word_i32 hm.1
  have hI2 : ∀ x ∈ l ++ m, I32 x := fun x hx => (List.mem_append.1 hx).elim (hown.2 x) (hI x)
  cases A with
  | none =>
    have h0 := word_none hm.1
    subst h0
    have hc := hm.2 _ _ rfl
    subst hc
    refine wpList_append_own_none hgd s x t ho base e i 1 ht hi v _ _ hs hown.1 hx (hK _ _ ?_ (Below.refl _ _))
    rw [List.append_nil]
    exact hown
  | some ad =>
    refine wpList_append_own w hgd s x t ho base e i z 1 4 ht hi hz hsize hby hzs (by decide) v l.length (encW l) hs hown.1 ad m.length c (encW m) hx (by rw [encW_len, Nat.mul_one]) (fun j u hu => (word_news hm.1 j u hu).2) encW_one (by unfold maxLen; omega) (by omega) hbase ?_
    intro v' w' h1 h2 _
    refine hK v' w' ⟨?_, hI2⟩ (below_grown hown.1 h2 (Nat.le_refl _) hbase)
    rw [List.length_append, encW_append]
    exact h1
end Go.Um
namespace Go.Proofs.YthfcbbdghggefaaGreat
open Go.RowKit Go.Um Go.Proofs
theorem heapLtW {w : World} {G : Nat} {o : Obj} (h : w.heap[G]? = some o) : G < w.heap.size := (Array.getElem?_eq_some_iff.1 h).1
theorem infoRn : (Tryz.prog.info? 21).map (fun i => (i.zero, i.size, i.bytes)) = some (some (.int .i32 0), 1, 4) := by kernel_rfl
theorem infoW : (Tryz.prog.info? 37).map (fun i => (i.zero, i.size, i.bytes)) = some (some (.slice none 0 0), 1, 24) := by kernel_rfl
set_option maxHeartbeats 1000000 in
set_option maxRecDepth 100000 in
theorem cloneW_calls (l : List Int) (v : Value) (w : World) (h : wordR.rel w (upto w.heap.size) [v] l) (hl : l.length ≤ 1000000000000) :
    Calls Tryz.prog 90 #[v] w fun e w' => ∃ u, e = .returned u ∧ nwordR.rel w' (Fresh w.heap.size w') [u] l ∧ Below w.heap.size w w' := by
  obtain ⟨A, c, rfl, hc, hm⟩ := list_form h
  obtain ⟨inf, hi0, hz0, hz1, hz2⟩ := info_parts infoRn
  cases A with
  | none =>
    have hl0 := word_none h
    subst hl0
    have hnil : ∀ W : World, (binOp .eql 37 (.slice none 0 c) (.slice none 0 0)).run Tryz.prog W = .ok (.bool true) W := fun W => Lib.run_eql_slice_nil_nil W 0 c Tryz.underlying37
    clear h
    go_enter Tryz.func90, Tryz.ntmps90
    go_wp2_with fail
    go_ret
    exact ⟨_, rfl, (OwnW.nil (e := 21) (base := w.heap.size)).fresh (Nat.le_refl _), Below.refl _ _⟩
  | some ad =>
    have hnews : ∀ (j : Nat) (u : Value), (encW l)[j]? = some u → (w.alloc (.cells #[] 21)).cell? (ad.add j) = some u := fun j u hu => by
      obtain ⟨h1, h2⟩ := word_news h j u hu
      have hb : (ad.add j).block = ad.block := by unfold Addr.add; split <;> rfl
      rw [World.cell?_of_block (Below.heap_alloc _ _ _ (by rw [hb]; exact h1))]
      exact h2
    have hI := word_i32 h
    have hown : (w.alloc (.cells #[] 21)).ownsRow w.heap.size 21 1 (.slice (some ⟨w.heap.size, 0, none⟩) 0 0) 0 [] := World.ownsRow_lit w #[] 0 (Nat.le_refl _) (Nat.zero_le _) rfl
    have hB0 : Below w.heap.size w (w.alloc (.cells #[] 21)) := (Below.refl _ w).alloc (Nat.le_refl _) _
    have hnil : ∀ W : World, (binOp .eql 37 (.slice (some ad) l.length c) (.slice none 0 0)).run Tryz.prog W = .ok (.bool false) W := fun W => Lib.run_eql_slice_some_nil W ad l.length c Tryz.underlying37
    clear h
    go_enter Tryz.func90, Tryz.ntmps90
    go_wp2_with (at_builtin; refine Hid.out ?_)
    refine hid ?_
    show wpList _ _ _ _ _ _
    refine wpList_append_own _ (by rfl) _ _ 37 (by rfl) w.heap.size 21 inf _ 1 4 Tryz.underlying37 hi0 hz0 hz1 hz2 rfl (by decide) (.slice (some ⟨w.heap.size, 0, none⟩) 0 0) _ _ (by rfl) hown ad l.length c (encW l) (by rfl) (by rw [encW_len]; omega) hnews encW_one (by unfold maxLen; omega) (by omega) (by simp) ?_
    intro v' w3 hown3 hg3 hn3
    rw [Nat.zero_add, List.nil_append] at hown3
    have hO : OwnW 21 w3 w.heap.size v' l := ⟨hown3, hI⟩
    have hF := hO.fresh (Nat.le_refl _)
    have hB3 := hB0.trans (below_grown hown hg3 (Nat.le_refl _) hB0.size)
    obtain ⟨A9, c9, rfl, _, _⟩ := list_form hF.1
    clear hown3 hg3 hn3 hO
    go_wp2_with fail
    go_ret
    exact ⟨_, rfl, hF, hB3⟩
set_option maxHeartbeats 1000000 in
set_option maxRecDepth 100000 in
theorem growW_calls (n : Nat) (w : World) (hn : n ≤ 1000000000000) : Calls Tryz.prog 89 #[.slice none 0 0, .int .i64 n] w fun e w' => ∃ u, e = .returned u ∧ OwnW 21 w' w.heap.size u [] ∧ Below w.heap.size w w' := by
  obtain ⟨inf, hi0, hz0, hz1, hz2⟩ := info_parts infoRn
  by_cases h0 : n = 0
  · subst h0
    go_enter Tryz.func89, Tryz.ntmps89
    go_wp2_with fail
    go_ret
    exact ⟨_, rfl, OwnW.nil, Below.refl _ _⟩
  · have h1 : ¬ ((n : Int) < 0) := by omega
    have h2 : (0 : Int) < n := by omega
    have hrz : ∀ ty, (Builtin.append_ #[37, 3] ty #[.slice none 0 0, .int .i64 (n : Int)]).run Tryz.prog w = .ok (.slice (some ⟨w.heap.size, 0, none⟩) n (grownCap w n 0 21)) (w.drew.alloc (.cells (Builtin.zeroCells (Value.int .i32 0).cells n ++ Builtin.zeroCells (Value.int .i32 0).cells (grownCap w n 0 21 - n)) 21)) := fun ty =>
      Lib.run_append_nil_zeros w 37 3 ty 21 inf _ .i64 .i64 Tryz.underlying37 Tryz.underlying3 hi0 hz0 n (by omega) (by rw [hz1]; decide) (by omega) (by rw [hz2]; omega)
    have hge := grownCap_ge w n 0 21
    have hle := grownCap_le_maxLen w n 0 21 (by unfold maxLen; omega)
    obtain ⟨G, hG⟩ : ∃ G, G = grownCap w n 0 21 := ⟨_, rfl⟩
    rw [← hG] at hge hle hrz
    obtain ⟨cs, hcs⟩ : ∃ cs, cs = Builtin.zeroCells (Value.int .i32 0).cells n ++ Builtin.zeroCells (Value.int .i32 0).cells (G - n) := ⟨_, rfl⟩
    have hsz : cs.size = G * 1 := by rw [hcs]; simp [Builtin.zeroCells, Value.cells]; omega
    rw [← hcs] at hrz
    have hO := World.ownsRow_made (base := w.heap.size) (e := 21) (size := 1) w.drew cs G (Nat.le_refl _) hle hsz
    have hB : Below w.heap.size w (w.drew.alloc (.cells cs 21)) := (Below.refl _ w).drew.alloc (Nat.le_refl _) _
    have HO := hid hO
    have HB := hid hB
    clear hG hcs hsz hO hB hi0 hz0 hz1 hz2 h0
    unfold maxLen at hle
    go_enter Tryz.func89, Tryz.ntmps89
    go_wp2_with (at_builtin; refine Hid.out ?_)
    refine hid ?_
    show wpList _ _ _ _ _ _
    refine Lib.wpList_append_run _ (by rfl) _ _ _ _ (by rfl) _ _ (by rfl) (by rfl) _ _ (hrz _) ?_
    go_wp2_with fail
    go_ret
    exact ⟨_, rfl, ⟨HO.out, fun x hx => by cases hx⟩, HB.out⟩
set_option maxHeartbeats 2000000 in
set_option maxRecDepth 100000 in
theorem Concat_calls (a b : List Int) (g : Nat) (v1 v2 : Value) (w : World) (hg : w.heap[g]? = some (.cells #[v1, v2] 37)) (ha : nwordR.rel w (upto w.heap.size) [v1] a) (hb : nwordR.rel w (upto w.heap.size) [v2] b)
    (la : a.length ≤ 100000000000) (lb : b.length ≤ 100000000000) :
    Calls Tryz.prog 54 #[.slice (some ⟨g, 0, none⟩) 2 2] w fun e w' => ∃ u, e = .returned u ∧ nwordR.rel w' (Fresh w.heap.size w') [u] (a ++ b) ∧ Below w.heap.size w w' := by
  have HG : Hid (∀ W : World, Calls Tryz.prog 89 #[.slice none 0 0, .int .i64 ((a.length : Int) + b.length)] W fun e w' => ∃ u, e = .returned u ∧ OwnW 21 w' W.heap.size u [] ∧ Below W.heap.size W w') := hid fun W => by
    have := growW_calls (a.length + b.length) W (by omega)
    rwa [Int.natCast_add] at this
  obtain ⟨inf, hi0, hz0, hz1, hz2⟩ := info_parts infoRn
  obtain ⟨A1, c1, rfl, _, _⟩ := list_form ha.1
  obtain ⟨A2, c2, rfl, _, _⟩ := list_form hb.1
  have q0 : w.cell? ⟨g, 0, none⟩ = some (.slice A1 a.length c1) := cell_of_row _ _ 0 _ _ _ hg
  have q1 : w.cell? ⟨g, 1, none⟩ = some (.slice A2 b.length c2) := cell_of_row _ _ 1 _ _ _ hg
  have hgl := heapLtW hg
  have n1 : ¬ ((a.length : Int) < 0) := by omega
  have n2 : ¬ ((a.length : Int) + b.length < 0) := by omega
  have n3 : (a.length : Int) ≤ 100000000000 := by omega
  have n4 : (b.length : Int) ≤ 100000000000 := by omega
  have HA := hid ha
  have HB := hid hb
  clear ha hb
  go_enter Tryz.func54, Tryz.ntmps54
  go_wp2_with fail
  refine wp_loop_rounds 3 ?_
  rw [rounds_succ]
  go_wp2_with fail
  rw [rounds_succ]
  go_wp2_with fail
  rw [rounds_succ]
  go_wp2_with fail
  refine (HG.out w).mono ?_
  rintro e w1 ⟨u1, rfl, hO1, hB1⟩
  replace q0 := (hB1.cell (p := ⟨g, 0, none⟩) hgl).trans q0
  replace q1 := (hB1.cell (p := ⟨g, 1, none⟩) hgl).trans q1
  obtain ⟨A3, n9, c3, rfl⟩ : ∃ A n c, u1 = Value.slice A n c := (list_form (hO1.rel (fun g h => h)).1).elim fun A h => h.elim fun c h => ⟨A, _, c, h.1⟩
  go_wp2_with fail
  refine wp_loop_rounds 3 ?_
  rw [rounds_succ]
  go_wp2_with (at_builtin; refine Hid.out ?_)
  refine hid ?_
  show wpList _ _ _ _ _ _
  refine wpList_append_word (by rfl) _ _ 37 (by rfl) w.heap.size 21 inf _ Tryz.underlying37 hi0 hz0 hz1 hz2 rfl _ (.slice A1 a.length c1) [] a (by rfl) hO1 (by rfl) (nwordR.mono (fun p hp => hB1.cell hp) (fun _ h => h) HA.out) (by simp; omega) hB1.size ?_
  intro v' w2 hO2 hB2
  rw [List.nil_append] at hO2
  have hb2 : Below w.heap.size w w2 := hB1.trans hB2
  replace q0 := (hB2.cell (p := ⟨g, 0, none⟩) hgl).trans q0
  replace q1 := (hB2.cell (p := ⟨g, 1, none⟩) hgl).trans q1
  obtain ⟨A4, n8, c4, rfl⟩ : ∃ A n c, v' = Value.slice A n c := (list_form (hO2.rel (fun g h => h)).1).elim fun A h => h.elim fun c h => ⟨A, _, c, h.1⟩
  go_wp2_with fail
  rw [rounds_succ]
  go_wp2_with (at_builtin; refine Hid.out ?_)
  refine hid ?_
  show wpList _ _ _ _ _ _
  refine wpList_append_word (by rfl) _ _ 37 (by rfl) w.heap.size 21 inf _ Tryz.underlying37 hi0 hz0 hz1 hz2 rfl _ (.slice A2 b.length c2) a b (by rfl) hO2 (by rfl) (nwordR.mono (fun p hp => hb2.cell hp) (fun _ h => h) HB.out) (by omega) hb2.size ?_
  intro v' w3 hO3 hB3
  have hb3 : Below w.heap.size w w3 := hb2.trans hB3
  obtain ⟨A5, n7, c5, rfl⟩ : ∃ A n c, v' = Value.slice A n c := (list_form (hO3.rel (fun g h => h)).1).elim fun A h => h.elim fun c h => ⟨A, _, c, h.1⟩
  clear hB1 hB2 hB3 hO1 hO2 hb2
  go_wp2_with fail
  rw [rounds_succ]
  go_wp2_with fail
  go_ret
  exact ⟨_, rfl, hO3.fresh (Nat.le_refl _), hb3⟩
end Go.Proofs.YthfcbbdghggefaaGreat
namespace Go.Proofs.YthfcbbdghggefaaGreat
open Go.RowKit Go.Um Go.Proofs
theorem six9W {W : World} {b : Nat} {x0 x1 x2 x3 x4 x5 : Value} {t : TypeId} (h : W.heap[b]? = some (.cells #[x0, x1, x2, x3, x4, x5] t)) :
    W.cell? ⟨b, 0, none⟩ = some x0 ∧ W.cell? ⟨b, 1, none⟩ = some x1 ∧ W.cell? ⟨b, 2, none⟩ = some x2 ∧ W.cell? ⟨b, 3, none⟩ = some x3 ∧ W.cell? ⟨b, 4, none⟩ = some x4 ∧ W.cell? ⟨b, 5, none⟩ = some x5 :=
  ⟨cell_of_row _ _ 0 _ _ _ h, cell_of_row _ _ 1 _ _ _ h, cell_of_row _ _ 2 _ _ _ h, cell_of_row _ _ 3 _ _ _ h, cell_of_row _ _ 4 _ _ _ h, cell_of_row _ _ 5 _ _ _ h⟩
theorem four9W {W : World} {b : Nat} {x0 x1 x2 x3 : Value} {t : TypeId} (h : W.heap[b]? = some (.cells #[x0, x1, x2, x3] t)) :
    W.cell? ⟨b, 0, none⟩ = some x0 ∧ W.cell? ⟨b, 1, none⟩ = some x1 ∧ W.cell? ⟨b, 2, none⟩ = some x2 ∧ W.cell? ⟨b, 3, none⟩ = some x3 :=
  ⟨cell_of_row _ _ 0 _ _ _ h, cell_of_row _ _ 1 _ _ _ h, cell_of_row _ _ 2 _ _ _ h, cell_of_row _ _ 3 _ _ _ h⟩
theorem sumV_snoc (l : List Part) (p : Part) (f : Int → Int) : sumV (l ++ [p]) f = sumV l f + valF p (f p.at_) := by simp [sumV]
theorem sumV_bd {l : List Part} (h : ∀ p ∈ l, bitsF p = true) (f : Int → Int) : 0 ≤ sumV l f ∧ sumV l f ≤ 67108864 * l.length := by
  induction l with
  | nil => simp [sumV]
  | cons p l ih =>
    have h1 := ih fun q hq => h q (List.mem_cons_of_mem _ hq)
    have h2 := valF_nonneg p (f p.at_)
    have h3 := valF_le (h p List.mem_cons_self) (f p.at_)
    have e : sumV (p :: l) f = valF p (f p.at_) + sumV l f := rfl
    rw [e, List.length_cons]
    push_cast
    omega
set_option maxHeartbeats 2000000 in
set_option maxRecDepth 100000 in
theorem tValue_calls (t : Term) (v u : Value) (win : List Int) (w : World) (h : (listR partR).rel w (upto w.heap.size) [v] t.parts) (hu : wordR.rel w (upto w.heap.size) [u] win) (hw : ∀ x ∈ win, 0 ≤ x ∧ x ≤ 1114111) (hp : ∀ p ∈ t.parts, rightP p win.length = true) (hn : numbersF t = true)
    (hi : 0 ≤ t.sum + sumV t.parts (fun q => win.getD q.toNat 0) ∧ t.sum + sumV t.parts (fun q => win.getD q.toNat 0) ≤ 1114111) :
    Calls Tryz.prog 88 #[tval t v, u] w fun e w' => e = .returned (.tuple #[.int .i64 (tvalF t win), .bool true]) ∧ Below w.heap.size w w' := by
  obtain ⟨n1, n2, n3, n4, n5⟩ := numbersF_iff.1 hn
  rw [smallN_iff] at n1 n2
  have HR := hid fun p (hp : rightP p win.length = true) W => (show Calls Tryz.prog 105 #[pval p, .int .i64 win.length] W (fun e w' => e = .returned (.bool true) ∧ Below W.heap.size W w') from by have := Right_calls p win.length W; rwa [hp] at this)
  have HV := hid fun p x W (hb : bitsF p = true) (h0 : 0 ≤ x) (h1 : x ≤ 1114111) => (show Calls Tryz.prog 106 #[pval p, .int .i64 x] W (fun e w' => e = .returned (.tuple #[.int .i64 (valF p x), .bool true]) ∧ Below W.heap.size W w') from by have := Value_calls p x W; rwa [if_pos ⟨hb, h0, by omega⟩] at this)
  obtain ⟨A, c, rfl, hc, hm⟩ := list_form h
  obtain ⟨B, d, rfl, hd, hm2⟩ := list_form hu
  unfold maxLen at hm hm2
  have HO := hid fun W => outer_calls t (.slice A t.parts.length c) W
  have hob : bitsF (outerT t) = true := n3
  obtain ⟨I, hI⟩ : ∃ I, I = t.sum + sumV t.parts (fun q => win.getD q.toNat 0) := ⟨_, rfl⟩
  rw [← hI] at hi
  have HVo := hid fun W => HV.out (outerT t) I W hob hi.1 hi.2
  have hT : tvalF t win = t.base + valF (outerT t) I := by rw [hI]; rfl
  rw [hT]
  obtain ⟨O, hO⟩ : ∃ O, O = valF (outerT t) I := ⟨_, rfl⟩
  have hO0 := valF_nonneg (outerT t) I
  have hO1 := valF_le hob I
  rw [← hO] at HVo hO0 hO1
  rw [← hO]
  have hpb : ∀ p ∈ t.parts, bitsF p = true := fun p hpm => (rightP_iff.1 (hp p hpm)).2.2
  have HI := hid hI
  clear hO hT hI n3 n4 hn hob
  unfold tval at HO ⊢
  unfold pval outerT at HO
  unfold pval outerT at HVo
  dsimp only at HO HVo
  obtain ⟨tb, td, tk, tu, ts, tp⟩ := t
  dsimp only at *
  obtain ⟨w1, hw1⟩ : ∃ w1, w1 = w.alloc (.cells #[.int .i64 tb, .int .i64 td, .int .i64 tk, .int .i64 tu, .int .i64 ts, .slice A tp.length c] 69) := ⟨_, rfl⟩
  have hX1 : w1.heap[w.heap.size]? = some (.cells #[.int .i64 tb, .int .i64 td, .int .i64 tk, .int .i64 tu, .int .i64 ts, .slice A tp.length c] 69) := by rw [hw1]; exact heap_alloc_new w _
  have hB1 : Below w.heap.size w w1 := by rw [hw1]; exact (Below.refl _ w).alloc (Nat.le_refl _) _
  have hBW := below_cells hB1
  have hp1 : (listR partR).rel w1 (upto w.heap.size) [.slice A tp.length c] tp := (listR partR).mono (fun p hp => hB1.cell hp) (fun _ h => h) h
  have hu1 : wordR.rel w1 (upto w.heap.size) [.slice B win.length d] win := wordR.mono (fun p hp => hB1.cell hp) (fun _ h => h) hu
  have HX1 := hid hX1
  have HB1 := hid hB1
  have HP := hid hp1
  have HU := hid hu1
  have HW := hid hw
  have HPR := hid hp
  have HPB := hid hpb
  have hsz1 : w.heap.size < w1.heap.size := heapLtW hX1
  obtain ⟨x0, x1, x2, x3, x4, x5⟩ := six9W hX1
  clear h hu hp1 hu1 hBW hw hp hpb hB1 hX1
  go_enter Tryz.func88, Tryz.ntmps88
  go_wp2_with fail
  rw [← hw1]
  clear hw1
  go_loop [17] (fun vi => ∃ k : Nat, k ≤ win.length ∧ vi = .int .i64 k) (fun vi => win.length - (intOf vi).toNat)
  case atStart => exact ⟨0, Nat.zero_le _, rfl⟩
  case round =>
    obtain ⟨k, hk, rfl⟩ := hrel
    by_cases hlt : k < win.length
    · have hlt' : (k : Int) < win.length := by omega
      obtain ⟨x, hx⟩ := at_lt hlt
      obtain ⟨b1, o1, rfl, hb1, hcx, _⟩ := rune_at HU.out hx
      obtain ⟨e1, e2⟩ := HW.out x (List.mem_of_getElem? hx)
      have e1' : ¬ x < 0 := by omega
      have e2' : ¬ 1114111 < x := by omega
      clear hx hlt
      go_wp2_with fail
      refine ⟨⟨k + 1, by omega, by go_num⟩, ?_⟩
      simp [intOf]; omega
    · have hlt' : ¬ (k : Int) < win.length := by omega
      clear hlt
      go_wp2_with fail
      go_loopw [8, 33] (fun vs vi wr => ∃ (k : Nat) (z : Int), k ≤ tp.length ∧ vi = .int .i64 k ∧ vs = .int .i64 z ∧ z = ts + sumV (tp.take k) (fun q => win.getD q.toNat 0) ∧ Below wr.heap.size wr wr ∧ Below w1.heap.size w1 wr) (fun _ vi _ => tp.length - (intOf vi).toNat)
      case atStart => exact ⟨0, ts, Nat.zero_le _, rfl, rfl, by simp [sumV], Below.refl _ _, Below.refl _ _⟩
      case round =>
        obtain ⟨k, z, hk, rfl, rfl, hz, _, hB⟩ := hrel
        obtain ⟨wo, hwo⟩ : ∃ wo, wo = wr := ⟨_, rfl⟩
        subst hwo
        have HZ := hid hz
        have hzb : -1114111 ≤ z ∧ z ≤ 1114111 + 67108864 * 4 := by
          have h9 := sumV_bd (l := tp.take k) (fun p hp => HPB.out p (List.mem_of_mem_take hp)) (fun q => win.getD q.toNat 0)
          have h8 := List.length_take_le k tp
          have h7 : ((tp.take k).length : Int) ≤ 4 := by omega
          omega
        obtain ⟨hzb1, hzb2⟩ := hzb
        have hszo := hB.size
        by_cases hlt2 : k < tp.length
        · have hlt2' : (k : Int) < tp.length := by omega
          obtain ⟨p, hpk⟩ := at_lt hlt2
          obtain ⟨b1, o1, rfl, hb1, c0, c1, c2, c3, hok⟩ := part_at HP.out hpk
          have hpm := List.mem_of_getElem? hpk
          have hpr := HPR.out p hpm
          obtain ⟨a1, a2, a3⟩ := rightP_iff.1 hpr
          obtain ⟨n, hna⟩ : ∃ n : Nat, p.at_ = n := ⟨p.at_.toNat, by omega⟩
          have hnl : n < win.length := by omega
          obtain ⟨x, hx⟩ := at_lt hnl
          obtain ⟨wb, wf, rfl, hwb, hcx, hx32⟩ := rune_at HU.out hx
          obtain ⟨e1, e2⟩ := HW.out x (List.mem_of_getElem? hx)
          have hv0 := valF_nonneg p x
          have hv1 := valF_le a3 x
          have HN : Hid (ts + sumV (tp.take (k + 1)) (fun q => win.getD q.toNat 0) = z + valF p x) := hid (by
            rw [List.take_add_one, hpk, Option.toList_some, sumV_snoc, hna, HZ.out]
            have hgx : win.getD (n : Int).toNat 0 = x := by rw [List.getD_eq_getElem?_getD, Int.toNat_natCast, hx]; rfl
            rw [hgx]
            omega)
          have HRx := hid fun W => HR.out p hpr W
          have HVx := hid fun W => HV.out p x W a3 e1 e2
          obtain ⟨g, hg⟩ : ∃ g, g = valF p x := ⟨_, rfl⟩
          rw [← hg] at hv0 hv1 HN HVx
          have hnl' : (n : Int) < win.length := by omega
          obtain ⟨pa, pd, pk, pu⟩ := p
          dsimp only at hna
          subst hna
          unfold pval at HRx HVx
          dsimp only at HRx HVx c0 c1 c2 c3
          have hbl : b1 < w1.heap.size := by omega
          have hwbl : wb < w1.heap.size := by have : wb < w.heap.size := hwb; omega
          replace c0 := (hB.cell (p := ⟨b1, o1 + k * 4, none⟩) hbl).trans c0
          replace c1 := (hB.cell (p := ⟨b1, o1 + k * 4 + 1, none⟩) hbl).trans c1
          replace c2 := (hB.cell (p := ⟨b1, o1 + k * 4 + 2, none⟩) hbl).trans c2
          replace c3 := (hB.cell (p := ⟨b1, o1 + k * 4 + 3, none⟩) hbl).trans c3
          replace hcx := (hB.cell (p := ⟨wb, wf + n, none⟩) hwbl).trans hcx
          have HBo := hid hB
          clear hz hg hpk hpm hpr a1 a2 a3 hx hok hx32 hb1 hwb hlt2 hB hnl
          go_wp2_with fail
          refine (HRx.out _).mono ?_
          rintro e w5 ⟨rfl, hB5⟩
          have hP5 := (hB5.block wo.heap.size (by simp)).trans (heap_alloc_new wo (.cells #[.int .i64 (n : Int), .int .i64 pd, .int .i64 pk, .int .i64 pu] 72))
          obtain ⟨y0, y1, y2, y3⟩ := four9W hP5
          have hB5o : Below wo.heap.size wo w5 := ((Below.refl _ wo).alloc (Nat.le_refl _) (.cells #[.int .i64 (n : Int), .int .i64 pd, .int .i64 pk, .int .i64 pu] 72)).trans (hB5.mono (by simp))
          replace hcx := (hB5o.cell (p := ⟨wb, wf + n, none⟩) (by exact Nat.lt_of_lt_of_le hwbl hszo)).trans hcx
          have HQ : Hid (∀ q, (q = wo.heap.size ∨ q = wb) → q < w5.heap.size) := hid fun q hq => hq.elim (fun h => h ▸ heapLtW hP5) (fun h => by have := hB5o.size; omega)
          clear c0 c1 c2 c3 hB5 hP5
          go_wp2_with fail
          obtain ⟨ι, Wc, ⟨i0, hi0'⟩, hWc, Wsur⟩ := held_class w5.drew (fun q => q = wo.heap.size ∨ q = wb)
          have hne : Nonempty ι := ⟨i0⟩
          have WS := hid Wsur; clear Wsur
          have HWc := hid hWc; clear hWc
          have Hi0 := hid hi0'; clear hi0'
          have q0 : ∀ i, (Wc i).cell? ⟨wo.heap.size, 0, none⟩ = some (.int .i64 (n : Int)) := fun i => (World.cell?_of_block (a := ⟨wo.heap.size, 0, none⟩) (HWc.out i _ (.inl rfl))).trans y0
          have q1 : ∀ i, (Wc i).cell? ⟨wo.heap.size, 1, none⟩ = some (.int .i64 pd) := fun i => (World.cell?_of_block (a := ⟨wo.heap.size, 1, none⟩) (HWc.out i _ (.inl rfl))).trans y1
          have q2 : ∀ i, (Wc i).cell? ⟨wo.heap.size, 2, none⟩ = some (.int .i64 pk) := fun i => (World.cell?_of_block (a := ⟨wo.heap.size, 2, none⟩) (HWc.out i _ (.inl rfl))).trans y2
          have q3 : ∀ i, (Wc i).cell? ⟨wo.heap.size, 3, none⟩ = some (.int .i64 pu) := fun i => (World.cell?_of_block (a := ⟨wo.heap.size, 3, none⟩) (HWc.out i _ (.inl rfl))).trans y3
          have q4 : ∀ i, (Wc i).cell? ⟨wb, wf + n, none⟩ = some (.int .i32 x) := fun i => (World.cell?_of_block (a := ⟨wb, wf + n, none⟩) (HWc.out i _ (.inr rfl))).trans hcx
          refine region_anyL (S := fun w' => ∃ i, w' = Wc i) (last := 13) (by kernel_rfl) ?_
          refine anyL_seg 0 7 (by kernel_rfl) (fun _ _ _ _ _ h => h) ⟨i0, Hi0.out.symm⟩ (f := 6) rfl (by kernel_rfl) (by kernel_rfl) ?_
          simp only [List.drop_zero, List.take_succ_cons, List.take_zero]
          repeat go_big_quiet_step (fail)
          refine wpQuiet_nil ?_
          refine anyL_act (i := 7) (by kernel_rfl) rfl rfl ?_
          intro K hK
          go_wp2_with fail
          refine (HVx.out w5.drew).mono ?_
          rintro e w6 ⟨rfl, hB6⟩
          have hB6w : Below w5.heap.size w5 w6 := ⟨hB6.os, hB6.tape, hB6.output, hB6.size, hB6.block⟩
          have hS6 : ∃ i, w6 = Wc i := WS.out _ (fun q hq => hB6w.block q (HQ.out q hq))
          go_wp2_with fail
          refine hK.out _ _ (fun _ => hS6) ?_
          clear hK K
          refine anyL_seg 8 5 (by kernel_rfl) (fun _ _ _ _ _ h => h) hS6 (f := 0) rfl (by kernel_rfl) (by kernel_rfl) ?_
          simp only [List.drop_succ_cons, List.drop_zero, List.take_succ_cons, List.take_zero]
          repeat go_big_quiet_step (fail)
          refine wpQuiet_nil ?_
          refine anyL_done (by kernel_rfl) ?_ 0
          clear q0 q1 q2 q3 q4 hS6 WS HWc Hi0 hne i0 Wc ι
          have hz5 := hB5o.size
          have HB6 := hid ((HBo.out.trans (hB5o.mono hszo)).trans (hB6w.mono (Nat.le_trans hszo hz5)))
          clear hB6 hB6w hB5o hcx y0 y1 y2 y3
          go_wp2_with fail
          refine ⟨⟨k + 1, z + g, by omega, by go_num, rfl, HN.out.symm, Below.refl _ _, HB6.out⟩, ?_⟩
          simp [intOf]; omega
        · obtain rfl : k = tp.length := by omega
          have hzI : z = I := by rw [HZ.out, List.take_length, HI.out]
          subst hzI
          obtain ⟨hi0, hi1⟩ := hi
          have hi2 : ¬ 1114111 < z := by omega
          have hXo := (hB.block w.heap.size hsz1).trans HX1.out
          have hlo := heapLtW hXo
          obtain ⟨y0, y1, y2, y3, y4, y5⟩ := six9W hXo
          have HXo := hid hXo
          have HBo := hid hB
          clear hz hlt2 hXo hB
          go_wp2_with fail
          refine (HO.out _).mono ?_
          rintro e w5 ⟨rfl, hB5⟩
          have h5s := hB5.size
          have HX5 := hid ((hB5.block w.heap.size (by omega)).trans HXo.out)
          have HB5 := hid (HBo.out.trans (hB5.mono hszo))
          clear hB5 y0 y1 y2 y3 y4 y5
          go_wp2_with fail
          refine (HVo.out _).mono ?_
          rintro e w6 ⟨rfl, hB6⟩
          have hX6 := (hB6.block w.heap.size (by omega)).trans HX5.out
          have hl6 := heapLtW hX6
          obtain ⟨y0, y1, y2, y3, y4, y5⟩ := six9W hX6
          have HB6 := hid (HB1.out.trans ((HB5.out.trans (hB6.mono (Nat.le_trans hszo h5s))).mono (Nat.le_of_lt hsz1)))
          clear hB6 hX6
          go_wp2_with fail
          go_ret2
          exact ⟨rfl, HB6.out⟩
end Go.Proofs.YthfcbbdghggefaaGreat
namespace Go.Proofs.YthfcbbdghggefaaGreat
open Go.RowKit Go.Um Go.Proofs
set_option maxHeartbeats 2000000 in
set_option maxRecDepth 100000 in
theorem rfits_calls (RB : Nat) (vx gv : Value) (x : List Int) (gs : List (List Span)) (a : Nat) (w : World) (hc : w.cell? ⟨RB, 6, none⟩ = some vx) (hx : wordR.rel w (upto w.heap.size) [vx] x) (hg : (listR spansR).rel w (upto w.heap.size) [gv] gs) (ha : a ≤ x.length) :
    Calls Tryz.prog 53 #[.pointer (some ⟨RB, 0, none⟩), gv, .int .i64 a] w fun e w' => e = .returned (.bool (fitsB x gs a)) ∧ Below w.heap.size w w' := by
  have HH := hid fun l z v W h => Has_calls l z v W h
  obtain ⟨A, c, rfl, hc1, hm⟩ := list_form hg
  obtain ⟨B, d, rfl, hd1, hm2⟩ := list_form hx
  unfold maxLen at hm hm2
  have hRB : RB < w.heap.size := block_lt_of_cell hc
  by_cases hle : (gs.length : Int) ≤ (x.length : Int) - a
  · have hle' : ¬ ((x.length : Int) - a < gs.length) := by omega
    have HX := hid hx
    have HG := hid hg
    clear hx hg
    go_enter Tryz.func53, Tryz.ntmps53
    go_wp2_with fail
    go_loopw [21] (fun vi wr => ∃ k : Nat, k ≤ gs.length ∧ vi = .int .i64 k ∧ fitsL (gs.drop k) (x.drop (a + k)) = fitsB x gs a ∧ Below w.heap.size w wr) (fun vi _ => gs.length - (intOf vi).toNat)
    case atStart => exact ⟨0, Nat.zero_le _, rfl, rfl, Below.refl _ _⟩
    case round =>
      obtain ⟨k, hk, rfl, hp, hB⟩ := hrel
      obtain ⟨wo, hwo⟩ : ∃ wo, wo = wr := ⟨_, rfl⟩
      subst hwo
      have HP := hid hp; clear hp
      have hcw := (hB.cell (p := ⟨RB, 6, none⟩) hRB).trans hc
      by_cases hlt : k < gs.length
      · obtain ⟨g, hgk⟩ := at_lt hlt
        obtain ⟨z, hz⟩ := at_lt (xs := x) (i := a + k) (by omega)
        obtain ⟨b1, o1, y, rfl, hb1, hy, hcg⟩ := list_at1 rfl ((listR spansR).mono (below_cells hB) (fun _ h => h) HG.out) hgk
        obtain ⟨b2, o2, rfl, hb2, hcz, hz32⟩ := rune_at (wordR.mono (below_cells hB) (fun _ h => h) HX.out) hz
        have HHx := hid (HH.out g z y wo (spansR.mono (fun _ _ => rfl) (fun b hb => Nat.lt_of_lt_of_le hb hB.size) hy))
        have HP2 := hid (HP.out.symm.trans (fitsL_cons hgk hz))
        obtain ⟨A3, c3, rfl, _, _⟩ := list_form hy
        have hlt' : (k : Int) < gs.length := by omega
        have hlx : (a : Int) + k < x.length := by omega
        have hbs := hB.size
        have HB := hid hB
        obtain ⟨z1, z2⟩ := hz32
        clear hgk hz hy hB hlt
        obtain ⟨t, ht⟩ : ∃ t, t = hasI g z := ⟨_, rfl⟩
        rw [← ht] at HHx HP2
        clear ht
        cases t with
        | true =>
          have hF : Hid (fitsL (gs.drop (k + 1)) (x.drop (a + (k + 1))) = fitsB x gs a) := hid (by rw [HP2.out, Bool.true_and]; rfl)
          go_wp2_with fail
          refine HHx.out.mono ?_
          rintro e w1 ⟨rfl, hB1⟩
          have HB1 := hid (HB.out.trans (hB1.mono hbs))
          clear hB1
          go_wp2_with fail
          refine ⟨⟨k + 1, by omega, by go_num, hF.out, HB1.out⟩, ?_⟩
          simp [intOf]; omega
        | false =>
          have hF : Hid (false = fitsB x gs a) := hid (by rw [HP2.out, Bool.false_and])
          go_wp2_with fail
          refine HHx.out.mono ?_
          rintro e w1 ⟨rfl, hB1⟩
          have HB1 := hid (HB.out.trans (hB1.mono hbs))
          clear hB1
          go_wp2_with fail
          go_ret
          exact ⟨by rw [← hF.out]; rfl, HB1.out⟩
      · have hke : k = gs.length := by omega
        subst hke
        have hF : Hid (true = fitsB x gs a) := hid (by rw [← HP.out]; simp [fitsL])
        clear HP
        go_wp2_with fail
        go_ret
        exact ⟨by rw [← hF.out]; rfl, hB⟩
  · have hle' : (x.length : Int) - a < gs.length := by omega
    have hF : Hid (false = fitsB x gs a) := hid (by
      cases hb : fitsB x gs a with
      | false => rfl
      | true =>
        have := (fitsB_iff.1 hb).1
        omega)
    clear hx hg
    go_enter Tryz.func53, Tryz.ntmps53
    go_wp2_with fail
    go_ret
    exact ⟨by rw [← hF.out]; rfl, Below.refl _ _⟩
end Go.Proofs.YthfcbbdghggefaaGreat
namespace Go.Proofs.YthfcbbdghggefaaGreat
open Go.RowKit Go.Um Go.Proofs
def endsB (x : List Int) (gs : List (List Span)) (a : Nat) : Bool := decide (gs.length + a = x.length) && fitsB x gs a
set_option maxHeartbeats 2000000 in
set_option maxRecDepth 100000 in
theorem ends_calls (RB : Nat) (vx gv ov : Value) (fs : Int) (x : List Int) (gs : List (List Span)) (a : Nat) (w : World) (hc : w.cell? ⟨RB, 6, none⟩ = some vx) (hx : wordR.rel w (upto w.heap.size) [vx] x) (hg : (listR spansR).rel w (upto w.heap.size) [gv] gs) (ha : a ≤ x.length) :
    Calls Tryz.prog 51 #[.pointer (some ⟨RB, 0, none⟩), .agg #[.int .i64 fs, gv, ov], .int .i64 a] w fun e w' => e = .returned (.bool (endsB x gs a)) ∧ Below w.heap.size w w' := by
  obtain ⟨A, c, rfl, hc1, hm⟩ := list_form hg
  obtain ⟨B, d, rfl, hd1, hm2⟩ := list_form hx
  unfold maxLen at hm hm2
  have hRB : RB < w.heap.size := block_lt_of_cell hc
  have hB0 : Below w.heap.size w (w.alloc (.cells #[.int .i64 fs, .slice A gs.length c, ov] 49)) := (Below.refl _ w).alloc (Nat.le_refl _) _
  have HF := hid fun W (hW : Below w.heap.size w W) => rfits_calls RB (.slice B x.length d) (.slice A gs.length c) x gs a W ((hW.cell (p := ⟨RB, 6, none⟩) hRB).trans hc) (wordR.mono (below_cells hW) (fun b hb => Nat.lt_of_lt_of_le hb hW.size) hx) ((listR spansR).mono (below_cells hW) (fun b hb => Nat.lt_of_lt_of_le hb hW.size) hg) ha
  have HB0 := hid hB0
  by_cases he : (gs.length : Int) = (x.length : Int) - a
  · have he' : ((gs.length : Int) == (x.length : Int) - a) = true := by simpa using he
    have hE : Hid (endsB x gs a = fitsB x gs a) := hid (by unfold endsB; rw [decide_eq_true (by omega), Bool.true_and])
    clear hx hg he hB0
    go_enter Tryz.func51, Tryz.ntmps51
    go_wp2_with fail
    obtain ⟨ι, Wc, ⟨i0, hi0'⟩, hWc, Wsur⟩ := held_class (w.alloc (.cells #[.int .i64 fs, .slice A gs.length c, ov] 49)).drew (fun q => q = w.heap.size ∨ q = RB)
    have hne : Nonempty ι := ⟨i0⟩
    have WS := hid Wsur; clear Wsur
    have HWc := hid hWc; clear hWc
    have Hi0 := hid hi0'; clear hi0'
    have q0 : ∀ i, (Wc i).cell? ⟨w.heap.size, 1, none⟩ = some (.slice A gs.length c) := fun i => (World.cell?_of_block (a := ⟨w.heap.size, 1, none⟩) (HWc.out i _ (.inl rfl))).trans (cell_of_row _ _ 1 _ _ _ (heap_alloc_new w (.cells #[.int .i64 fs, .slice A gs.length c, ov] 49)))
    have q1 : ∀ i, (Wc i).cell? ⟨RB, 6, none⟩ = some (.slice B x.length d) := fun i => (World.cell?_of_block (a := ⟨RB, 6, none⟩) (HWc.out i _ (.inr rfl))).trans ((World.cell?_of_block (a := ⟨RB, 6, none⟩) (Below.heap_alloc _ _ _ hRB)).trans hc)
    refine region_anyL (S := fun w' => ∃ i, w' = Wc i) (last := 19) (by kernel_rfl) ?_
    refine anyL_seg 0 16 (by kernel_rfl) (fun _ _ _ _ _ h => h) ⟨i0, Hi0.out.symm⟩ (f := 3) rfl (by kernel_rfl) (by kernel_rfl) ?_
    simp only [List.drop_zero, List.take_succ_cons, List.take_zero]
    repeat go_big_quiet_step (fail)
    refine wpQuiet_nil ?_
    refine anyL_actG (i := 16) (by kernel_rfl) rfl (by rfl) ?_
    intro K hK
    go_wp2_with fail
    refine (HF.out _ HB0.out.drew).mono ?_
    rintro e w5 ⟨rfl, hB5⟩
    have HB5 : Below w.heap.size w w5 := HB0.out.drew.trans (hB5.mono (by simp))
    have hS5 : ∃ i, w5 = Wc i := WS.out _ (fun q hq => hB5.block q (by rcases hq with rfl | rfl <;> (simp <;> omega)))
    go_wp2_with fail
    refine hK.out _ _ (fun _ => hS5) ?_
    clear hK K
    refine anyL_seg 17 2 (by kernel_rfl) (fun _ _ _ _ _ h => h) hS5 (f := 0) rfl (by kernel_rfl) (by kernel_rfl) ?_
    simp only [List.drop_succ_cons, List.drop_zero, List.take_succ_cons, List.take_zero]
    repeat go_big_quiet_step (fail)
    refine wpQuiet_nil ?_
    refine anyL_done (by kernel_rfl) ?_ 0
    go_wp2_with fail
    go_ret
    exact ⟨by rw [hE.out]; rfl, HB5⟩
  · have he' : ((gs.length : Int) == (x.length : Int) - a) = false := by simpa using he
    have hE : Hid (false = endsB x gs a) := hid (by unfold endsB; rw [decide_eq_false (by omega), Bool.false_and])
    clear hx hg he HF hB0
    go_enter Tryz.func51, Tryz.ntmps51
    go_wp2_with fail
    obtain ⟨ι, Wc, ⟨i0, hi0'⟩, hWc, Wsur⟩ := held_class (w.alloc (.cells #[.int .i64 fs, .slice A gs.length c, ov] 49)).drew (fun q => q = w.heap.size ∨ q = RB)
    have hne : Nonempty ι := ⟨i0⟩
    have WS := hid Wsur; clear Wsur
    have HWc := hid hWc; clear hWc
    have Hi0 := hid hi0'; clear hi0'
    have q0 : ∀ i, (Wc i).cell? ⟨w.heap.size, 1, none⟩ = some (.slice A gs.length c) := fun i => (World.cell?_of_block (a := ⟨w.heap.size, 1, none⟩) (HWc.out i _ (.inl rfl))).trans (cell_of_row _ _ 1 _ _ _ (heap_alloc_new w (.cells #[.int .i64 fs, .slice A gs.length c, ov] 49)))
    have q1 : ∀ i, (Wc i).cell? ⟨RB, 6, none⟩ = some (.slice B x.length d) := fun i => (World.cell?_of_block (a := ⟨RB, 6, none⟩) (HWc.out i _ (.inr rfl))).trans ((World.cell?_of_block (a := ⟨RB, 6, none⟩) (Below.heap_alloc _ _ _ hRB)).trans hc)
    refine region_anyL (S := fun w' => ∃ i, w' = Wc i) (last := 19) (by kernel_rfl) ?_
    refine anyL_seg 0 16 (by kernel_rfl) (fun _ _ _ _ _ h => h) ⟨i0, Hi0.out.symm⟩ (f := 3) rfl (by kernel_rfl) (by kernel_rfl) ?_
    simp only [List.drop_zero, List.take_succ_cons, List.take_zero]
    repeat go_big_quiet_step (fail)
    refine wpQuiet_nil ?_
    refine anyL_skip (i := 16) (by kernel_rfl) rfl (by rfl) ⟨i0, Hi0.out.symm⟩ ?_
    go_simp
    refine anyL_seg 17 2 (by kernel_rfl) (fun _ _ _ _ _ h => h) ⟨i0, Hi0.out.symm⟩ (f := 0) rfl (by kernel_rfl) (by kernel_rfl) ?_
    simp only [List.drop_succ_cons, List.drop_zero, List.take_succ_cons, List.take_zero]
    repeat go_big_quiet_step (fail)
    refine wpQuiet_nil ?_
    refine anyL_done (by kernel_rfl) ?_ 0
    go_wp2_with fail
    go_ret
    exact ⟨by rw [← hE.out]; rfl, HB0.out.drew⟩
end Go.Proofs.YthfcbbdghggefaaGreat
namespace Go.Um
open Go.RowKit
theorem nword_one {w : World} {x : Int} (t : TypeId) (hx : I32 x) : nwordR.rel (w.alloc (.cells #[.int .i32 x] t)) (Fresh w.heap.size (w.alloc (.cells #[.int .i32 x] t))) [.slice (some ⟨w.heap.size, 0, none⟩) 1 1] [x] := by
  refine ⟨⟨_, _, _, rfl, rfl, Nat.le_refl _, by unfold maxLen; omega, .inr ⟨w.heap.size, 0, rfl, ⟨Nat.le_refl _, by simp⟩, fun i y hi => ?_⟩⟩, fun n c h => by injection h with h; injection h with h; cases h⟩
  cases i with
  | succ i => simp at hi
  | zero =>
    simp at hi
    subst hi
    refine ⟨[.int .i32 x], ⟨rfl, hx⟩, fun j v hv => ?_⟩
    cases j with
    | succ j => simp at hv
    | zero =>
      simp at hv
      subst hv
      exact cell_of_row _ _ 0 _ _ _ (heap_alloc_new w _)
theorem list_front {α : Type} {r : RepOf α} {w : World} {S : Nat → Prop} {A : Option Addr} {n cap : Nat} {xs : List α} (h : (listR r).rel w S [.slice A n cap] xs) {m : Nat} (hm : m ≤ xs.length) : (listR r).rel w S [.slice A m cap] (xs.take m) := by
  obtain ⟨A', n', cap', he, hn, hc, hx, hl⟩ := h
  injection he with he
  injection he with h1 h2 h3
  subst h1 h2 h3
  refine ⟨_, m, _, rfl, by simp; omega, by omega, hx, ?_⟩
  rcases hl with hl | ⟨b, o, hA, hS, hel⟩
  · exact .inl (by omega)
  · refine .inr ⟨b, o, hA, hS, fun i x hi => hel i x ?_⟩
    rw [List.getElem?_take] at hi
    split at hi
    · exact hi
    · simp at hi
end Go.Um
namespace Go.Proofs.YthfcbbdghggefaaGreat
open Go.RowKit Go.Um Go.Proofs
/-- a term that may be reckoned of a window. -/
def okT (t : Term) (win : List Int) : Prop := numbersF t = true ∧ (∀ p ∈ t.parts, rightP p win.length = true) ∧ (0 ≤ t.sum + sumV t.parts (fun q => win.getD q.toNat 0) ∧ t.sum + sumV t.parts (fun q => win.getD q.toNat 0) ≤ 1114111) ∧ 0 ≤ tvalF t win ∧ tvalF t win ≤ 1114111
theorem win_len {x : List Int} {a n : Nat} (h : a + n ≤ x.length) : (winF x a n).length = n := by unfold winF; simp; omega
theorem win_rel {w : World} {S : Nat → Prop} {A : Option Addr} {n c : Nat} {x : List Int} {a m : Nat} (h : wordR.rel w S [.slice A n c] x) (hm : a + m ≤ x.length) : wordR.rel w S [.slice (if c = a then A else A.map (·.add a)) m (c - a)] (winF x a m) := by
  have hn := (list_len h).1
  have h1 := list_cut (k := a) h (by omega)
  have h2 := list_front h1 (m := m) (by simp; omega)
  have hw : runeR.width = 1 := rfl
  rw [hw, Nat.mul_one] at h2
  exact h2
set_option maxHeartbeats 1000000 in
set_option maxRecDepth 100000 in
theorem rwrites_calls (RB : Nat) (vx tv : Value) (x : List Int) (ts : List Term) (a n : Nat) (w : World) (hc : w.cell? ⟨RB, 6, none⟩ = some vx) (hx : wordR.rel w (upto w.heap.size) [vx] x) (ht : (listR termR).rel w (upto w.heap.size) [tv] ts) (han : a + n ≤ x.length)
    (hxs : ∀ z ∈ x, 0 ≤ z ∧ z ≤ 1114111) (hok : ∀ t ∈ ts, okT t (winF x a n)) (hl : ts.length ≤ 1000000) :
    Calls Tryz.prog 52 #[.pointer (some ⟨RB, 0, none⟩), tv, .int .i64 a, .int .i64 n] w fun e w' => ∃ u, e = .returned u ∧ OwnW 21 w' w.heap.size u (writesV ts (winF x a n)) ∧ Below w.heap.size w w' := by
  obtain ⟨inf, hi0, hz0, hz1, hz2⟩ := info_parts infoRn
  obtain ⟨A, c, rfl, hc1, hm⟩ := list_form ht
  obtain ⟨B, d, rfl, hd1, hm2⟩ := list_form hx
  unfold maxLen at hm hm2
  have hRB : RB < w.heap.size := block_lt_of_cell hc
  have hwl := win_len han
  have HX := hid hx
  have HT := hid ht
  have HOK := hid hok
  have HXS := hid hxs
  obtain ⟨win, hwin⟩ : ∃ win, win = winF x a n := ⟨_, rfl⟩
  have HW := hid hwin
  have HWI : Hid (∀ z ∈ win, 0 ≤ z ∧ z ≤ 1114111) := hid (by
    rw [hwin]
    intro z hz
    unfold winF at hz
    exact hxs z (List.mem_of_mem_drop (List.mem_of_mem_take hz)))
  rw [← hwin] at HOK hwl ⊢
  clear hx ht hok hxs hwin
  go_enter Tryz.func52, Tryz.ntmps52
  go_wp2_with fail
  go_loopw [9, 16] (fun vo vi wr => ∃ k : Nat, k ≤ ts.length ∧ vi = .int .i64 k ∧ OwnW 21 wr w.heap.size vo (writesV (ts.take k) win) ∧ Below w.heap.size w wr) (fun _ vi _ => ts.length - (intOf vi).toNat)
  case atStart => exact ⟨0, Nat.zero_le _, rfl, OwnW.nil, Below.refl _ _⟩
  case round =>
    obtain ⟨k, hk, rfl, hO, hB⟩ := hrel
    obtain ⟨wo, hwo⟩ : ∃ wo, wo = wr := ⟨_, rfl⟩
    subst hwo
    have hbs := hB.size
    have hcw := (hB.cell (p := ⟨RB, 6, none⟩) hRB).trans hc
    obtain ⟨L, hL⟩ : ∃ L, L = writesV (ts.take k) win := ⟨_, rfl⟩
    have hLl : L.length ≤ 1000000 := by rw [hL]; unfold writesV; rw [List.length_map, List.length_take]; omega
    rw [← hL] at hO
    have HO := hid hO
    have HB := hid hB
    obtain ⟨Ao, co, rfl, _, _⟩ := list_form (HO.out.rel (S := fun _ => True) (fun g _ => trivial)).1
    by_cases hlt : k < ts.length
    · obtain ⟨t, htk⟩ := at_lt hlt
      have hlt' : (k : Int) < ts.length := by omega
      obtain ⟨b1, o1, y, rfl, hb1, c0, c1, c2, c3, c4, c5, hti, hpr⟩ := term_at ((listR termR).mono (below_cells hB) (fun _ h => h) HT.out) htk
      have hb1l : b1 < wo.heap.size := Nat.lt_of_lt_of_le hb1 hbs
      obtain ⟨o1', o2', o3', o4', o5'⟩ := HOK.out t (List.mem_of_getElem? htk)
      have hprw : (listR partR).rel wo (upto wo.heap.size) [y] t.parts := (listR partR).mono (fun _ _ => rfl) (fun b hb => Nat.lt_of_lt_of_le hb hbs) hpr
      obtain ⟨A3, c3', rfl, _, _⟩ := list_form hpr
      have HSN : Hid (writesV (ts.take (k + 1)) win = L ++ [tvalF t win]) := hid (by rw [List.take_add_one, htk, hL]; simp [writesV])
      have hwr := win_rel (a := a) (m := n) (wordR.mono (w' := wo) (S' := upto wo.heap.size) (below_cells hB) (fun b hb => Nat.lt_of_lt_of_le hb hbs) HX.out) han
      rw [← HW.out] at hwr
      have HV := hid fun W (hW : Below wo.heap.size wo W) => tValue_calls t (.slice A3 t.parts.length c3') _ win W ((listR partR).mono (below_cells hW) (fun b hb => Nat.lt_of_lt_of_le hb hW.size) hprw) (wordR.mono (below_cells hW) (fun b hb => Nat.lt_of_lt_of_le hb hW.size) hwr) HWI.out o2' o1' o3'
      obtain ⟨V, hV⟩ : ∃ V, V = tvalF t win := ⟨_, rfl⟩
      rw [← hV] at HV o4' o5' HSN
      unfold tval at HV
      obtain ⟨tb, td, tk, tu, tS, tp⟩ := t
      dsimp only at HV c0 c1 c2 c3 c4 c5
      have HB0 := hid ((Below.refl wo.heap.size wo).alloc (Nat.le_refl _) (.cells #[.int .i64 tb, .int .i64 td, .int .i64 tk, .int .i64 tu, .int .i64 tS, .slice A3 tp.length c3'] 69))
      clear hV hpr hprw hwr o1' o2' o3' htk hti hO hB hlt hL
      by_cases hda : d = a
      · rw [if_pos hda, show d - a = 0 by omega] at HV
        go_wp2_with fail
        obtain ⟨ι, Wc, ⟨i0, hi0'⟩, hWc, Wsur⟩ := held_class (wo.alloc (.cells #[.int .i64 tb, .int .i64 td, .int .i64 tk, .int .i64 tu, .int .i64 tS, .slice A3 tp.length c3'] 69)).drew (fun q => q = wo.heap.size ∨ q = RB)
        have hne : Nonempty ι := ⟨i0⟩
        have WS := hid Wsur; clear Wsur
        have HWc := hid hWc; clear hWc
        have Hi0 := hid hi0'; clear hi0'
        have q0 : ∀ i, (Wc i).cell? ⟨wo.heap.size, 0, none⟩ = some (.int .i64 tb) := fun i => (World.cell?_of_block (a := ⟨wo.heap.size, 0, none⟩) (HWc.out i _ (.inl rfl))).trans (cell_of_row _ _ 0 _ _ _ (heap_alloc_new wo (.cells #[.int .i64 tb, .int .i64 td, .int .i64 tk, .int .i64 tu, .int .i64 tS, .slice A3 tp.length c3'] 69)))
        have q1 : ∀ i, (Wc i).cell? ⟨wo.heap.size, 1, none⟩ = some (.int .i64 td) := fun i => (World.cell?_of_block (a := ⟨wo.heap.size, 1, none⟩) (HWc.out i _ (.inl rfl))).trans (cell_of_row _ _ 1 _ _ _ (heap_alloc_new wo (.cells #[.int .i64 tb, .int .i64 td, .int .i64 tk, .int .i64 tu, .int .i64 tS, .slice A3 tp.length c3'] 69)))
        have q2 : ∀ i, (Wc i).cell? ⟨wo.heap.size, 2, none⟩ = some (.int .i64 tk) := fun i => (World.cell?_of_block (a := ⟨wo.heap.size, 2, none⟩) (HWc.out i _ (.inl rfl))).trans (cell_of_row _ _ 2 _ _ _ (heap_alloc_new wo (.cells #[.int .i64 tb, .int .i64 td, .int .i64 tk, .int .i64 tu, .int .i64 tS, .slice A3 tp.length c3'] 69)))
        have q3 : ∀ i, (Wc i).cell? ⟨wo.heap.size, 3, none⟩ = some (.int .i64 tu) := fun i => (World.cell?_of_block (a := ⟨wo.heap.size, 3, none⟩) (HWc.out i _ (.inl rfl))).trans (cell_of_row _ _ 3 _ _ _ (heap_alloc_new wo (.cells #[.int .i64 tb, .int .i64 td, .int .i64 tk, .int .i64 tu, .int .i64 tS, .slice A3 tp.length c3'] 69)))
        have q4 : ∀ i, (Wc i).cell? ⟨wo.heap.size, 4, none⟩ = some (.int .i64 tS) := fun i => (World.cell?_of_block (a := ⟨wo.heap.size, 4, none⟩) (HWc.out i _ (.inl rfl))).trans (cell_of_row _ _ 4 _ _ _ (heap_alloc_new wo (.cells #[.int .i64 tb, .int .i64 td, .int .i64 tk, .int .i64 tu, .int .i64 tS, .slice A3 tp.length c3'] 69)))
        have q5 : ∀ i, (Wc i).cell? ⟨wo.heap.size, 5, none⟩ = some (.slice A3 tp.length c3') := fun i => (World.cell?_of_block (a := ⟨wo.heap.size, 5, none⟩) (HWc.out i _ (.inl rfl))).trans (cell_of_row _ _ 5 _ _ _ (heap_alloc_new wo (.cells #[.int .i64 tb, .int .i64 td, .int .i64 tk, .int .i64 tu, .int .i64 tS, .slice A3 tp.length c3'] 69)))
        have q6 : ∀ i, (Wc i).cell? ⟨RB, 6, none⟩ = some (.slice B x.length d) := fun i => (World.cell?_of_block (a := ⟨RB, 6, none⟩) (HWc.out i _ (.inr rfl))).trans ((World.cell?_of_block (a := ⟨RB, 6, none⟩) (Below.heap_alloc _ _ _ (Nat.lt_of_lt_of_le hRB hbs))).trans hcw)
        refine region_anyL (S := fun w' => ∃ i, w' = Wc i) (last := 16) (by kernel_rfl) ?_
        refine anyL_seg 0 10 (by kernel_rfl) (fun _ _ _ _ _ h => h) ⟨i0, Hi0.out.symm⟩ (f := 6) rfl (by kernel_rfl) (by kernel_rfl) ?_
        simp only [List.drop_zero, List.take_succ_cons, List.take_zero]
        repeat go_big_quiet_step (fail)
        refine wpQuiet_nil ?_
        refine anyL_act (i := 10) (by kernel_rfl) rfl rfl ?_
        intro K hK
        go_wp2_with fail
        refine (HV.out _ HB0.out.drew).mono ?_
        rintro e w5 ⟨rfl, hB5⟩
        have HB5 : Below wo.heap.size wo w5 := HB0.out.drew.trans (hB5.mono (by simp))
        have hS5 : ∃ i, w5 = Wc i := WS.out _ (fun q hq => hB5.block q (by rcases hq with rfl | rfl <;> (simp <;> omega)))
        go_wp2_with fail
        refine hK.out _ _ (fun _ => hS5) ?_
        clear hK K
        refine anyL_seg 11 5 (by kernel_rfl) (fun _ _ _ _ _ h => h) hS5 (f := 0) rfl (by kernel_rfl) (by kernel_rfl) ?_
        simp only [List.drop_succ_cons, List.drop_zero, List.take_succ_cons, List.take_zero]
        repeat go_big_quiet_step (fail)
        refine wpQuiet_nil ?_
        refine anyL_done (by kernel_rfl) ?_ 0
        clear q0 q1 q2 q3 q4 q5 q6 hS5 WS HWc Hi0 hne i0 Wc ι HV
        clear HB0 hB5
        go_wp2_with (at_builtin; refine Hid.out ?_)
        refine hid ?_
        have hs5 := HB5.size
        have hO5 : OwnW 21 w5 w.heap.size (.slice Ao L.length co) L := ⟨ownsRow_kept HO.out.1 (fun g hg => HB5.block g (HO.out.1.lt g hg).2), HO.out.2⟩
        have hV32 : I32 V := ⟨by omega, by omega⟩
        show wpList _ _ _ _ _ _
        refine wpList_append_word (by rfl) _ _ 37 (by rfl) w.heap.size 21 inf _ Tryz.underlying37 hi0 hz0 hz1 hz2 rfl _ (.slice (some ⟨w5.heap.size, 0, none⟩) 1 1) L [V] (by rfl) ⟨hO5.1.alloc _, hO5.2⟩ (by rfl) (nword_one _ hV32) (by simp; omega) (by simp; omega) ?_
        intro v' w6 hO6 hB6
        obtain ⟨A9, c9, rfl, _, _⟩ := list_form (hO6.rel (S := fun _ => True) (fun g _ => trivial)).1
        rw [show (L ++ [V]).length = L.length + 1 by simp] at hO6 ⊢
        have HO6 := hid hO6
        have HB6 := hid ((HB.out.trans ((HB5.alloc (by omega) _).mono hbs)).trans hB6)
        clear hO6 hB6 hO5 HB5
        go_wp2_with fail
        refine ⟨⟨k + 1, by omega, by go_num, (by rw [HSN.out]; exact HO6.out), HB6.out⟩, ?_⟩
        simp [intOf]; omega
      · rw [if_neg hda] at HV
        go_wp2_with fail
        obtain ⟨ι, Wc, ⟨i0, hi0'⟩, hWc, Wsur⟩ := held_class (wo.alloc (.cells #[.int .i64 tb, .int .i64 td, .int .i64 tk, .int .i64 tu, .int .i64 tS, .slice A3 tp.length c3'] 69)).drew (fun q => q = wo.heap.size ∨ q = RB)
        have hne : Nonempty ι := ⟨i0⟩
        have WS := hid Wsur; clear Wsur
        have HWc := hid hWc; clear hWc
        have Hi0 := hid hi0'; clear hi0'
        have q0 : ∀ i, (Wc i).cell? ⟨wo.heap.size, 0, none⟩ = some (.int .i64 tb) := fun i => (World.cell?_of_block (a := ⟨wo.heap.size, 0, none⟩) (HWc.out i _ (.inl rfl))).trans (cell_of_row _ _ 0 _ _ _ (heap_alloc_new wo (.cells #[.int .i64 tb, .int .i64 td, .int .i64 tk, .int .i64 tu, .int .i64 tS, .slice A3 tp.length c3'] 69)))
        have q1 : ∀ i, (Wc i).cell? ⟨wo.heap.size, 1, none⟩ = some (.int .i64 td) := fun i => (World.cell?_of_block (a := ⟨wo.heap.size, 1, none⟩) (HWc.out i _ (.inl rfl))).trans (cell_of_row _ _ 1 _ _ _ (heap_alloc_new wo (.cells #[.int .i64 tb, .int .i64 td, .int .i64 tk, .int .i64 tu, .int .i64 tS, .slice A3 tp.length c3'] 69)))
        have q2 : ∀ i, (Wc i).cell? ⟨wo.heap.size, 2, none⟩ = some (.int .i64 tk) := fun i => (World.cell?_of_block (a := ⟨wo.heap.size, 2, none⟩) (HWc.out i _ (.inl rfl))).trans (cell_of_row _ _ 2 _ _ _ (heap_alloc_new wo (.cells #[.int .i64 tb, .int .i64 td, .int .i64 tk, .int .i64 tu, .int .i64 tS, .slice A3 tp.length c3'] 69)))
        have q3 : ∀ i, (Wc i).cell? ⟨wo.heap.size, 3, none⟩ = some (.int .i64 tu) := fun i => (World.cell?_of_block (a := ⟨wo.heap.size, 3, none⟩) (HWc.out i _ (.inl rfl))).trans (cell_of_row _ _ 3 _ _ _ (heap_alloc_new wo (.cells #[.int .i64 tb, .int .i64 td, .int .i64 tk, .int .i64 tu, .int .i64 tS, .slice A3 tp.length c3'] 69)))
        have q4 : ∀ i, (Wc i).cell? ⟨wo.heap.size, 4, none⟩ = some (.int .i64 tS) := fun i => (World.cell?_of_block (a := ⟨wo.heap.size, 4, none⟩) (HWc.out i _ (.inl rfl))).trans (cell_of_row _ _ 4 _ _ _ (heap_alloc_new wo (.cells #[.int .i64 tb, .int .i64 td, .int .i64 tk, .int .i64 tu, .int .i64 tS, .slice A3 tp.length c3'] 69)))
        have q5 : ∀ i, (Wc i).cell? ⟨wo.heap.size, 5, none⟩ = some (.slice A3 tp.length c3') := fun i => (World.cell?_of_block (a := ⟨wo.heap.size, 5, none⟩) (HWc.out i _ (.inl rfl))).trans (cell_of_row _ _ 5 _ _ _ (heap_alloc_new wo (.cells #[.int .i64 tb, .int .i64 td, .int .i64 tk, .int .i64 tu, .int .i64 tS, .slice A3 tp.length c3'] 69)))
        have q6 : ∀ i, (Wc i).cell? ⟨RB, 6, none⟩ = some (.slice B x.length d) := fun i => (World.cell?_of_block (a := ⟨RB, 6, none⟩) (HWc.out i _ (.inr rfl))).trans ((World.cell?_of_block (a := ⟨RB, 6, none⟩) (Below.heap_alloc _ _ _ (Nat.lt_of_lt_of_le hRB hbs))).trans hcw)
        refine region_anyL (S := fun w' => ∃ i, w' = Wc i) (last := 16) (by kernel_rfl) ?_
        refine anyL_seg 0 10 (by kernel_rfl) (fun _ _ _ _ _ h => h) ⟨i0, Hi0.out.symm⟩ (f := 6) rfl (by kernel_rfl) (by kernel_rfl) ?_
        simp only [List.drop_zero, List.take_succ_cons, List.take_zero]
        repeat go_big_quiet_step (fail)
        refine wpQuiet_nil ?_
        refine anyL_act (i := 10) (by kernel_rfl) rfl rfl ?_
        intro K hK
        go_wp2_with fail
        refine (HV.out _ HB0.out.drew).mono ?_
        rintro e w5 ⟨rfl, hB5⟩
        have HB5 : Below wo.heap.size wo w5 := HB0.out.drew.trans (hB5.mono (by simp))
        have hS5 : ∃ i, w5 = Wc i := WS.out _ (fun q hq => hB5.block q (by rcases hq with rfl | rfl <;> (simp <;> omega)))
        go_wp2_with fail
        refine hK.out _ _ (fun _ => hS5) ?_
        clear hK K
        refine anyL_seg 11 5 (by kernel_rfl) (fun _ _ _ _ _ h => h) hS5 (f := 0) rfl (by kernel_rfl) (by kernel_rfl) ?_
        simp only [List.drop_succ_cons, List.drop_zero, List.take_succ_cons, List.take_zero]
        repeat go_big_quiet_step (fail)
        refine wpQuiet_nil ?_
        refine anyL_done (by kernel_rfl) ?_ 0
        clear q0 q1 q2 q3 q4 q5 q6 hS5 WS HWc Hi0 hne i0 Wc ι HV
        clear HB0 hB5
        go_wp2_with (at_builtin; refine Hid.out ?_)
        refine hid ?_
        have hs5 := HB5.size
        have hO5 : OwnW 21 w5 w.heap.size (.slice Ao L.length co) L := ⟨ownsRow_kept HO.out.1 (fun g hg => HB5.block g (HO.out.1.lt g hg).2), HO.out.2⟩
        have hV32 : I32 V := ⟨by omega, by omega⟩
        show wpList _ _ _ _ _ _
        refine wpList_append_word (by rfl) _ _ 37 (by rfl) w.heap.size 21 inf _ Tryz.underlying37 hi0 hz0 hz1 hz2 rfl _ (.slice (some ⟨w5.heap.size, 0, none⟩) 1 1) L [V] (by rfl) ⟨hO5.1.alloc _, hO5.2⟩ (by rfl) (nword_one _ hV32) (by simp; omega) (by simp; omega) ?_
        intro v' w6 hO6 hB6
        obtain ⟨A9, c9, rfl, _, _⟩ := list_form (hO6.rel (S := fun _ => True) (fun g _ => trivial)).1
        rw [show (L ++ [V]).length = L.length + 1 by simp] at hO6 ⊢
        have HO6 := hid hO6
        have HB6 := hid ((HB.out.trans ((HB5.alloc (by omega) _).mono hbs)).trans hB6)
        clear hO6 hB6 hO5 HB5
        go_wp2_with fail
        refine ⟨⟨k + 1, by omega, by go_num, (by rw [HSN.out]; exact HO6.out), HB6.out⟩, ?_⟩
        simp [intOf]; omega
    · obtain rfl : k = ts.length := by omega
      have hF : Hid (OwnW 21 wo w.heap.size (.slice Ao L.length co) (writesV ts win)) := hid (by have := HO.out; rw [hL, List.take_length] at this; rw [hL, List.take_length]; exact this)
      clear hO hL
      go_wp2_with fail
      go_ret
      exact ⟨_, rfl, hF.out, HB.out⟩
end Go.Proofs.YthfcbbdghggefaaGreat
