/-
  Words for memory: how cells read as plain data, and what keeps such a reading. No program is named here. Sets of numbers as lists of spans: the plain list of a set is unlike that of any other set. No program is named here. Sets of numbers as lists of spans: what two have in common, what one has alone. No program is named here. A row of spans of the call's own, sorted by the library: the glue between the kit's words for the sort and ours. No program is named here. A row of spans that is read and written over at once, from its beginning on: what Norm's last loop keeps. No program is named here. A region that draws its order: whatever yields the same in every world of a class is taken first, many at a time, in an order of one's own; what acts is then alone. No program is named here. A map of rows of integers that the call has made (m[k] = append(m[k], i)), by a function of the key; its three operations each by themselves, for regions that draw their order. No program is named here. The document's way of putting sets together, between borders, comes to the same as the program's: plain Lean. A queue of integers of the call's own: what was put behind may be taken from the front (q = q[1:]). No program is named here. Do edges lead back to where they begin? By taking away what nothing leads to any more: what is left is just if there are ways as long as one likes. No program is named here. What desc.cycle holds in memory: how many edges lead to each state, and where each leads. No program is named here. Parts and terms as plain arithmetic: what a part takes of a number, and of a set. No program is named here. Terms as plain arithmetic: the inner values of all windows. No program is named here. A term's values of all windows, by lists of spans: all are in a set just if each window's value is. No program is named here. The document's answer for terms, as plain arithmetic: sums of lists of numbers, window by window. No program is named here. What the reference's Make does between borders, step by step: plain Lean. The reference's sums and spans of lists of numbers: plain Lean. A row of truth values in a block of its own. The reference's inner values, loop by loop: plain Lean. A map from ints to slices of whatever kind, by a function of the key. No program is named here. The reference's Cycle, round by round: plain Lean. What is handed in as data reads as lists. No program is named here.
-/
import Derived.WalkKit
import Derived.WalkSpells
import Derived.WalkLawsBesides
import Derived.Deep.QuietTactic
import Derived.BigQuiet
import Derived.Deep.RegionHeld3
import Derived.Shelf.SlSortCmp.WholeK
import Derived.Maps.GroupsBeside
import Derived.Deep.Upon
import Derived.Maps.AppendAt
import Derived.Deep.Slices
import Derived.Deep.Fields
import Derived.ChangeSame
namespace Go.Um
open Go.RowKit

/-- a number of Go's int. -/
def I64 (x : Int) : Prop := -9223372036854775808 ≤ x ∧ x ≤ 9223372036854775807
theorem I64.lo {x : Int} (h : I64 x) : -9223372036854775808 ≤ x := h.1
theorem I64.hi {x : Int} (h : I64 x) : x ≤ 9223372036854775807 := h.2
theorem I64.of {x : Int} (h : -1000000000000000000 ≤ x) (h' : x ≤ 1000000000000000000) : I64 x := ⟨by omega, by omega⟩

/-- How so many cells read as one thing; the blocks that are reached lie in S. -/
structure RepOf (α : Type) where
  width : Nat
  rel : World → (Nat → Prop) → List Value → α → Prop
  len : ∀ {w : World} {S : Nat → Prop} {cs : List Value} {x : α}, rel w S cs x → cs.length = width
  mono : ∀ {w w' : World} {S S' : Nat → Prop} {cs : List Value} {x : α}, (∀ p : Addr, S p.block → w'.cell? p = w.cell? p) → (∀ b, S b → S' b) → rel w S cs x → rel w' S' cs x

/-- one int. -/
def intR : RepOf Int where
  width := 1
  rel := fun _ _ cs x => cs = [.int .i64 x] ∧ I64 x
  len := by rintro w S cs x ⟨rfl, _⟩; rfl
  mono := by intro w w' S S' cs x _ _ h; exact h

/-- so many elements from a place on, each by its own cells. -/
def rowAt {α : Type} (r : RepOf α) (w : World) (S : Nat → Prop) (b o : Nat) (xs : List α) : Prop :=
  ∀ (i : Nat) (x : α), xs[i]? = some x → ∃ ds, r.rel w S ds x ∧ ∀ (j : Nat) (v : Value), ds[j]? = some v → w.cell? ⟨b, o + i * r.width + j, none⟩ = some v

/-- a slice that reads as a list; nil let in. -/
def listRel {α : Type} (r : RepOf α) (w : World) (S : Nat → Prop) (cs : List Value) (xs : List α) : Prop :=
  ∃ A n cap, cs = [.slice A n cap] ∧ n = xs.length ∧ n ≤ cap ∧ cap ≤ maxLen ∧ (n = 0 ∨ ∃ b o, A = some ⟨b, o, none⟩ ∧ S b ∧ rowAt r w S b o xs)

theorem rowAt_mono {α : Type} {r : RepOf α} {w w' : World} {S S' : Nat → Prop} {b o : Nat} {xs : List α} (hw : ∀ p : Addr, S p.block → w'.cell? p = w.cell? p) (hS : ∀ b, S b → S' b)
    (hb : S b) (h : rowAt r w S b o xs) : rowAt r w' S' b o xs := fun i x hx => by
  obtain ⟨ds, h1, h2⟩ := h i x hx
  exact ⟨ds, r.mono hw hS h1, fun j v hv => (hw _ hb).trans (h2 j v hv)⟩

def listR {α : Type} (r : RepOf α) : RepOf (List α) where
  width := 1
  rel := listRel r
  len := by rintro w S cs x ⟨A, n, cap, rfl, _⟩; rfl
  mono := by
    rintro w w' S S' cs x hw hS ⟨A, n, cap, h1, h2, h3, h4, h5⟩
    refine ⟨A, n, cap, h1, h2, h3, h4, ?_⟩
    rcases h5 with h5 | ⟨b, o, h5, h6, h7⟩
    · exact .inl h5
    · exact .inr ⟨b, o, h5, hS b h6, rowAt_mono hw hS h6 h7⟩

/-- All blocks that are there. -/
abbrev upto (B : Nat) : Nat → Prop := fun b => b < B

theorem below_cells {B : Nat} {w w' : World} (hb : Below B w w') : ∀ p : Addr, upto B p.block → w'.cell? p = w.cell? p := fun _ hp => hb.cell hp

theorem RepOf.below {α : Type} (r : RepOf α) {B B' : Nat} {w w' : World} {cs : List Value} {x : α} (h : r.rel w (upto B) cs x) (hb : Below B w w') (hB : B ≤ B') : r.rel w' (upto B') cs x :=
  r.mono (below_cells hb) (fun _ h => Nat.lt_of_lt_of_le h hB) h

theorem RepOf.later {α : Type} (r : RepOf α) {w w' : World} {cs : List Value} {x : α} (h : r.rel w (upto w.heap.size) cs x) (hb : Below w.heap.size w w') : r.rel w' (upto w'.heap.size) cs x :=
  r.below h hb hb.size

/-- a slice's shape. -/
theorem list_form {α : Type} {r : RepOf α} {w : World} {S : Nat → Prop} {v : Value} {xs : List α} (h : (listR r).rel w S [v] xs) :
    ∃ A cap, v = .slice A xs.length cap ∧ xs.length ≤ cap ∧ cap ≤ maxLen := by
  obtain ⟨A, n, cap, h1, h2, h3, h4, _⟩ := h
  simp at h1
  subst h2
  exact ⟨A, cap, h1, h3, h4⟩

theorem list_len {α : Type} {r : RepOf α} {w : World} {S : Nat → Prop} {A : Option Addr} {n cap : Nat} {xs : List α} (h : (listR r).rel w S [.slice A n cap] xs) : n = xs.length ∧ n ≤ cap ∧ cap ≤ maxLen := by
  obtain ⟨A, n', cap, h1, h2, h3, h4, _⟩ := h
  simp at h1
  obtain ⟨rfl, rfl, rfl⟩ := h1
  exact ⟨h2, h3, h4⟩

/-- an element, by its place. -/
theorem list_at {α : Type} {r : RepOf α} {w : World} {S : Nat → Prop} {A : Option Addr} {n cap : Nat} {xs : List α} (h : (listR r).rel w S [.slice A n cap] xs) {i : Nat} {x : α} (hx : xs[i]? = some x) :
    ∃ b o ds, A = some ⟨b, o, none⟩ ∧ S b ∧ r.rel w S ds x ∧ ∀ (j : Nat) (v : Value), ds[j]? = some v → w.cell? ⟨b, o + i * r.width + j, none⟩ = some v := by
  obtain ⟨A, n', cap, h1, h2, h3, h4, h5⟩ := h
  simp at h1
  obtain ⟨rfl, rfl, rfl⟩ := h1
  rcases h5 with h5 | ⟨b, o, h5, h6, h7⟩
  · have : xs = [] := List.eq_nil_of_length_eq_zero (by omega)
    subst this
    simp at hx
  · obtain ⟨ds, h8, h9⟩ := h7 i x hx
    exact ⟨b, o, ds, h5, h6, h8, h9⟩

/-- an element of one cell. -/
theorem list_at1 {α : Type} {r : RepOf α} (hr : r.width = 1) {w : World} {S : Nat → Prop} {A : Option Addr} {n cap : Nat} {xs : List α} (h : (listR r).rel w S [.slice A n cap] xs) {i : Nat} {x : α} (hx : xs[i]? = some x) :
    ∃ b o v, A = some ⟨b, o, none⟩ ∧ S b ∧ r.rel w S [v] x ∧ w.cell? ⟨b, o + i, none⟩ = some v := by
  obtain ⟨b, o, ds, h1, h2, h3, h4⟩ := list_at h hx
  have hl := r.len h3
  rw [hr] at hl h4
  match ds, hl with
  | [v], _ => exact ⟨b, o, v, h1, h2, h3, by simpa using h4 0 v rfl⟩

/-- nil. -/
theorem list_nil {α : Type} (r : RepOf α) (w : World) (S : Nat → Prop) : (listR r).rel w S [.slice none 0 0] [] := ⟨none, 0, 0, rfl, rfl, Nat.le_refl _, Nat.zero_le _, .inl rfl⟩

/-- what is left of a slice behind its first so many. -/
theorem list_cut {α : Type} {r : RepOf α} {w : World} {S : Nat → Prop} {A : Option Addr} {n cap k : Nat} {xs : List α} (h : (listR r).rel w S [.slice A n cap] xs) (hk : k ≤ n) :
    (listR r).rel w S [.slice (if cap = k then A else A.map (·.add (k * r.width))) (n - k) (cap - k)] (xs.drop k) := by
  obtain ⟨A, n', cap, h1, h2, h3, h4, h5⟩ := h
  simp at h1
  obtain ⟨rfl, rfl, rfl⟩ := h1
  refine ⟨_, _, _, rfl, by rw [List.length_drop, h2], by omega, by omega, ?_⟩
  by_cases hn : n - k = 0
  · exact .inl hn
  · right
    rcases h5 with h5 | ⟨b, o, rfl, h6, h7⟩
    · omega
    · rw [if_neg (by omega)]
      refine ⟨b, o + k * r.width, ?_, h6, fun i x hx => ?_⟩
      · simp only [Option.map_some, Addr.add]
        split
        · rename_i h0; rw [h0]; simp
        · rfl
      · obtain ⟨ds, h8, h9⟩ := h7 (k + i) x (by rw [← hx, List.getElem?_drop])
        refine ⟨ds, h8, fun j v hv => ?_⟩
        rw [show o + k * r.width + i * r.width + j = o + (k + i) * r.width + j by rw [Nat.add_mul]; omega]
        exact h9 j v hv

/-- a row that the call owns reads as a list, whose elements need no memory. -/
theorem own_list {α : Type} {r : RepOf α} {enc : α → List Value} {w : World} {S : Nat → Prop} {base : Nat} {e : TypeId} {v : Value} {xs : List α} (h : w.ownsRow base e r.width v xs.length (xs.flatMap enc))
    (hS : ∀ g, v.ownBlock = some g → S g) (hx : ∀ x ∈ xs, (enc x).length = r.width ∧ r.rel w S (enc x) x) : (listR r).rel w S [v] xs := by
  rcases h.2 with ⟨rfl, hn⟩ | ⟨g, cap, cur, rfl, hb, hg, hnc, hcm, hcs, htake⟩
  · have : xs = [] := List.eq_nil_of_length_eq_zero hn
    subst this
    exact list_nil r w S
  · refine ⟨_, _, _, rfl, rfl, hnc, hcm, .inr ⟨g, 0, rfl, hS g rfl, fun i x hi => ⟨enc x, (hx x (List.mem_of_getElem? hi)).2, fun j u hu => ?_⟩⟩⟩
    have hseg : (xs.flatMap enc)[i * r.width + j]? = some u := by
      clear h hg hnc hcm hcs htake hS
      induction xs generalizing i with
      | nil => simp at hi
      | cons y ys ih =>
        rw [List.flatMap_cons]
        cases i with
        | zero =>
          simp at hi
          subst hi
          rw [Nat.zero_mul, Nat.zero_add, List.getElem?_append_left (List.getElem?_eq_some_iff.1 hu).1]
          exact hu
        | succ i =>
          have hl := (hx y (List.mem_cons_self ..)).1
          rw [List.getElem?_append_right (by rw [hl, Nat.add_mul]; omega), hl]
          rw [show (i + 1) * r.width + j - r.width = i * r.width + j by rw [Nat.add_mul]; omega]
          exact ih (fun x hx' => hx x (List.mem_cons_of_mem _ hx')) i (by simpa using hi)
    have hc := h.cells (g := g) rfl (i * r.width + j) u hseg
    rw [show 0 + i * r.width + j = i * r.width + j by omega]
    have ha : (⟨g, 0, none⟩ : Addr).add (i * r.width + j) = ⟨g, i * r.width + j, none⟩ := by unfold Addr.add; split <;> simp_all
    rwa [ha] at hc

/-! ### The things of umlaut -/
structure Span where
  lo : Int
  hi : Int
  deriving DecidableEq
structure Part where
  at_ : Int
  drop : Int
  take : Int
  up : Int
  deriving DecidableEq
structure Term where
  base : Int
  drop : Int
  take : Int
  up : Int
  sum : Int
  parts : List Part
  deriving DecidableEq
structure Rule where
  src : Int
  dst : Int
  guards : List (List Span)
  eat : Int
  out : List Term
  deriving DecidableEq
structure Final where
  src : Int
  guards : List (List Span)
  out : List Term
  deriving DecidableEq
structure Desc where
  inn : Int
  out : Int
  states : Int
  start : Int
  rules : List Rule
  finals : List Final
  deriving DecidableEq

def Span.cells (x : Span) : List Value := [.int .i64 x.lo, .int .i64 x.hi]
def Span.ok (x : Span) : Prop := I64 x.lo ∧ I64 x.hi
def spanR : RepOf Span where
  width := 2
  rel := fun _ _ cs x => cs = x.cells ∧ x.ok
  len := by rintro w S cs x ⟨rfl, _⟩; rfl
  mono := by intro w w' S S' cs x _ _ h; exact h
def Part.cells (x : Part) : List Value := [.int .i64 x.at_, .int .i64 x.drop, .int .i64 x.take, .int .i64 x.up]
def Part.ok (x : Part) : Prop := I64 x.at_ ∧ I64 x.drop ∧ I64 x.take ∧ I64 x.up
def partR : RepOf Part where
  width := 4
  rel := fun _ _ cs x => cs = x.cells ∧ x.ok
  len := by rintro w S cs x ⟨rfl, _⟩; rfl
  mono := by intro w w' S S' cs x _ _ h; exact h
def termR : RepOf Term where
  width := 6
  rel := fun w S cs x => ∃ v, cs = [.int .i64 x.base, .int .i64 x.drop, .int .i64 x.take, .int .i64 x.up, .int .i64 x.sum, v] ∧ (I64 x.base ∧ I64 x.drop ∧ I64 x.take ∧ I64 x.up ∧ I64 x.sum) ∧ (listR partR).rel w S [v] x.parts
  len := by rintro w S cs x ⟨v, rfl, _⟩; rfl
  mono := by
    rintro w w' S S' cs x hw hS ⟨v, h1, h2, h3⟩
    exact ⟨v, h1, h2, (listR partR).mono hw hS h3⟩
def spansR : RepOf (List Span) := listR spanR
def ruleR : RepOf Rule where
  width := 5
  rel := fun w S cs x => ∃ v u, cs = [.int .i64 x.src, .int .i64 x.dst, v, .int .i64 x.eat, u] ∧ (I64 x.src ∧ I64 x.dst ∧ I64 x.eat) ∧ (listR spansR).rel w S [v] x.guards ∧ (listR termR).rel w S [u] x.out
  len := by rintro w S cs x ⟨v, u, rfl, _⟩; rfl
  mono := by
    rintro w w' S S' cs x hw hS ⟨v, u, h1, h2, h3, h4⟩
    exact ⟨v, u, h1, h2, (listR spansR).mono hw hS h3, (listR termR).mono hw hS h4⟩
def finalR : RepOf Final where
  width := 3
  rel := fun w S cs x => ∃ v u, cs = [.int .i64 x.src, v, u] ∧ I64 x.src ∧ (listR spansR).rel w S [v] x.guards ∧ (listR termR).rel w S [u] x.out
  len := by rintro w S cs x ⟨v, u, rfl, _⟩; rfl
  mono := by
    rintro w w' S S' cs x hw hS ⟨v, u, h1, h2, h3, h4⟩
    exact ⟨v, u, h1, h2, (listR spansR).mono hw hS h3, (listR termR).mono hw hS h4⟩
section
variable {w : World} {S : Nat → Prop} {A : Option Addr} {n cap i : Nat}
/-- a rule's cells, by its place. -/
theorem rule_at {xs : List Rule} {x : Rule} (h : (listR ruleR).rel w S [.slice A n cap] xs) (hx : xs[i]? = some x) :
    ∃ b o v u, A = some ⟨b, o, none⟩ ∧ S b ∧ w.cell? ⟨b, o + i * 5, none⟩ = some (.int .i64 x.src) ∧ w.cell? ⟨b, o + i * 5 + 1, none⟩ = some (.int .i64 x.dst) ∧ w.cell? ⟨b, o + i * 5 + 2, none⟩ = some v ∧
      w.cell? ⟨b, o + i * 5 + 3, none⟩ = some (.int .i64 x.eat) ∧ w.cell? ⟨b, o + i * 5 + 4, none⟩ = some u ∧ (I64 x.src ∧ I64 x.dst ∧ I64 x.eat) ∧ (listR spansR).rel w S [v] x.guards ∧ (listR termR).rel w S [u] x.out := by
  obtain ⟨b, o, ds, h1, h2, ⟨v, u, rfl, h4, h5, h6⟩, h7⟩ := list_at h hx
  exact ⟨b, o, v, u, h1, h2, h7 0 _ rfl, h7 1 _ rfl, h7 2 _ rfl, h7 3 _ rfl, h7 4 _ rfl, h4, h5, h6⟩
theorem final_at {xs : List Final} {x : Final} (h : (listR finalR).rel w S [.slice A n cap] xs) (hx : xs[i]? = some x) :
    ∃ b o v u, A = some ⟨b, o, none⟩ ∧ S b ∧ w.cell? ⟨b, o + i * 3, none⟩ = some (.int .i64 x.src) ∧ w.cell? ⟨b, o + i * 3 + 1, none⟩ = some v ∧ w.cell? ⟨b, o + i * 3 + 2, none⟩ = some u ∧
      I64 x.src ∧ (listR spansR).rel w S [v] x.guards ∧ (listR termR).rel w S [u] x.out := by
  obtain ⟨b, o, ds, h1, h2, ⟨v, u, rfl, h4, h5, h6⟩, h7⟩ := list_at h hx
  exact ⟨b, o, v, u, h1, h2, h7 0 _ rfl, h7 1 _ rfl, h7 2 _ rfl, h4, h5, h6⟩
theorem span_at {xs : List Span} {x : Span} (h : (listR spanR).rel w S [.slice A n cap] xs) (hx : xs[i]? = some x) :
    ∃ b o, A = some ⟨b, o, none⟩ ∧ S b ∧ w.cell? ⟨b, o + i * 2, none⟩ = some (.int .i64 x.lo) ∧ w.cell? ⟨b, o + i * 2 + 1, none⟩ = some (.int .i64 x.hi) ∧ I64 x.lo ∧ I64 x.hi := by
  obtain ⟨b, o, ds, h1, h2, ⟨rfl, h4, h5⟩, h7⟩ := list_at h hx
  exact ⟨b, o, h1, h2, h7 0 _ rfl, h7 1 _ rfl, h4, h5⟩
theorem part_at {xs : List Part} {x : Part} (h : (listR partR).rel w S [.slice A n cap] xs) (hx : xs[i]? = some x) :
    ∃ b o, A = some ⟨b, o, none⟩ ∧ S b ∧ w.cell? ⟨b, o + i * 4, none⟩ = some (.int .i64 x.at_) ∧ w.cell? ⟨b, o + i * 4 + 1, none⟩ = some (.int .i64 x.drop) ∧ w.cell? ⟨b, o + i * 4 + 2, none⟩ = some (.int .i64 x.take) ∧
      w.cell? ⟨b, o + i * 4 + 3, none⟩ = some (.int .i64 x.up) ∧ x.ok := by
  obtain ⟨b, o, ds, h1, h2, ⟨rfl, h4⟩, h7⟩ := list_at h hx
  exact ⟨b, o, h1, h2, h7 0 _ rfl, h7 1 _ rfl, h7 2 _ rfl, h7 3 _ rfl, h4⟩
theorem term_at {xs : List Term} {x : Term} (h : (listR termR).rel w S [.slice A n cap] xs) (hx : xs[i]? = some x) :
    ∃ b o v, A = some ⟨b, o, none⟩ ∧ S b ∧ w.cell? ⟨b, o + i * 6, none⟩ = some (.int .i64 x.base) ∧ w.cell? ⟨b, o + i * 6 + 1, none⟩ = some (.int .i64 x.drop) ∧ w.cell? ⟨b, o + i * 6 + 2, none⟩ = some (.int .i64 x.take) ∧
      w.cell? ⟨b, o + i * 6 + 3, none⟩ = some (.int .i64 x.up) ∧ w.cell? ⟨b, o + i * 6 + 4, none⟩ = some (.int .i64 x.sum) ∧ w.cell? ⟨b, o + i * 6 + 5, none⟩ = some v ∧
      (I64 x.base ∧ I64 x.drop ∧ I64 x.take ∧ I64 x.up ∧ I64 x.sum) ∧ (listR partR).rel w S [v] x.parts := by
  obtain ⟨b, o, ds, h1, h2, ⟨v, rfl, h4, h5⟩, h7⟩ := list_at h hx
  exact ⟨b, o, v, h1, h2, h7 0 _ rfl, h7 1 _ rfl, h7 2 _ rfl, h7 3 _ rfl, h7 4 _ rfl, h7 5 _ rfl, h4, h5⟩
end

theorem below_drewN {B : Nat} {a w : World} (h : Below B a w) (n : Nat) : Below B a (w.drewN n) := ⟨h.os, h.tape, h.output, h.size, h.block⟩
theorem hid {p : Prop} (h : p) : Hid p := h
/-- a row of spans that the call owns. -/
def OwnS (e : TypeId) (w : World) (base : Nat) (v : Value) (xs : List Span) : Prop := w.ownsRow base e 2 v xs.length (xs.flatMap Span.cells) ∧ ∀ x ∈ xs, x.ok
theorem OwnS.rel {e : TypeId} {w : World} {base : Nat} {v : Value} {xs : List Span} (h : OwnS e w base v xs) : spansR.rel w (upto w.heap.size) [v] xs :=
  own_list (r := spanR) (enc := Span.cells) h.1 (fun g hg => (h.1.lt g hg).2) fun x hx => ⟨rfl, rfl, h.2 x hx⟩
theorem OwnS.rel_in {e : TypeId} {w : World} {base : Nat} {v : Value} {xs : List Span} (h : OwnS e w base v xs) {S : Nat → Prop} (hS : ∀ g, v.ownBlock = some g → S g) : spansR.rel w S [v] xs :=
  own_list (r := spanR) (enc := Span.cells) h.1 hS fun x hx => ⟨rfl, rfl, h.2 x hx⟩
theorem ownsRow_base {w : World} {base base' : Nat} {e : TypeId} {size n : Nat} {v : Value} {xs : List Value} (h : w.ownsRow base e size v n xs) (hb : base' ≤ base) : w.ownsRow base' e size v n xs := by
  refine ⟨h.1, ?_⟩
  rcases h.2 with h2 | ⟨g, cap, cur, h1, h2, h3⟩
  · exact .inl h2
  · exact .inr ⟨g, cap, cur, h1, Nat.le_trans hb h2, h3⟩
theorem OwnS.base {e : TypeId} {w : World} {base base' : Nat} {v : Value} {xs : List Span} (h : OwnS e w base v xs) (hb : base' ≤ base) : OwnS e w base' v xs := ⟨ownsRow_base h.1 hb, h.2⟩
/-- what lies in a block that was just made. -/
theorem news_at {w : World} {g : Nat} {cs : Array Value} {t : TypeId} (hg : g = w.heap.size) : ∀ (j : Nat) (u : Value), cs.toList[j]? = some u → (w.alloc (.cells cs t)).cell? ((⟨g, 0, none⟩ : Addr).add j) = some u := by
  subst hg
  intro j u hu
  have hadd : (⟨w.heap.size, 0, none⟩ : Addr).add j = ⟨w.heap.size, j, none⟩ := by unfold Addr.add; split <;> simp_all
  rw [hadd, cell_of_row _ _ j cs t (0, 0) (heap_alloc_new w _)]
  simpa using hu
theorem ownsRow_drew {w : World} {base : Nat} {e : TypeId} {size n : Nat} {v : Value} {xs : List Value} (h : w.ownsRow base e size v n xs) : w.drew.ownsRow base e size v n xs := h
theorem OwnS.push {e : TypeId} {w : World} {base : Nat} {v : Value} {xs : List Span} {x : Span} (h : w.ownsRow base e 2 v (xs.length + 1) (xs.flatMap Span.cells ++ [.int .i64 x.lo, .int .i64 x.hi])) (hx : ∀ y ∈ xs, y.ok) (ho : x.ok) : OwnS e w base v (xs ++ [x]) := by
  refine ⟨by simpa [Span.cells] using h, fun y hy => ?_⟩
  rcases List.mem_append.1 hy with hy | hy
  · exact hx y hy
  · simp at hy; subst hy; exact ho
/-- behind an append to a row of the call's own, made from block B on. -/
theorem below_grown {B : Nat} {w w' : World} {v : Value} {base : Nat} {e : TypeId} {size n : Nat} {xs : List Value} (ho : w.ownsRow base e size v n xs) (hg : w.grownBy w' v.ownBlock) (hB : B ≤ base) (hw : B ≤ w.heap.size) : Below B w w' :=
  (Below.refl B w).grown hg hw fun k hk => Nat.le_trans hB (ho.lt k hk).1
theorem OwnS.drewN {e : TypeId} {w : World} {base : Nat} {v : Value} {xs : List Span} (h : OwnS e w base v xs) (n : Nat) : OwnS e (w.drewN n) base v xs := h
/-- all but the first span, as the walk writes it. -/
theorem spans_tail {w : World} {S : Nat → Prop} {b o n cap : Nat} {x : Span} {xs : List Span} (h : spansR.rel w S [.slice (some ⟨b, o, none⟩) (n + 1) cap] (x :: xs)) :
    spansR.rel w S [.slice (if cap = 1 then some ⟨b, o, none⟩ else some ⟨b, o + 2, none⟩) n (cap - 1)] xs := by
  have h1 := list_cut (k := 1) h (by omega)
  have hw : spanR.width = 2 := rfl
  rw [hw] at h1
  show (listR spanR).rel _ _ _ _
  simpa [Addr.add] using h1
theorem own_form {w : World} {base : Nat} {e : TypeId} {size n : Nat} {v : Value} {xs : List Value} (h : w.ownsRow base e size v n xs) (hn : 0 < n) : ∃ g cap, v = .slice (some ⟨g, 0, none⟩) n cap := by
  rcases h.2 with ⟨_, h0⟩ | ⟨g, cap, cur, h1, _⟩
  · omega
  · exact ⟨g, cap, h1⟩
theorem make_rowN {P : Program} (t e : TypeId) (i : TypeInfo) (z : Value) (ht : P.underlying t = some (.slice e)) (hi : P.info? e = some i) (hz : i.zero = some z)
    (kl kc : IntKind) (n c : Nat) (hnc : n ≤ c) (hbytes : i.bytes * c ≤ 281474976710656) (h63 : c ≤ 9223372036854775807) (w : World) :
    (Instr.makeSlice t (.int kl (n : Int)) (.int kc (c : Int))).run P w = .ok (.slice (some ⟨w.heap.size, 0, none⟩) n c) (w.alloc (.cells (madeCells z.cells (c * i.size)) e)) := by
  have hb : (i.bytes : Int) * (c : Int) ≤ 281474976710656 := by
    have h : ((i.bytes * c : Nat) : Int) ≤ 281474976710656 := by omega
    rwa [Int.natCast_mul] at h
  have hr := run_make (P := P) w t e i z ht hi hz kl kc n c (by omega) (by omega) hb (by omega)
  simp only [Int.toNat_natCast] at hr
  exact hr
/-- a slice's length: for a loop's measure. -/
def lenOf : Value → Nat | .slice _ n _ => n | _ => 0
theorem drop_cons {α : Type} {xs : List α} {i : Nat} {x : α} (h : xs[i]? = some x) : xs.drop i = x :: xs.drop (i + 1) := by
  obtain ⟨hl, rfl⟩ := List.getElem?_eq_some_iff.1 h
  exact List.drop_eq_getElem_cons hl
theorem at_lt {α : Type} {xs : List α} {i : Nat} (h : i < xs.length) : ∃ x, xs[i]? = some x := ⟨xs[i], List.getElem?_eq_getElem h⟩
end Go.Um
namespace Go.Um

def Span.has (s : Span) (x : Int) : Prop := s.lo ≤ x ∧ x ≤ s.hi
def mem (l : List Span) (x : Int) : Prop := ∃ s ∈ l, s.lo ≤ x ∧ x ≤ s.hi
/-- mem, within the numbers. -/
def inSet (l : List Span) (x : Int) : Prop := (-1073741824 ≤ x ∧ x ≤ 1073741824) ∧ mem l x
def hasB (l : List Span) (x : Int) : Bool := l.any fun s => decide (s.lo ≤ x) && decide (x ≤ s.hi)
theorem hasB_iff (l : List Span) (x : Int) : hasB l x = true ↔ mem l x := by
  simp [hasB, mem]

/-- span.Check's loop. -/
def plainFrom (last : Int) : List Span → Bool
  | [] => true
  | s :: r => if s.hi < s.lo ∨ s.lo < -1073741824 ∨ 1073741824 < s.hi ∨ s.lo ≤ last + 1 then false else plainFrom s.hi r
def plain (l : List Span) : Bool := plainFrom (-1073741826) l

theorem plainFrom_cons {last : Int} {s : Span} {r : List Span} : plainFrom last (s :: r) = true ↔ (s.lo ≤ s.hi ∧ -1073741824 ≤ s.lo ∧ s.hi ≤ 1073741824 ∧ last + 1 < s.lo) ∧ plainFrom s.hi r = true := by
  show (if s.hi < s.lo ∨ s.lo < -1073741824 ∨ 1073741824 < s.hi ∨ s.lo ≤ last + 1 then false else plainFrom s.hi r) = true ↔ _
  by_cases h : s.hi < s.lo ∨ s.lo < -1073741824 ∨ 1073741824 < s.hi ∨ s.lo ≤ last + 1
  · simp only [h, if_true]
    constructor
    · intro h'; cases h'
    · rintro ⟨h', _⟩; omega
  · simp only [h, if_false]
    constructor
    · intro h'; exact ⟨by omega, h'⟩
    · intro h'; exact h'.2

theorem mem_cons {s : Span} {r : List Span} {x : Int} : mem (s :: r) x ↔ (s.lo ≤ x ∧ x ≤ s.hi) ∨ mem r x := by simp [mem]
theorem mem_nil {x : Int} : ¬ mem [] x := by simp [mem]
theorem mem_append {a b : List Span} {x : Int} : mem (a ++ b) x ↔ mem a x ∨ mem b x := by
  simp only [mem, List.mem_append]
  constructor
  · rintro ⟨s, h | h, h'⟩
    · exact .inl ⟨s, h, h'⟩
    · exact .inr ⟨s, h, h'⟩
  · rintro (⟨s, h, h'⟩ | ⟨s, h, h'⟩)
    · exact ⟨s, .inl h, h'⟩
    · exact ⟨s, .inr h, h'⟩

theorem plainFrom_bound {last : Int} {l : List Span} (h : plainFrom last l = true) {x : Int} (hx : mem l x) : last + 1 < x ∧ -1073741824 ≤ x ∧ x ≤ 1073741824 := by
  induction l generalizing last with
  | nil => exact absurd hx mem_nil
  | cons s r ih =>
    obtain ⟨h1, h2⟩ := plainFrom_cons.1 h
    rcases mem_cons.1 hx with h3 | h3
    · omega
    · have := ih h2 h3; omega
theorem plainFrom_mono {last last' : Int} {l : List Span} (h : plainFrom last l = true) (hl : last' ≤ last) : plainFrom last' l = true := by
  cases l with
  | nil => rfl
  | cons s r =>
    obtain ⟨h1, h2⟩ := plainFrom_cons.1 h
    exact plainFrom_cons.2 ⟨by omega, h2⟩

/-- Of each set there is one plain list. -/
theorem plainFrom_unique {la lb : Int} {a b : List Span} (ha : plainFrom la a = true) (hb : plainFrom lb b = true) (h : ∀ x, mem a x ↔ mem b x) : a = b := by
  induction a generalizing la lb b with
  | nil =>
    cases b with
    | nil => rfl
    | cons t u =>
      obtain ⟨h1, _⟩ := plainFrom_cons.1 hb
      exact absurd ((h t.lo).2 (mem_cons.2 (.inl ⟨Int.le_refl _, h1.1⟩))) mem_nil
  | cons s r ih =>
    obtain ⟨a1, a2⟩ := plainFrom_cons.1 ha
    cases b with
    | nil => exact absurd ((h s.lo).1 (mem_cons.2 (.inl ⟨Int.le_refl _, a1.1⟩))) mem_nil
    | cons t u =>
      obtain ⟨b1, b2⟩ := plainFrom_cons.1 hb
      have lo1 : t.lo ≤ s.lo := by
        rcases mem_cons.1 ((h s.lo).1 (mem_cons.2 (.inl ⟨Int.le_refl _, a1.1⟩))) with h3 | h3
        · exact h3.1
        · have := plainFrom_bound b2 h3; omega
      have lo2 : s.lo ≤ t.lo := by
        rcases mem_cons.1 ((h t.lo).2 (mem_cons.2 (.inl ⟨Int.le_refl _, b1.1⟩))) with h3 | h3
        · exact h3.1
        · have := plainFrom_bound a2 h3; omega
      have hi1 : t.hi ≤ s.hi := by
        by_cases hh : t.hi ≤ s.hi
        · exact hh
        · exfalso
          rcases mem_cons.1 ((h (s.hi + 1)).2 (mem_cons.2 (.inl ⟨by omega, by omega⟩))) with h3 | h3
          · omega
          · have := plainFrom_bound a2 h3; omega
      have hi2 : s.hi ≤ t.hi := by
        by_cases hh : s.hi ≤ t.hi
        · exact hh
        · exfalso
          rcases mem_cons.1 ((h (t.hi + 1)).1 (mem_cons.2 (.inl ⟨by omega, by omega⟩))) with h3 | h3
          · omega
          · have := plainFrom_bound b2 h3; omega
      obtain ⟨slo, shi⟩ := s
      obtain ⟨tlo, thi⟩ := t
      simp only at *
      obtain rfl : slo = tlo := by omega
      obtain rfl : shi = thi := by omega
      congr 1
      refine ih a2 b2 fun x => ⟨fun hx => ?_, fun hx => ?_⟩
      · have := plainFrom_bound a2 hx
        rcases mem_cons.1 ((h x).1 (mem_cons.2 (.inr hx))) with h3 | h3
        · simp only at h3; omega
        · exact h3
      · have := plainFrom_bound b2 hx
        rcases mem_cons.1 ((h x).2 (mem_cons.2 (.inr hx))) with h3 | h3
        · simp only at h3; omega
        · exact h3
theorem plain_unique {a b : List Span} (ha : plain a = true) (hb : plain b = true) (h : ∀ x, mem a x ↔ mem b x) : a = b := plainFrom_unique ha hb h

def okS (s : Span) : Prop := s.lo ≤ s.hi ∧ -1073741824 ≤ s.lo ∧ s.hi ≤ 1073741824
theorem plainFrom_ok {last : Int} {l : List Span} (h : plainFrom last l = true) : ∀ s ∈ l, okS s := by
  induction l generalizing last with
  | nil => intro s hs; cases hs
  | cons a b ih =>
    obtain ⟨k1, k2⟩ := plainFrom_cons.1 h
    intro s hs
    rcases List.mem_cons.1 hs with rfl | hs
    · exact ⟨k1.1, k1.2.1, k1.2.2.1⟩
    · exact ih k2 s hs

/-! ### Norm -/
/-- a span within the numbers; none, if it has nothing there. -/
def clampS (s : Span) : Option Span := if max s.lo (-1073741824) ≤ min s.hi 1073741824 then some ⟨max s.lo (-1073741824), min s.hi 1073741824⟩ else none
def clampL (l : List Span) : List Span := l.filterMap clampS
/-- one step of Norm's last loop: the last one grows, or one more stands behind. -/
def joinStep (out : List Span) (x : Span) : List Span :=
  match out.getLast? with
  | some t => if x.lo ≤ t.hi + 1 then out.dropLast ++ [⟨t.lo, max t.hi x.hi⟩] else out ++ [x]
  | none => out ++ [x]
def joinL (out : List Span) : List Span → List Span
  | [] => out
  | x :: r => joinL (joinStep out x) r
def insertLo (x : Span) : List Span → List Span
  | [] => [x]
  | y :: r => if x.lo ≤ y.lo then x :: y :: r else y :: insertLo x r
def sortLo : List Span → List Span
  | [] => []
  | x :: r => insertLo x (sortLo r)
/-- the plain list of a set. -/
def normF (l : List Span) : List Span := joinL [] (sortLo (clampL l))

theorem mem_clampL {l : List Span} {x : Int} : mem (clampL l) x ↔ inSet l x := by
  induction l with
  | nil => simp [clampL, mem, inSet]
  | cons s r ih =>
    have e : clampL (s :: r) = (match clampS s with | some t => [t] | none => []) ++ clampL r := by
      unfold clampL
      rw [List.filterMap_cons]
      cases clampS s <;> rfl
    rw [e, mem_append, ih]
    unfold inSet
    rw [mem_cons]
    unfold clampS
    split
    · rename_i t ht
      split at ht
      · cases ht
        simp only [mem_cons, mem_nil, or_false]
        by_cases hm : mem r x <;> simp only [hm, or_true, or_false, and_true, and_false] <;> omega
      · cases ht
    · rename_i ht
      split at ht
      · cases ht
      · simp only [mem_nil, false_or]
        by_cases hm : mem r x <;> simp only [hm, or_true, or_false, and_true, and_false, iff_self, false_iff] <;> omega

theorem clampL_ok {l : List Span} : ∀ s ∈ clampL l, okS s := by
  intro s hs
  simp only [clampL, List.mem_filterMap] at hs
  obtain ⟨t, _, ht⟩ := hs
  unfold clampS at ht
  split at ht
  · cases ht
    unfold okS
    simp only
    omega
  · cases ht

theorem mem_perm {a b : List Span} (h : a.Perm b) {x : Int} : mem a x ↔ mem b x := by
  simp only [mem, h.mem_iff]

theorem insertLo_perm (x : Span) (l : List Span) : (insertLo x l).Perm (x :: l) := by
  induction l with
  | nil => exact .refl _
  | cons y r ih =>
    unfold insertLo
    split
    · exact .refl _
    · exact (ih.cons y).trans (.swap x y r)
theorem sortLo_perm (l : List Span) : (sortLo l).Perm l := by
  induction l with
  | nil => exact .refl _
  | cons x r ih => exact (insertLo_perm x _).trans (ih.cons x)
def SortedLo (l : List Span) : Prop := l.Pairwise fun a b => a.lo ≤ b.lo
theorem insertLo_sorted {x : Span} {l : List Span} (h : SortedLo l) : SortedLo (insertLo x l) := by
  induction l with
  | nil => simp [insertLo, SortedLo]
  | cons y r ih =>
    unfold insertLo
    have h' := List.pairwise_cons.1 h
    split
    · refine List.pairwise_cons.2 ⟨fun z hz => ?_, h⟩
      rcases List.mem_cons.1 hz with rfl | hz
      · assumption
      · have := h'.1 z hz; omega
    · refine List.pairwise_cons.2 ⟨fun z hz => ?_, ih h'.2⟩
      rcases List.mem_cons.1 ((insertLo_perm x r).mem_iff.1 hz) with rfl | hz
      · omega
      · exact h'.1 z hz
theorem sortLo_sorted (l : List Span) : SortedLo (sortLo l) := by
  induction l with
  | nil => exact .nil
  | cons x r ih => exact insertLo_sorted ih

/-- what Norm's last loop keeps: out is plain, and no later one begins ahead of where its last one does. -/
theorem plainFrom_snoc {last : Int} {out : List Span} {x : Span} (h : plainFrom last out = true) (hx : okS x) (hl : last + 1 < x.lo) (hg : ∀ t, out.getLast? = some t → t.hi + 1 < x.lo) : plainFrom last (out ++ [x]) = true := by
  induction out generalizing last with
  | nil => unfold okS at hx; exact plainFrom_cons.2 ⟨by omega, rfl⟩
  | cons s r ih =>
    obtain ⟨h1, h2⟩ := plainFrom_cons.1 h
    refine plainFrom_cons.2 ⟨h1, ?_⟩
    cases r with
    | nil => exact ih h2 (hg s rfl) (by simp)
    | cons t u =>
      refine ih h2 ?_ (fun t' ht' => hg t' (by simpa [List.getLast?_cons_cons] using ht'))
      cases hq : (t :: u).getLast? with
      | none => simp at hq
      | some q =>
        have h3 := hg q (by simpa [List.getLast?_cons_cons] using hq)
        have hm : mem (t :: u) q.hi := by
          have hin := List.mem_of_getLast? hq
          refine ⟨q, hin, ?_, Int.le_refl _⟩
          have hq' : okS q := plainFrom_ok h2 q hin
          exact hq'.1
        have := plainFrom_bound h2 hm
        omega
theorem plainFrom_grow {last : Int} {out : List Span} {t : Span} {hi : Int} (h : plainFrom last (out ++ [t]) = true) (h1 : t.hi ≤ hi) (h2 : hi ≤ 1073741824) : plainFrom last (out ++ [⟨t.lo, hi⟩]) = true := by
  induction out generalizing last with
  | nil =>
    obtain ⟨k1, _⟩ := plainFrom_cons.1 h
    exact plainFrom_cons.2 ⟨⟨by simp only; omega, by simp only; omega, by simp only; omega, by simp only; omega⟩, rfl⟩
  | cons s r ih =>
    obtain ⟨k1, k2⟩ := plainFrom_cons.1 h
    exact plainFrom_cons.2 ⟨k1, ih k2⟩

theorem joinStep_spec {out : List Span} {x : Span} (h : plain out = true) (hx : okS x) (hlo : ∀ t, out.getLast? = some t → t.lo ≤ x.lo) :
    plain (joinStep out x) = true ∧ (∀ y, mem (joinStep out x) y ↔ mem out y ∨ (x.lo ≤ y ∧ y ≤ x.hi)) ∧ (∀ t, (joinStep out x).getLast? = some t → t.lo ≤ x.lo) := by
  unfold joinStep
  cases hq : out.getLast? with
  | none =>
    have : out = [] := by simpa using hq
    subst this
    simp only [List.nil_append]
    refine ⟨?_, fun y => ?_, fun t ht => ?_⟩
    · unfold okS at hx
      exact plainFrom_cons.2 ⟨by omega, rfl⟩
    · simp [mem]
    · simp at ht; subst ht; exact Int.le_refl _
  | some t =>
    have hlt := hlo t hq
    obtain ⟨ini, rfl⟩ := List.getLast?_eq_some_iff.1 hq
    have hot : okS t := plainFrom_ok h t (by simp)
    simp only [List.dropLast_concat]
    split
    · rename_i hc
      refine ⟨plainFrom_grow h (by omega) ?_, fun y => ?_, fun t' ht' => ?_⟩
      · unfold okS at hx
        have : t.hi ≤ 1073741824 := hot.2.2
        omega
      · have htt : t.lo ≤ t.hi := hot.1
        unfold okS at hx
        simp only [mem_append, mem_cons, mem_nil, or_false, or_assoc]
        constructor
        · rintro (h1 | h1)
          · exact .inl h1
          · omega
        · rintro (h1 | h1)
          · exact .inl h1
          · right; omega
      · simp at ht'; subst ht'; exact hlt
    · rename_i hc
      refine ⟨?_, fun y => ?_, fun t' ht' => ?_⟩
      · refine plainFrom_snoc h hx ?_ (fun t' ht' => ?_)
        · unfold okS at hx; omega
        · rw [hq] at ht'; cases ht'; omega
      · simp only [mem_append, mem_cons, mem_nil, or_false]
      · simp at ht'; subst ht'; exact Int.le_refl _

theorem joinL_spec {r out : List Span} (h : plain out = true) (hr : ∀ s ∈ r, okS s) (hs : SortedLo r) (hlo : ∀ t, out.getLast? = some t → ∀ s ∈ r, t.lo ≤ s.lo) :
    plain (joinL out r) = true ∧ ∀ y, mem (joinL out r) y ↔ mem out y ∨ mem r y := by
  induction r generalizing out with
  | nil => exact ⟨h, fun y => by simp [joinL, mem_nil]⟩
  | cons x r ih =>
    have hp := List.pairwise_cons.1 hs
    obtain ⟨s1, s2, s3⟩ := joinStep_spec h (hr x (List.mem_cons_self ..)) (fun t ht => hlo t ht x (List.mem_cons_self ..))
    obtain ⟨i1, i2⟩ := ih s1 (fun s hs => hr s (List.mem_cons_of_mem _ hs)) hp.2 (fun t ht s hs => by have := s3 t ht; have := hp.1 s hs; omega)
    refine ⟨i1, fun y => ?_⟩
    show mem (joinL (joinStep out x) r) y ↔ _
    rw [i2, s2, mem_cons, or_assoc]

/-- whatever order the sort gives: the plain list of the same set. -/
theorem joinL_perm {l m : List Span} (hp : m.Perm (clampL l)) (hs : SortedLo m) : plain (joinL [] m) = true ∧ ∀ y, mem (joinL [] m) y ↔ inSet l y := by
  obtain ⟨h1, h2⟩ := joinL_spec (r := m) (out := []) rfl (fun s h => clampL_ok s (hp.mem_iff.1 h)) hs (by simp)
  refine ⟨h1, fun y => ?_⟩
  rw [h2, mem_perm hp, mem_clampL]
  simp [mem_nil]
theorem normF_plain (l : List Span) : plain (normF l) = true := (joinL_perm (sortLo_perm _) (sortLo_sorted _)).1
theorem mem_normF {l : List Span} {y : Int} : mem (normF l) y ↔ inSet l y := (joinL_perm (sortLo_perm _) (sortLo_sorted _)).2 y
theorem joinL_eq {l m : List Span} (hp : m.Perm (clampL l)) (hs : SortedLo m) : joinL [] m = normF l :=
  plain_unique (joinL_perm hp hs).1 (normF_plain l) fun y => by rw [(joinL_perm hp hs).2, mem_normF]
end Go.Um
namespace Go.Um

/-- Go's max and min of two, as the walk writes them. -/
def mx (a b : Int) : Int := if a < b then b else a
def mn (a b : Int) : Int := if b < a then b else a

def meetGo : Nat → List Span → List Span → List Span
  | n + 1, x :: xs, y :: ys =>
    if mx x.lo y.lo ≤ mn x.hi y.hi then ⟨mx x.lo y.lo, mn x.hi y.hi⟩ :: (if x.hi < y.hi then meetGo n xs (y :: ys) else meetGo n (x :: xs) ys)
    else (if x.hi < y.hi then meetGo n xs (y :: ys) else meetGo n (x :: xs) ys)
  | _, _, _ => []
def meetF (a b : List Span) : List Span := meetGo ((normF a).length + (normF b).length) (normF a) (normF b)

theorem meetGo_nil_left (n : Nat) (ys : List Span) : meetGo n [] ys = [] := by cases n <;> rfl
theorem meetGo_nil_right (n : Nat) (xs : List Span) : meetGo n xs [] = [] := by cases n <;> cases xs <;> rfl

theorem meetGo_spec {n : Nat} {la lb : Int} {xs ys : List Span} (ha : plainFrom la xs = true) (hb : plainFrom lb ys = true) (hn : xs.length + ys.length ≤ n) :
    plainFrom (mx la lb) (meetGo n xs ys) = true ∧ ∀ z, mem (meetGo n xs ys) z ↔ mem xs z ∧ mem ys z := by
  induction n generalizing la lb xs ys with
  | zero =>
    have h1 : xs = [] := List.eq_nil_of_length_eq_zero (by omega)
    subst h1
    exact ⟨rfl, fun z => by simp [meetGo, mem]⟩
  | succ n ih =>
    cases xs with
    | nil => exact ⟨rfl, fun z => by simp [meetGo, mem]⟩
    | cons x xs =>
      cases ys with
      | nil => exact ⟨rfl, fun z => by simp [meetGo, mem]⟩
      | cons y ys =>
        obtain ⟨a1, a2⟩ := plainFrom_cons.1 ha
        obtain ⟨b1, b2⟩ := plainFrom_cons.1 hb
        have hrest : plainFrom (mx (mx la lb) (mn x.hi y.hi)) (if x.hi < y.hi then meetGo n xs (y :: ys) else meetGo n (x :: xs) ys) = true ∧
            ∀ z, mem (if x.hi < y.hi then meetGo n xs (y :: ys) else meetGo n (x :: xs) ys) z ↔ (mem (x :: xs) z ∧ mem (y :: ys) z) ∧ ¬ (mx x.lo y.lo ≤ z ∧ z ≤ mn x.hi y.hi) := by
          by_cases hc : x.hi < y.hi
          · simp only [hc, if_true]
            obtain ⟨i1, i2⟩ := ih a2 hb (by simp at hn ⊢; omega)
            refine ⟨plainFrom_mono i1 (by unfold mx mn; split <;> split <;> split <;> (try split) <;> omega), fun z => ?_⟩
            rw [i2, mem_cons (s := x)]
            constructor
            · rintro ⟨h1, h2⟩
              have := plainFrom_bound a2 h1
              exact ⟨⟨.inr h1, h2⟩, by unfold mn; split <;> omega⟩
            · rintro ⟨⟨h1 | h1, h2⟩, h3⟩
              · exfalso
                rcases mem_cons.1 h2 with h4 | h4
                · apply h3; unfold mx mn; split <;> split <;> omega
                · have := plainFrom_bound b2 h4; omega
              · exact ⟨h1, h2⟩
          · simp only [hc, if_false]
            obtain ⟨i1, i2⟩ := ih ha b2 (by simp at hn ⊢; omega)
            refine ⟨plainFrom_mono i1 (by unfold mx mn; split <;> split <;> split <;> (try split) <;> omega), fun z => ?_⟩
            rw [i2, mem_cons (s := y)]
            constructor
            · rintro ⟨h1, h2⟩
              have := plainFrom_bound b2 h2
              exact ⟨⟨h1, .inr h2⟩, by unfold mn; split <;> omega⟩
            · rintro ⟨⟨h1, h2 | h2⟩, h3⟩
              · exfalso
                rcases mem_cons.1 h1 with h4 | h4
                · apply h3; unfold mx mn; split <;> split <;> omega
                · have := plainFrom_bound a2 h4; omega
              · exact ⟨h1, h2⟩
        obtain ⟨r1, r2⟩ := hrest
        have e : meetGo (n + 1) (x :: xs) (y :: ys) = if mx x.lo y.lo ≤ mn x.hi y.hi then ⟨mx x.lo y.lo, mn x.hi y.hi⟩ :: (if x.hi < y.hi then meetGo n xs (y :: ys) else meetGo n (x :: xs) ys)
          else (if x.hi < y.hi then meetGo n xs (y :: ys) else meetGo n (x :: xs) ys) := rfl
        rw [e]
        by_cases hc : mx x.lo y.lo ≤ mn x.hi y.hi
        · simp only [if_pos hc]
          refine ⟨plainFrom_cons.2 ⟨⟨hc, ?_, ?_, ?_⟩, plainFrom_mono r1 ?_⟩, fun z => ?_⟩
          · show -1073741824 ≤ mx x.lo y.lo
            unfold mx; split <;> omega
          · show mn x.hi y.hi ≤ 1073741824
            unfold mn; split <;> omega
          · show mx la lb + 1 < mx x.lo y.lo
            unfold mx; split <;> split <;> omega
          · show mn x.hi y.hi ≤ mx (mx la lb) (mn x.hi y.hi)
            generalize mx la lb = p
            unfold mx; split <;> omega
          · rw [mem_cons, r2]
            constructor
            · rintro (h1 | h1)
              · simp only at h1
                refine ⟨mem_cons.2 (.inl ?_), mem_cons.2 (.inl ?_)⟩ <;> (unfold mx mn at h1; split at h1 <;> split at h1 <;> omega)
              · exact h1.1
            · intro h1
              by_cases h2 : mx x.lo y.lo ≤ z ∧ z ≤ mn x.hi y.hi
              · exact .inl h2
              · exact .inr ⟨h1, h2⟩
        · simp only [if_neg hc]
          refine ⟨plainFrom_mono r1 (by generalize mx la lb = p; unfold mx; split <;> omega), fun z => ?_⟩
          rw [r2]
          constructor
          · exact fun h => h.1
          · exact fun h => ⟨h, by omega⟩

theorem meetF_plain (a b : List Span) : plain (meetF a b) = true :=
  plainFrom_mono (meetGo_spec (normF_plain a) (normF_plain b) (Nat.le_refl _)).1 (by decide)
theorem mem_meetF {a b : List Span} {z : Int} : mem (meetF a b) z ↔ inSet a z ∧ inSet b z := by
  rw [meetF, (meetGo_spec (normF_plain a) (normF_plain b) (Nat.le_refl _)).2, mem_normF, mem_normF]

theorem inSet_plain {l : List Span} (h : plain l = true) {z : Int} : inSet l z ↔ mem l z := by
  constructor
  · exact fun h => h.2
  · intro hz
    have := plainFrom_bound h hz
    exact ⟨⟨this.2.1, this.2.2⟩, hz⟩
theorem normF_id {l : List Span} (h : plain l = true) : normF l = l := plain_unique (normF_plain l) h fun x => by rw [mem_normF, inSet_plain h]
theorem plain_nil_iff {l : List Span} (h : plain l = true) : l = [] ↔ ∀ z, ¬ mem l z := by
  constructor
  · rintro rfl z; exact mem_nil
  · intro h'
    cases l with
    | nil => rfl
    | cons s r => exact absurd (mem_cons.2 (.inl ⟨Int.le_refl _, (plainFrom_cons.1 h).1.1⟩)) (h' s.lo)

/-- what Minus lays between the spans of the one that is taken away. -/
def gaps (lo : Int) : List Span → List Span
  | [] => [⟨lo, 1073741824⟩]
  | x :: r => ⟨lo, x.lo - 1⟩ :: gaps (x.hi + 1) r
def minusF (a b : List Span) : List Span := meetF a (gaps (-1073741824) (normF b))
theorem mem_gaps {lo : Int} {l : List Span} (h : plainFrom (lo - 2) l = true) {z : Int} (hz : z ≤ 1073741824) : mem (gaps lo l) z ↔ lo ≤ z ∧ ¬ mem l z := by
  induction l generalizing lo with
  | nil => simp [gaps, mem]; omega
  | cons x r ih =>
    obtain ⟨h1, h2⟩ := plainFrom_cons.1 h
    have h2' : plainFrom (x.hi + 1 - 2) r = true := plainFrom_mono h2 (by omega)
    show mem (⟨lo, x.lo - 1⟩ :: gaps (x.hi + 1) r) z ↔ _
    rw [mem_cons, mem_cons, ih h2']
    simp only
    constructor
    · rintro (h3 | h3)
      · refine ⟨h3.1, ?_⟩
        rintro (h4 | h4)
        · omega
        · have := plainFrom_bound h2 h4; omega
      · refine ⟨by omega, ?_⟩
        rintro (h4 | h4)
        · omega
        · exact h3.2 h4
    · rintro ⟨h3, h4⟩
      by_cases h5 : z < x.lo
      · exact .inl (by omega)
      · refine .inr ⟨?_, fun h6 => h4 (.inr h6)⟩
        by_cases h6 : z ≤ x.hi
        · exact absurd (.inl ⟨by omega, h6⟩) h4
        · omega
theorem minusF_plain (a b : List Span) : plain (minusF a b) = true := meetF_plain _ _
theorem mem_minusF {a b : List Span} {z : Int} : mem (minusF a b) z ↔ inSet a z ∧ ¬ inSet b z := by
  rw [minusF, mem_meetF]
  have h0 : plainFrom (-1073741824 - 2) (normF b) = true := normF_plain b
  constructor
  · rintro ⟨h1, h2⟩
    refine ⟨h1, fun h3 => ?_⟩
    exact ((mem_gaps h0 h2.1.2).1 h2.2).2 (mem_normF.2 h3)
  · rintro ⟨h1, h2⟩
    exact ⟨h1, h1.1, (mem_gaps h0 h1.1.2).2 ⟨h1.1.1, fun h3 => h2 (mem_normF.1 h3)⟩⟩
theorem joinStep_length (out : List Span) (x : Span) : (joinStep out x).length ≤ out.length + 1 := by
  unfold joinStep
  split
  · split
    · rename_i h _; obtain ⟨ini, rfl⟩ := List.getLast?_eq_some_iff.1 h; simp
    · simp
  · simp
theorem joinL_length (out r : List Span) : (joinL out r).length ≤ out.length + r.length := by
  induction r generalizing out with
  | nil => simp [joinL]
  | cons x r ih =>
    have h1 := ih (joinStep out x)
    have h2 := joinStep_length out x
    simp only [joinL, List.length_cons]
    omega
theorem normF_length (l : List Span) : (normF l).length ≤ l.length := by
  have h1 := joinL_length [] (sortLo (clampL l))
  have h2 := (sortLo_perm (clampL l)).length_eq
  have h3 : (clampL l).length ≤ l.length := List.length_filterMap_le _ _
  unfold normF
  simp only [List.length_nil] at h1
  omega
theorem meetGo_length (n : Nat) (xs ys : List Span) : (meetGo n xs ys).length ≤ n := by
  induction n generalizing xs ys with
  | zero => simp [meetGo]
  | succ n ih =>
    cases xs with
    | nil => simp [meetGo]
    | cons x xs =>
      cases ys with
      | nil => simp [meetGo]
      | cons y ys =>
        have h1 := ih xs (y :: ys)
        have h2 := ih (x :: xs) ys
        simp only [meetGo]
        split <;> split <;> (try simp only [List.length_cons]) <;> omega
theorem meetF_length (a b : List Span) : (meetF a b).length ≤ a.length + b.length := by
  have h1 := meetGo_length ((normF a).length + (normF b).length) (normF a) (normF b)
  have h2 := normF_length a
  have h3 := normF_length b
  unfold meetF
  omega
theorem meet_yes_left {p q : Span} {ps qs : List Span} (h : mx p.lo q.lo ≤ mn p.hi q.hi) (h' : p.hi < q.hi) : meetGo ((p :: ps).length + (q :: qs).length) (p :: ps) (q :: qs) = ⟨mx p.lo q.lo, mn p.hi q.hi⟩ :: meetGo (ps.length + (q :: qs).length) ps (q :: qs) := by
  rw [show (p :: ps).length + (q :: qs).length = (ps.length + (q :: qs).length) + 1 by simp only [List.length_cons]; omega]
  simp only [meetGo, if_pos h, if_pos h']
theorem meet_yes_right {p q : Span} {ps qs : List Span} (h : mx p.lo q.lo ≤ mn p.hi q.hi) (h' : ¬ p.hi < q.hi) : meetGo ((p :: ps).length + (q :: qs).length) (p :: ps) (q :: qs) = ⟨mx p.lo q.lo, mn p.hi q.hi⟩ :: meetGo ((p :: ps).length + qs.length) (p :: ps) qs := by
  rw [show (p :: ps).length + (q :: qs).length = ((p :: ps).length + qs.length) + 1 by simp only [List.length_cons]; omega]
  simp only [meetGo, if_pos h, if_neg h']
theorem meet_no_left {p q : Span} {ps qs : List Span} (h : ¬ mx p.lo q.lo ≤ mn p.hi q.hi) (h' : p.hi < q.hi) : meetGo ((p :: ps).length + (q :: qs).length) (p :: ps) (q :: qs) = meetGo (ps.length + (q :: qs).length) ps (q :: qs) := by
  rw [show (p :: ps).length + (q :: qs).length = (ps.length + (q :: qs).length) + 1 by simp only [List.length_cons]; omega]
  simp only [meetGo, if_neg h, if_pos h']
theorem meet_no_right {p q : Span} {ps qs : List Span} (h : ¬ mx p.lo q.lo ≤ mn p.hi q.hi) (h' : ¬ p.hi < q.hi) : meetGo ((p :: ps).length + (q :: qs).length) (p :: ps) (q :: qs) = meetGo ((p :: ps).length + qs.length) (p :: ps) qs := by
  rw [show (p :: ps).length + (q :: qs).length = ((p :: ps).length + qs.length) + 1 by simp only [List.length_cons]; omega]
  simp only [meetGo, if_neg h, if_neg h']
theorem mx_ok {a b : Int} (ha : I64 a) (hb : I64 b) : I64 (mx a b) := by unfold mx; split <;> assumption
theorem mn_ok {a b : Int} (ha : I64 a) (hb : I64 b) : I64 (mn a b) := by unfold mn; split <;> assumption
theorem minusF_nil {a b : List Span} : minusF a b = [] ↔ ∀ z, inSet a z → inSet b z := by
  rw [plain_nil_iff (minusF_plain a b)]
  constructor
  · intro h z hz
    by_cases hb : inSet b z
    · exact hb
    · exact absurd (mem_minusF.2 ⟨hz, hb⟩) (h z)
  · intro h z hz
    exact (mem_minusF.1 hz).2 (h z (mem_minusF.1 hz).1)
theorem meetF_nil {a b : List Span} : meetF a b = [] ↔ ∀ z, ¬ (inSet a z ∧ inSet b z) := by
  rw [plain_nil_iff (meetF_plain a b)]
  constructor
  · exact fun h z hz => h z (mem_meetF.2 hz)
  · exact fun h z hz => h z (mem_meetF.1 hz)
end Go.Um
namespace Go.Um
open Go.RowKit Go.Sort Go.Proofs

instance : Inhabited Span := ⟨⟨0, 0⟩⟩

theorem flatK_spans (xs : List Span) : flatK Span.cells 2 xs.toArray = (xs.flatMap Span.cells).toArray := by
  have hlen : (xs.flatMap Span.cells).length = xs.length * 2 := by
    induction xs with
    | nil => rfl
    | cons x r ih => rw [List.flatMap_cons, List.length_append, ih, List.length_cons, Nat.add_mul]; simp [Span.cells]; omega
  refine ext_get! (by simp [hlen]) fun t ht => ?_
  have ht' : t < xs.toArray.size * 2 := by simpa using ht
  rw [get_flatK _ _ _ _ ht']
  simp only [List.size_toArray] at ht'
  clear ht hlen
  induction xs generalizing t with
  | nil => simp at ht'
  | cons x r ih =>
    rw [List.flatMap_cons]
    match t with
    | 0 => rfl
    | 1 => rfl
    | t + 2 =>
      have h1 := ih t (by simp at ht'; omega)
      have e1 : (t + 2) / 2 = t / 2 + 1 := by omega
      have e2 : (t + 2) % 2 = t % 2 := by omega
      rw [e1, e2]
      simpa [Span.cells] using h1

theorem holds_flat {w : World} {g : Nat} {cur : Array Value} {e : TypeId} {F : List Value} (hb : w.heap[g]? = some (.cells cur e (0, 0))) (ht : cur.toList.take F.length = F) : Holds id w g 0 F.toArray := by
  intro j hj
  have hj' : j < F.length := by simpa using hj
  refine ⟨?_, by simp [World.frozen?, hb]⟩
  have h1 : (cur.toList.take F.length)[j]? = F[j]? := by rw [ht]
  rw [List.getElem?_take_of_lt hj'] at h1
  simp only [World.cell?, hb, Nat.zero_add]
  simp only [Option.isSome_none, Bool.false_eq_true, if_false]
  rw [← Array.getElem?_toList, h1]
  simp [hj']
theorem heap_flat {w : World} {g n : Nat} {os : Array Obj} {cur : Array Value} {e : TypeId} {fr : Nat × Nat} (d : Array Value) (hb : w.heap[g]? = some (.cells cur e fr)) :
    (grow (putRow id (Sort.ahead w n) g 0 d) os).heap[g]? = some (.cells (putCells id 0 d cur) e fr) := by
  have hg : g < w.heap.size := (Array.getElem?_eq_some_iff.1 hb).1
  rw [heap_grow_old _ _ (by simpa using hg)]
  simp [putRow, mapBlock, Sort.ahead, Array.getElem?_modify, hb, onCells]
theorem grown_flat {w : World} {g n : Nat} {os : Array Obj} (d : Array Value) : w.grownBy (grow (putRow id (Sort.ahead w n) g 0 d) os) (some g) := by
  refine ⟨rfl, rfl, rfl, by simp, fun k hk hne => ?_⟩
  rw [heap_grow_old _ _ (by simpa using hk)]
  have : g ≠ k := fun e => hne (by rw [e])
  simp [putRow, mapBlock, Sort.ahead, Array.getElem?_modify, this]
theorem take_flat (cur : Array Value) (F : List Value) (h : F.length ≤ cur.size) : (putCells id 0 F.toArray cur).toList.take F.length = F := by
  apply List.ext_getElem?
  intro j
  by_cases hj : j < F.length
  · rw [List.getElem?_take_of_lt hj, Array.getElem?_toList]
    simp [putCells, hj, show j < cur.size by omega]
  · rw [List.getElem?_take_eq_none (by omega), List.getElem?_eq_none (by omega)]

/-- cmp.Compare of the Los, less. -/
theorem ltLo (x y : Span) : ltOf (fun x y : Span => Lib.compareInt x.lo y.lo) x y = decide (x.lo < y.lo) := by
  unfold ltOf Lib.compareInt
  by_cases h1 : x.lo < y.lo
  · simp [h1]
  · by_cases h2 : y.lo < x.lo <;> simp [h1, h2]
theorem swoLo : SWO (ltOf fun x y : Span => Lib.compareInt x.lo y.lo) where
  irrefl x := by rw [ltLo]; simp
  trans x y z h1 h2 := by rw [ltLo] at *; simp at *; omega
  ntrans x y z h1 h2 := by rw [ltLo] at *; simp at *; omega

theorem sortedLo_of {d : Array Span} (h : SortedIn (ltOf fun x y : Span => Lib.compareInt x.lo y.lo) 0 d.size d) : SortedLo d.toList := by
  unfold SortedLo
  rw [List.pairwise_iff_getElem]
  intro i j hi hj hij
  have h1 := h i j (Nat.zero_le _) hij (by simpa using hj)
  rw [ltLo] at h1
  simp only [Array.length_toList] at hi hj
  rw [getElem!_pos d i hi, getElem!_pos d j hj] at h1
  simp at h1
  simpa using h1
theorem perm_of {d d' : Array Span} (h : PermIn 0 d.size d d') : d'.toList.Perm d.toList := by
  obtain ⟨h1, _, h3⟩ := h
  have e1 : d'.extract 0 d.size = d' := by rw [← h1]; simp
  have e2 : d.extract 0 d.size = d := by simp
  rwa [e1, e2] at h3

theorem length_cells (xs : List Span) : (xs.flatMap Span.cells).length = xs.length * 2 := by
  induction xs with
  | nil => rfl
  | cons x r ih => rw [List.flatMap_cons, List.length_append, ih, List.length_cons, Nat.add_mul]; simp [Span.cells]; omega

theorem OwnS.holds {e : TypeId} {w : World} {base g cap : Nat} {xs : List Span} (h : OwnS e w base (.slice (some ⟨g, 0, none⟩) xs.length cap) xs) : HoldsK Span.cells 2 w g 0 xs.toArray := by
  rcases h.1.2 with ⟨h0, _⟩ | ⟨g', cap', cur, hv, hb, hg, hn, hc, hs, ht⟩
  · cases h0
  · cases hv
    unfold HoldsK
    rw [flatK_spans]
    exact holds_flat hg (by rw [length_cells]; exact ht)
/-- behind the sort. -/
theorem OwnS.sorted {e : TypeId} {w : World} {base g cap n : Nat} {os : Array Obj} {xs ys : List Span} (h : OwnS e w base (.slice (some ⟨g, 0, none⟩) xs.length cap) xs) (hp : ys.Perm xs) :
    OwnS e (sortWorldK Span.cells 2 w g 0 n ys.toArray os) base (.slice (some ⟨g, 0, none⟩) xs.length cap) ys ∧ w.grownBy (sortWorldK Span.cells 2 w g 0 n ys.toArray os) (some g) := by
  have hl := hp.length_eq
  refine ⟨⟨?_, fun y hy => h.2 y (hp.mem_iff.1 hy)⟩, ?_⟩
  · rcases h.1.2 with ⟨h0, _⟩ | ⟨g', cap', cur, hv, hb, hg, hn, hc, hs, ht⟩
    · cases h0
    · cases hv
      rw [← hl]
      refine ⟨length_cells ys, .inr ⟨g, cap, putCells id 0 (ys.flatMap Span.cells).toArray cur, rfl, hb, ?_, by omega, hc, by simp [putCells, hs], ?_⟩⟩
      · unfold sortWorldK putRowK
        rw [flatK_spans]
        exact heap_flat _ hg
      · have := take_flat cur (ys.flatMap Span.cells) (by rw [length_cells, hs]; exact Nat.mul_le_mul_right 2 (by omega))
        rwa [length_cells] at this
  · unfold sortWorldK putRowK
    exact grown_flat _
end Go.Um
namespace Go.Um
open Go.RowKit

/-- outs lies at the row's beginning, ys from place i on where it lay. -/
def RowG (w : World) (e : TypeId) (g cap : Nat) (outs ys : List Span) (i : Nat) : Prop :=
  ∃ cur : Array Value, w.heap[g]? = some (.cells cur e (0, 0)) ∧ cur.size = cap * 2 ∧ outs.length ≤ i ∧ (∀ (j : Nat) (x : Span), outs[j]? = some x → cur[j * 2]? = some (.int .i64 x.lo) ∧ cur[j * 2 + 1]? = some (.int .i64 x.hi)) ∧
    ∀ (j : Nat) (x : Span), i ≤ j → ys[j]? = some x → cur[j * 2]? = some (.int .i64 x.lo) ∧ cur[j * 2 + 1]? = some (.int .i64 x.hi)

section
variable {w w' : World} {e : TypeId} {g cap : Nat} {outs ys : List Span} {i : Nat}
theorem RowG.keep (h : RowG w e g cap outs ys i) (hw : w'.heap[g]? = w.heap[g]?) : RowG w' e g cap outs ys i := by
  obtain ⟨cur, h1, h2⟩ := h
  exact ⟨cur, hw.trans h1, h2⟩
theorem RowG.lt (h : RowG w e g cap outs ys i) : g < w.heap.size := by
  obtain ⟨cur, h1, _⟩ := h
  exact (Array.getElem?_eq_some_iff.1 h1).1
theorem RowG.alloc (h : RowG w e g cap outs ys i) (o : Obj) : RowG (w.alloc o) e g cap outs ys i := h.keep (Below.heap_alloc w o g h.lt)
theorem RowG.out_cell (h : RowG w e g cap outs ys i) {j : Nat} {x : Span} (hx : outs[j]? = some x) : w.cell? ⟨g, j * 2, none⟩ = some (.int .i64 x.lo) ∧ w.cell? ⟨g, j * 2 + 1, none⟩ = some (.int .i64 x.hi) := by
  obtain ⟨cur, h1, h2, h3, h4, h5⟩ := h
  have := h4 j x hx
  exact ⟨(cell_of_row w g _ cur e (0, 0) h1).trans this.1, (cell_of_row w g _ cur e (0, 0) h1).trans this.2⟩
theorem RowG.in_cell (h : RowG w e g cap outs ys i) {j : Nat} {x : Span} (hj : i ≤ j) (hx : ys[j]? = some x) : w.cell? ⟨g, j * 2, none⟩ = some (.int .i64 x.lo) ∧ w.cell? ⟨g, j * 2 + 1, none⟩ = some (.int .i64 x.hi) := by
  obtain ⟨cur, h1, h2, h3, h4, h5⟩ := h
  have := h5 j x hj hx
  exact ⟨(cell_of_row w g _ cur e (0, 0) h1).trans this.1, (cell_of_row w g _ cur e (0, 0) h1).trans this.2⟩
theorem RowG.frozen (h : RowG w e g cap outs ys i) (j : Nat) : w.frozen? ⟨g, j, none⟩ = false := by
  obtain ⟨cur, h1, _⟩ := h
  simp [World.frozen?, h1]
theorem RowG.next (h : RowG w e g cap outs ys i) : RowG w e g cap outs ys (i + 1) := by
  obtain ⟨cur, h1, h2, h3, h4, h5⟩ := h
  exact ⟨cur, h1, h2, by omega, h4, fun j x hj hx => h5 j x (by omega) hx⟩
/-- the last one's Hi is written. -/
theorem RowG.store {ini : List Span} {t : Span} (h : RowG w e g cap (ini ++ [t]) ys i) (hi : Int) : RowG (w.setCell ⟨g, ini.length * 2 + 1, none⟩ (.int .i64 hi)) e g cap (ini ++ [⟨t.lo, hi⟩]) ys i := by
  obtain ⟨cur, h1, h2, h3, h4, h5⟩ := h
  refine ⟨cur.setIfInBounds (ini.length * 2 + 1) (.int .i64 hi), ?_, by simpa using h2, by simpa using h3, fun j x hx => ?_, fun j x hj hx => ?_⟩
  · simp [World.setCell, Array.getElem?_modify, h1]
  · by_cases hj : j = ini.length
    · subst hj
      simp at hx
      subst hx
      have h6 := h4 ini.length t (by simp)
      refine ⟨by rw [Array.getElem?_setIfInBounds_ne (by omega)]; exact h6.1, ?_⟩
      have hlt : ini.length * 2 + 1 < cur.size := (Array.getElem?_eq_some_iff.1 h6.2).1
      simp [hlt]
    · have hlt : j < ini.length := by
        have := (List.getElem?_eq_some_iff.1 hx).1
        simp at this
        omega
      have h6 := h4 j x (by rw [List.getElem?_append_left hlt] at hx ⊢; exact hx)
      exact ⟨by rw [Array.getElem?_setIfInBounds_ne (by omega)]; exact h6.1, by rw [Array.getElem?_setIfInBounds_ne (by omega)]; exact h6.2⟩
  · have h6 := h5 j x hj hx
    simp at h3
    exact ⟨by rw [Array.getElem?_setIfInBounds_ne (by omega)]; exact h6.1, by rw [Array.getElem?_setIfInBounds_ne (by omega)]; exact h6.2⟩
/-- one more lies behind the last one. -/
theorem RowG.push (h : RowG w e g cap outs ys i) (x : Span) {cur : Array Value} (hc : w.heap[g]? = some (.cells cur e (0, 0))) (hl : outs.length < cap)
    (hw : w'.heap[g]? = some (.cells (cur.toList.take (outs.length * 2) ++ [Value.int .i64 x.lo, Value.int .i64 x.hi] ++ cur.toList.drop (outs.length * 2 + 2)).toArray e (0, 0))) : RowG w' e g cap (outs ++ [x]) ys (i + 1) := by
  obtain ⟨cur', h1, h2, h3, h4, h5⟩ := h
  rw [hc] at h1
  obtain rfl : cur = cur' := by injection h1 with h1; injection h1
  have hsz : outs.length * 2 + 2 ≤ cur.size := by omega
  have hin : ∀ k, k < outs.length * 2 → (cur.toList.take (outs.length * 2) ++ [Value.int .i64 x.lo, Value.int .i64 x.hi] ++ cur.toList.drop (outs.length * 2 + 2)).toArray[k]? = cur[k]? := by
    intro k hk
    rw [List.getElem?_toArray, List.append_assoc, List.getElem?_append_left (by simp; omega), List.getElem?_take_of_lt hk, Array.getElem?_toList]
  have hout : ∀ k, outs.length * 2 + 2 ≤ k → (cur.toList.take (outs.length * 2) ++ [Value.int .i64 x.lo, Value.int .i64 x.hi] ++ cur.toList.drop (outs.length * 2 + 2)).toArray[k]? = cur[k]? := by
    intro k hk
    have hlen : (cur.toList.take (outs.length * 2) ++ [Value.int .i64 x.lo, Value.int .i64 x.hi]).length = outs.length * 2 + 2 := by simp; omega
    rw [List.getElem?_toArray, List.getElem?_append_right (by omega), hlen, List.getElem?_drop, Array.getElem?_toList]
    congr 1
    omega
  have hmid : ∀ k u, [Value.int .i64 x.lo, Value.int .i64 x.hi][k]? = some u → (cur.toList.take (outs.length * 2) ++ [Value.int .i64 x.lo, Value.int .i64 x.hi] ++ cur.toList.drop (outs.length * 2 + 2)).toArray[outs.length * 2 + k]? = some u := by
    intro k u hk
    have hlen : (cur.toList.take (outs.length * 2)).length = outs.length * 2 := by simp; omega
    have hk2 := (List.getElem?_eq_some_iff.1 hk).1
    rw [List.getElem?_toArray, List.append_assoc, List.getElem?_append_right (by omega), hlen, List.getElem?_append_left (by omega), Nat.add_sub_cancel_left]
    exact hk
  refine ⟨_, hw, ?_, by simp; omega, fun j y hy => ?_, fun j y hj hy => ?_⟩
  · simp; omega
  · by_cases hj : j = outs.length
    · subst hj
      simp at hy
      subst hy
      exact ⟨by have := hmid 0 _ rfl; simpa using this, hmid 1 _ rfl⟩
    · have hlt : j < outs.length := by
        have := (List.getElem?_eq_some_iff.1 hy).1
        simp at this
        omega
      have h6 := h4 j y (by rw [List.getElem?_append_left hlt] at hy; exact hy)
      exact ⟨(hin _ (by omega)).trans h6.1, (hin _ (by omega)).trans h6.2⟩
  · have h6 := h5 j y (by omega) hy
    exact ⟨(hout _ (by omega)).trans h6.1, (hout _ (by omega)).trans h6.2⟩
theorem RowG.own {base : Nat} (h : RowG w e g cap outs ys i) (hb : base ≤ g) (hl : outs.length ≤ cap) (hm : cap ≤ maxLen) (hx : ∀ x ∈ outs, x.ok) : OwnS e w base (.slice (some ⟨g, 0, none⟩) outs.length cap) outs := by
  obtain ⟨cur, h1, h2, h3, h4, h5⟩ := h
  refine ⟨⟨length_cells outs, .inr ⟨g, cap, cur, rfl, hb, h1, hl, hm, h2, ?_⟩⟩, hx⟩
  clear h1 h3 h5 hx
  have hle : outs.length * 2 ≤ cur.toList.length := by simp only [Array.length_toList, h2]; exact Nat.mul_le_mul_right 2 hl
  refine List.ext_getElem (by rw [List.length_take, length_cells]; omega) fun k k1 k2 => ?_
  rw [length_cells] at k2
  have hj : k / 2 < outs.length := by omega
  obtain ⟨x, hx⟩ := at_lt hj
  have h6 := h4 (k / 2) x hx
  have key : ∀ (l : List Span) (q : Nat) (y : Span), l[q]? = some y → (l.flatMap Span.cells)[q * 2]? = some (.int .i64 y.lo) ∧ (l.flatMap Span.cells)[q * 2 + 1]? = some (.int .i64 y.hi) := by
    intro l
    induction l with
    | nil => intro q y hq; simp at hq
    | cons a r ih =>
      intro q y hq
      rw [List.flatMap_cons]
      cases q with
      | zero => simp at hq; subst hq; exact ⟨rfl, rfl⟩
      | succ q =>
        have := ih q y (by simpa using hq)
        have e1 : (q + 1) * 2 = q * 2 + 2 := by omega
        rw [e1]
        simpa [Span.cells] using this
  have h7 := key outs (k / 2) x hx
  apply Option.some.inj
  rw [← List.getElem?_eq_getElem, ← List.getElem?_eq_getElem, List.getElem?_take_of_lt k2, Array.getElem?_toList]
  rcases Nat.mod_two_eq_zero_or_one k with hk | hk
  · have e1 : k / 2 * 2 = k := by omega
    rw [e1] at h6 h7
    rw [h6.1, h7.1]
  · have e1 : k / 2 * 2 + 1 = k := by omega
    rw [e1] at h6 h7
    rw [h6.2, h7.2]
theorem RowG.start {base : Nat} (h : OwnS e w base (.slice (some ⟨g, 0, none⟩) ys.length cap) ys) : RowG w e g cap [] ys 0 := by
  rcases h.1.2 with ⟨h0, _⟩ | ⟨g', cap', cur, hv, hb, hg, hn, hc, hs, ht⟩
  · cases h0
  · cases hv
    refine ⟨cur, hg, hs, Nat.le_refl _, fun j x hx => by simp at hx, fun j x _ hx => ?_⟩
    have hj := (List.getElem?_eq_some_iff.1 hx).1
    have key := list_at (r := spanR) h.rel hx
    obtain ⟨b, o, ds, h1, h2, ⟨rfl, h4, h5⟩, h7⟩ := key
    cases h1
    have k0 := h7 0 _ rfl
    have k1 := h7 1 _ rfl
    have hw2 : spanR.width = 2 := rfl
    rw [hw2, cell_of_row w g _ cur e (0, 0) hg] at k0 k1
    simp only [Nat.zero_add, Nat.add_zero] at k0 k1
    exact ⟨k0, k1⟩
end

theorem RowG.row {w : World} {e : TypeId} {g cap i : Nat} {outs ys : List Span} (h : RowG w e g cap outs ys i) : ∃ cur : Array Value, w.heap[g]? = some (.cells cur e (0, 0)) ∧ cur.size = cap * 2 := by
  obtain ⟨cur, h1, h2, _⟩ := h
  exact ⟨cur, h1, h2⟩
theorem okS_snoc {l : List Span} {x : Span} (h : ∀ y ∈ l, okS y) (hx : okS x) : ∀ y ∈ l ++ [x], okS y := by
  intro y hy
  rcases List.mem_append.1 hy with hy | hy
  · exact h y hy
  · simp at hy; subst hy; exact hx
theorem joinStep_yes {ini : List Span} {t x : Span} (h : x.lo ≤ t.hi + 1) : joinStep (ini ++ [t]) x = ini ++ [⟨t.lo, max t.hi x.hi⟩] := by simp [joinStep, h]
theorem joinStep_no {ini : List Span} {t x : Span} (h : ¬ x.lo ≤ t.hi + 1) : joinStep (ini ++ [t]) x = (ini ++ [t]) ++ [x] := by simp [joinStep, h]
/-- an append for which there is room, to the cell. -/
theorem wpList_append_here {P : Program} (w : World) {ops : Array Oper} {rest : List Oper} {o : Oper} {a : Act} {Q : Exit → Act → World → Prop} (hgd : o.guard = none) (s x : Operand) (t : TypeId)
    (ho : o.op = .call { callee := .builtin .append, args := #[s, x], argTypes := #[t, t] }) (e : TypeId) (i : TypeInfo) (ht : P.underlying t = some (.slice e)) (hi : P.info? e = some i)
    (g n cap : Nat) (cur : Array Value) (hs : a.eval s = .slice (some ⟨g, 0, none⟩) n cap) (hg : w.heap[g]? = some (.cells cur e (0, 0)))
    (ad : Addr) (m c : Nat) (news : List Value) (hx : a.eval x = .slice (some ad) m c) (hl : news.length = m * i.size) (hnews : ∀ j u, news[j]? = some u → w.cell? (ad.add j) = some u) (h1 : ∀ u ∈ news, u.oneCell' = true)
    (hroom : n + m ≤ cap) (hfit : n * i.size + news.length ≤ cur.size)
    (h : ∀ w', w'.heap[g]? = some (.cells (cur.toList.take (n * i.size) ++ news ++ cur.toList.drop (n * i.size + news.length)).toArray e (0, 0)) → w.grownBy w' (some g) → wpList P ops Q rest (a.put o.dst (.slice (some ⟨g, 0, none⟩) (n + m) cap)) w') : wpList P ops Q (o :: rest) a w := by
  refine wpList_plain hgd fun K hK => ?_
  have hrun := run_append_room (P := P) w t o.type e i ht hi g n cap cur hg ad m c news hl hnews h1 hroom hfit
  unfold Oper.wp
  simp only [execOp, ho, resolve, invoke, builtin, Sem.run_bind, Sem.run_pure, Result.andThen_ok, List.map_toArray, List.map_cons, List.map_nil, hs, hx, hrun]
  exact hK _ _ (h _ (setRow_heap w g cur _ e _ hg) ⟨rfl, rfl, rfl, by simp, fun k _ hk => setRow_other w g k _ (fun e => hk (by simp [e]))⟩)
end Go.Um
namespace Go.Um
open Go.RowKit

section
variable {P : Program} {md : Region.Mode} {ops : Array Oper} {Q : Exit → Act → World → Prop} {S : World → Prop} {last : Nat}

/-- Whatever order is picked from here on; S holds behind each operation, but perhaps behind the one that is last. -/
def anyL (P : Program) (md : Region.Mode) (ops : Array Oper) (Q : Exit → Act → World → Prop) (S : World → Prop) (last : Nat) : Nat → Array Bool → Act → World → Prop
  | 0, listed, a, w => Region.ready md ops listed = [] ∧ Q .normal a w
  | f + 1, listed, a, w => (Region.ready md ops listed = [] → Q .normal a w) ∧
      ∀ i ∈ Region.ready md ops listed, wpOp P ops Q i (fun a' w' => (i ≠ last → S w') ∧ anyL P md ops Q S last f (listed.setIfInBounds i true) a' w') a w

theorem any_of_anyL : ∀ (f : Nat) (listed : Array Bool) (a : Act) (w : World), anyL P md ops Q S last f listed a w → wpAny P md ops Q f listed a w
  | 0, _, _, _, h => h
  | f + 1, _, _, _, h => ⟨h.1, fun i hi => wpOp_mono (fun a' w' h' => any_of_anyL f _ a' w' h'.2) (h.2 i hi)⟩

/-- what is last waits for number i: by itself, or for one that has not come up and waits for it. -/
def LastWaits (md : Region.Mode) (ops : Array Oper) (last i : Nat) (listed : Array Bool) : Prop :=
  ∀ ol, ops[last]? = some ol → ∃ e ∈ ol.after, Region.binds md e = true ∧ (e.on = i ∨ (listed.getD e.on false = false ∧ ∃ ok, ops[e.on]? = some ok ∧ ∃ e' ∈ ok.after, Region.binds md e' = true ∧ e'.on = i))

theorem anyL_first {i : Nat} {oi : Oper} {v : Value} (hi : ops[i]? = some oi) (hsel : ∀ (j : Nat) (o : Oper) (cs : Array SelectCase) (b : Bool), ops[j]? = some o → o.op ≠ .select cs b)
    (hQ : ∀ c a w, Q (.panic c) (a.put oi.dst v) w → Q (.panic c) a w) (hil : i ≠ last) :
    ∀ (f : Nat) (listed : Array Bool) (a : Act) (w : World),
      (∀ j oj, ops[j]? = some oj → j ≠ i → listed.getD j true = false → (∀ e ∈ oj.after, Region.binds md e = true → e.on ≠ i) → oi.apart ops oj = true) →
      LastWaits md ops last i listed → i ∈ Region.ready md ops listed → YieldsIf P ops S oi v a → S w →
      anyL P md ops Q S last f (listed.setIfInBounds i true) (a.put oi.dst v) w → anyL P md ops Q S last (f + 1) listed a w := by
  intro f
  induction f with
  | zero =>
    intro listed a w _ _ hr hy hS H
    refine ⟨fun h => (by rw [h] at hr; cases hr), fun j hj => ?_⟩
    by_cases hji : j = i
    · subst hji; exact hy.wpOp hi hS ⟨fun _ => hS, H⟩
    · have := ready_mono hj hji
      rw [H.1] at this
      cases this
  | succ f ih =>
    intro listed a w hfree hlw hr hy hS H
    refine ⟨fun h => (by rw [h] at hr; cases hr), fun j hj => ?_⟩
    by_cases hji : j = i
    · subst hji; exact hy.wpOp hi hS ⟨fun _ => hS, H⟩
    · have h1 := H.2 j (ready_mono hj hji)
      obtain ⟨hjun, oj, hoj, hall⟩ := mem_ready.1 hj
      have hnot : ∀ e ∈ oj.after, Region.binds md e = true → e.on ≠ i := fun e he hb heq => by
        have g1 := hall e he hb
        have g0 := (mem_ready.1 hr).1
        rw [heq] at g1
        rcases Nat.lt_or_ge i listed.size with h' | h'
        · simp [h'] at g0 g1; rw [g0] at g1; cases g1
        · simp [Array.getElem?_eq_none h'] at g1
      have hjl : j ≠ last := fun hjl => by
        subst hjl
        obtain ⟨e, he, hb, hon | ⟨hun, _⟩⟩ := hlw oj hoj
        · exact hnot e he hb hon
        · rw [hall e he hb] at hun; cases hun
      have hlw' : LastWaits md ops last i (listed.setIfInBounds j true) := fun ol hol => by
        obtain ⟨e, he, hb, hon | ⟨hun, ok, hok, e', he', hb', hon'⟩⟩ := hlw ol hol
        · exact ⟨e, he, hb, .inl hon⟩
        · refine ⟨e, he, hb, .inr ⟨?_, ok, hok, e', he', hb', hon'⟩⟩
          have hne : j ≠ e.on := fun hje => by
            subst hje
            rw [hoj] at hok
            cases hok
            exact hnot e' he' hb' hon'
          rw [getD_set_ne false hne]; exact hun
      have h2 := wpOp_putIf hoj (hfree j oj hoj hji hjun hnot) (fun cs b => hsel i oi cs b hi) (fun cs b => hsel j oj cs b hoj) hQ hy h1
      have hfree' : ∀ k ok, ops[k]? = some ok → k ≠ i → (listed.setIfInBounds j true).getD k true = false →
          (∀ e ∈ ok.after, Region.binds md e = true → e.on ≠ i) → oi.apart ops ok = true := fun k ok hk hki hun hno => by
        refine hfree k ok hk hki ?_ hno
        by_cases hjk : j = k
        · subst hjk; exact hjun
        · rw [getD_set_ne true hjk] at hun; exact hun
      refine wpOp_mono (fun a' w' h3 => ⟨h3.2.1, ih (listed.setIfInBounds j true) a' w' hfree' hlw' (ready_mono hr (Ne.symm hji)) h3.1 (h3.2.1 hjl) ?_⟩) h2
      rw [Array.setIfInBounds_comm _ _ hji]
      exact h3.2.2

/-- an operation that hands back a value, or does not run. -/
def plainOp : Op → Bool
  | .move _ | .assign _ | .pick .. | .build .. | .load .. | .binOp .. | .unOp .. | .convert .. | .slice .. | .fieldAddr .. | .field .. | .indexAddr .. | .index .. | .extract .. | .lookup .. | .nilCheck _ => true
  | .call { callee := .builtin .len, .. } | .call { callee := .builtin .cap, .. } | .call { callee := .builtin .max, .. } | .call { callee := .builtin .min, .. } => true
  | _ => false

theorem value_of_bind {s : Sem Value} {w w' : World} {n : Next} (h : (do pure (Next.value (← s)) : Sem Next).run P w = .ok n w') : ∃ u, n = .value u := by
  rw [Sem.run_bind] at h
  cases hs : s.run P w with
  | ok u w'' =>
    rw [hs] at h
    simp only [Result.andThen_ok, Sem.run_pure] at h
    injection h with h1 h2
    exact ⟨u, h1.symm⟩
  | halt x w'' =>
    rw [hs] at h
    cases h

theorem value_of_then {α : Type} {s : Sem α} {f : α → Value} {w w' : World} {n : Next} (h : (s >>= fun a => pure (Next.value (f a))).run P w = .ok n w') : ∃ u, n = .value u := by
  rw [Sem.run_bind] at h
  cases hs : s.run P w with
  | ok u w'' =>
    rw [hs] at h
    simp only [Result.andThen_ok, Sem.run_pure] at h
    injection h with h1 h2
    exact ⟨_, h1.symm⟩
  | halt x w'' =>
    rw [hs] at h
    cases h
theorem nilCheck_value {x : Operand} {ρ : Operand → Value} {w w' : World} {n : Next} {d ty pos after guard} (h : (execOp ρ ⟨d, .nilCheck x, ty, pos, after, guard⟩).run P w = .ok n w') : ∃ u, n = .value u := by
  simp only [execOp] at h
  split at h
  · simp [runtimePanic] at h
  · simp [runtimePanic] at h
  · simp [runtimePanic] at h
  · split at h
    · simp [runtimePanic] at h
    · rename_i t v _
      rw [Sem.run_bind] at h
      cases hs : Sem.run P program w with
      | halt x w1 => rw [hs] at h; cases h
      | ok a w1 =>
        rw [hs] at h
        simp only [Result.andThen_ok] at h
        rw [Sem.run_bind] at h
        generalize hq : Sem.run P (nilAhead _ _ _ _) w1 = q at h
        cases q with
        | halt x w2 => cases h
        | ok b w2 =>
          simp only [Result.andThen_ok] at h
          split at h
          · exact value_of_then h
          · simp only [Sem.run_pure] at h
            injection h with h1 h2
            exact ⟨_, h1.symm⟩
    · simp only [Sem.run_pure] at h
      injection h with h1 h2
      exact ⟨_, h1.symm⟩
  · simp only [Sem.run_pure] at h
    injection h with h1 h2
    exact ⟨_, h1.symm⟩
theorem plainOp_value {o : Oper} {ρ : Operand → Value} {w w' : World} {n : Next} (hp : plainOp o.op = true) (h : (execOp ρ o).run P w = .ok n w') : ∃ u, n = .value u := by
  obtain ⟨dst, op, ty, pos, after, guard⟩ := o
  cases op <;> simp only [plainOp, Bool.false_eq_true] at hp
  case call c =>
    obtain ⟨callee, args, argTypes⟩ := c
    cases callee with
    | builtin b =>
      cases b <;> simp only [Bool.false_eq_true] at hp <;>
        (simp only [execOp, resolve, Sem.run_bind, Sem.run_pure, Result.andThen_ok, invoke, builtin] at h
         exact value_of_bind (P := P) (w := w) (w' := w') (by rw [Sem.run_bind]; exact h))
    | value f => simp at hp
    | invoke r m => simp at hp
  case move x => simp only [execOp, Sem.run_pure] at h; injection h with h1 h2; exact ⟨_, h1.symm⟩
  case assign x => simp only [execOp, Sem.run_pure] at h; injection h with h1 h2; exact ⟨_, h1.symm⟩
  case pick c x y => exact value_of_bind (s := do pure (if ← asBool (ρ c) then ρ x else ρ y)) (by simpa [execOp, Sem.run_bind] using h)
  case nilCheck x => exact nilCheck_value h
  all_goals exact value_of_bind h

/-- may these be taken first, one behind the other, in this order? -/
def batchB (md : Region.Mode) (ops : Array Oper) (last : Nat) (listed : Array Bool) : List Nat → Bool
  | [] => true
  | i :: r => (Region.ready md ops listed).contains i && Region.free md ops listed i && i != last &&
      (match ops[last]? with | some ol => ol.after.any (fun e => Region.binds md e && (e.on == i || (!listed.getD e.on false && (match ops[e.on]? with | some ok => ok.after.any (fun e' => Region.binds md e' && e'.on == i) | none => false)))) | none => true) &&
      (match ops[i]? with | some o => plainOp o.op | none => false) && batchB md ops last (listed.setIfInBounds i true) r
def marked (listed : Array Bool) (l : List Nat) : Array Bool := l.foldl (fun s i => s.setIfInBounds i true) listed

theorem put_panic (hQ : ∀ c (t u : Array Value) ds w, Q (.panic c) ⟨t, ds⟩ w → Q (.panic c) ⟨u, ds⟩ w) {c : List PanicEntry} {a : Act} {d : Option Tmp} {v : Value} {w : World} (h : Q (.panic c) (a.put d v) w) : Q (.panic c) a w := by
  cases d with
  | none => exact h
  | some d => exact hQ c _ _ _ w h
theorem anyL_batch (hs : Region.noSelect ops = true) (hQ : ∀ c (t u : Array Value) ds w, Q (.panic c) ⟨t, ds⟩ w → Q (.panic c) ⟨u, ds⟩ w) {w : World} (hS : S w) {f : Nat} :
    ∀ (l : List Nat) (lo : List Oper) (listed : Array Bool) (a : Act), l.map (ops[·]?) = lo.map some → batchB md ops last listed l = true →
      wpQuiet P ops S (fun a' => anyL P md ops Q S last f (marked listed l) a' w) lo a → anyL P md ops Q S last (f + l.length) listed a w := by
  intro l
  induction l with
  | nil =>
    intro lo listed a hlo _ h
    have : lo = [] := by cases lo <;> simp_all
    subst this
    exact h
  | cons i r ih =>
    intro lo listed a hlo hB h
    cases lo with
    | nil => simp at hlo
    | cons o lo =>
      simp only [List.map_cons, List.cons.injEq] at hlo
      obtain ⟨ho, hlo⟩ := hlo
      simp only [batchB, Bool.and_eq_true, bne_iff_ne] at hB
      obtain ⟨⟨⟨⟨⟨hr, hf⟩, hne⟩, hl⟩, hp⟩, hB⟩ := hB
      rw [ho] at hp
      simp only at hp
      have hl' : LastWaits md ops last i listed := by
        intro ol hol
        rw [hol] at hl
        obtain ⟨e, he, hb⟩ := Array.any_eq_true'.1 hl
        simp only [Bool.and_eq_true, Bool.or_eq_true, beq_iff_eq, Bool.not_eq_true'] at hb
        obtain ⟨hb1, hb2⟩ := hb
        refine ⟨e, he, hb1, ?_⟩
        rcases hb2 with hb2 | ⟨hb2, hb3⟩
        · exact .inl hb2
        · right
          refine ⟨hb2, ?_⟩
          cases hk : ops[e.on]? with
          | none => rw [hk] at hb3; cases hb3
          | some ok =>
            rw [hk] at hb3
            obtain ⟨e', he', hb'⟩ := Array.any_eq_true'.1 hb3
            simp only [Bool.and_eq_true, beq_iff_eq] at hb'
            exact ⟨ok, rfl, e', he', hb'⟩
      have key : ∃ v, YieldsIf P ops S o v a ∧ wpQuiet P ops S (fun a' => anyL P md ops Q S last f (marked listed (i :: r)) a' w) lo (a.put o.dst v) := by
        simp only [wpQuiet] at h
        split at h
        · rename_i hw
          obtain ⟨v, h1, h2⟩ := h
          refine ⟨v, .inl ⟨hw, fun w' hw' => ?_⟩, h2⟩
          have h3 := h1 w' hw'
          unfold Oper.quietAt at h3
          cases hrun : (execOp a.eval o).run P w' with
          | ok n w'' =>
            obtain ⟨u, rfl⟩ := plainOp_value hp hrun
            rw [hrun] at h3
            obtain ⟨rfl, rfl⟩ := h3
            rfl
          | halt x w'' =>
            rw [hrun] at h3
            exact h3.elim
        · rename_i hw
          exact ⟨undef, .inr ⟨by simpa using hw, rfl⟩, h⟩
      obtain ⟨v, hy, hrest⟩ := key
      have h4 := ih lo (listed.setIfInBounds i true) (a.put o.dst v) hlo hB hrest
      exact anyL_first ho (Region.noSelect_spec hs) (fun c a w h => put_panic hQ h) hne _ listed a w (Region.free_spec ho hf) hl' (by simpa using hr) hy hS h4

theorem range_picks (lo : List Oper) : ∀ (n k : Nat), k + n ≤ lo.length → (List.range' k n).map (lo.toArray[·]?) = ((lo.drop k).take n).map some := by
  intro n
  induction n with
  | zero => intro k _; simp
  | succ n ih =>
    intro k hk
    rw [List.range'_succ, List.map_cons, ih (k + 1) (by omega)]
    have hlt : k < lo.length := by omega
    rw [List.drop_eq_getElem_cons hlt, List.take_succ_cons, List.map_cons]
    congr 1
    simp [hlt]
/-- so many, one behind the other in the text, from number k on. -/
theorem anyL_seg {lo : List Oper} (k n : Nat) (hs : Region.noSelect lo.toArray = true) (hQ : ∀ c (t u : Array Value) ds w, Q (.panic c) ⟨t, ds⟩ w → Q (.panic c) ⟨u, ds⟩ w) {w : World} (hS : S w) {f F : Nat} {listed : Array Bool} {a : Act}
    (hF : F = f + n) (hk : Nat.ble (k + n) lo.length = true) (hB : batchB md lo.toArray last listed (List.range' k n) = true)
    (h : wpQuiet P lo.toArray S (fun a' => anyL P md lo.toArray Q S last f (marked listed (List.range' k n)) a' w) ((lo.drop k).take n) a) : anyL P md lo.toArray Q S last F listed a w := by
  subst hF
  have := anyL_batch (P := P) (md := md) (ops := lo.toArray) (Q := Q) (S := S) (last := last) hs hQ hS (f := f) (List.range' k n) ((lo.drop k).take n) listed a (range_picks lo n k (Nat.le_of_ble_eq_true hk)) hB h
  simpa using this

/-- the beginning. -/
theorem region_anyL {id : Nat} {a : Act} {w : World} (hm : P.follows .mixedOrders = true) (h : anyL P .any ops Q S last ops.size (Array.replicate ops.size false) a w.drew) : (Code.region id ops true).wp P Q a w :=
  wp_region_any hm (any_of_anyL _ _ _ _ h)

/-- what alone may come up now. -/
theorem anyL_act {i f : Nat} {o : Oper} {listed : Array Bool} {a : Act} {w : World} (hr : Region.ready md ops listed = [i]) (ho : ops[i]? = some o) (hg : o.guard = none)
    (h : ∀ K : Act → World → Prop, Hid (∀ a' w', (i ≠ last → S w') → anyL P md ops Q S last f (listed.setIfInBounds i true) a' w' → K a' w') → o.wp P a w K Q) : anyL P md ops Q S last (f + 1) listed a w := by
  refine ⟨fun h0 => (by rw [hr] at h0; cases h0), fun j hj => ?_⟩
  rw [hr] at hj
  obtain rfl : j = i := by simpa using hj
  unfold wpOp
  simp only [ho]
  rw [if_pos (by simp [Region.wanted, hg])]
  exact .inl (h _ (fun a' w' h1 h2 => ⟨h1, h2⟩))

/-- all have come up. -/
theorem anyL_done {listed : Array Bool} {a : Act} {w : World} (hr : Region.ready md ops listed = []) (h : Q .normal a w) : ∀ f, anyL P md ops Q S last f listed a w
  | 0 => ⟨hr, h⟩
  | _ + 1 => ⟨fun _ => h, by rw [hr]; simp⟩
end

/-- the worlds that go on from one, by a name that the walk does not look behind. -/
theorem ext_class (w : World) : ∃ (ι : Type) (W : ι → World), (∃ i, W i = w) ∧ (∀ i, Below w.heap.size w (W i)) ∧ ∀ i w', Below (W i).heap.size (W i) w' → ∃ j, w' = W j := by
  refine ⟨{ w' : World // Below w.heap.size w w' }, fun i => i.1, ⟨⟨w, Below.refl _ _⟩, rfl⟩, fun i => i.2, fun i w' h => ⟨⟨w', ?_⟩, rfl⟩⟩
  exact i.2.trans (h.mono i.2.size)
end Go.Um
namespace Go.Um
open Go.RowKit Go.Maps Go.ChangeShapes

def groupDatum (l : List Int) : DataW Unit := if l = [] then .nil else .slice (lits .i64 l) []
theorem lits_inj {a b : List Int} (h : lits (H := Unit) .i64 a = lits .i64 b) : a = b := by
  unfold lits at h
  exact (List.map_inj_right (fun x y hxy => by simpa using hxy)).1 h
theorem groupDatum_inj {w : World} {base : Nat} {e : TypeId} {v : Value} {zs l : List Int} (h : w.ownsInts base e .i64 v zs) (hd : groupDatum l = rowDatum .i64 v zs) : zs = l := by
  unfold groupDatum at hd
  rcases h.datum (H := Unit) with ⟨h1, rfl⟩ | h1
  · rw [h1] at hd
    split at hd
    · rename_i h2; exact h2.symm
    · cases hd
  · rw [h1] at hd
    split at hd
    · cases hd
    · injection hd with h2 h3
      exact (lits_inj h2).symm

/-- block b is a map of at most n rows of integers: at each key the row that F says. -/
def GMap (P : Program) (w : World) (k : TypeId) (base : Nat) (e : TypeId) (b n : Nat) (F : Int → List Int) : Prop :=
  ∃ D : DataW Unit, w.ownsGroups P k base e .i64 b n D ∧ ∀ s : Int, D.atKey (.int .i64 s) .nil = groupDatum (F s)

variable {P : Program} {w w' : World} {k e t E : TypeId} {base b n : Nat} {F : Int → List Int} {s : Int}

theorem GMap.made (hb : w.heap[b]? = some (.map #[] 0)) (hlt : b < base) : GMap P w k base e b 0 (fun _ => []) :=
  ⟨.map [], ⟨#[], 0, hb, ⟨by simp, MapKept.stamped_empty 0, by simp⟩, Nat.le_refl _, rfl, hlt, by simp, by simp⟩, fun _ => rfl⟩
theorem GMap.kept (h : GMap P w k base e b n F) (hg : w.grownBy w' none) : GMap P w' k base e b n F := by
  obtain ⟨D, h1, h2⟩ := h
  exact ⟨D, h1.kept hg (by simp) (fun _ _ _ x _ => by cases x.val.ownBlock <;> simp), h2⟩
theorem GMap.alloc (h : GMap P w k base e b n F) (o : Obj) : GMap P (w.alloc o) k base e b n F := h.kept (World.grownBy_alloc _ _ _)
theorem grown_drew (w : World) : w.grownBy w.drew none := ⟨rfl, rfl, rfl, Nat.le_refl _, fun _ _ _ => rfl⟩
theorem GMap.drew (h : GMap P w k base e b n F) : GMap P w.drew k base e b n F := h.kept (grown_drew w)

/-- the way back. -/
def GBack (P : Program) (w : World) (t k : TypeId) (base : Nat) (e : TypeId) (b n : Nat) (F : Int → List Int) (s : Int) (v : Value) : Prop :=
  ∀ (w1 : World) (v' : Value) (x : Int), w.grownBy w1 v.ownBlock → w1.ownsInts base e .i64 v' (F s ++ [x]) → (v'.ownBlock = v.ownBlock ∨ ∃ g, v'.ownBlock = some g ∧ w.heap.size ≤ g) →
    ∃ w2, (Instr.mapUpdate t (.map (some b)) (.int .i64 s) v').run P w1 = .ok () w2 ∧ GMap P w2 k base e b (n + 1) (fun r => if r = s then F s ++ [x] else F r) ∧ w1.grownBy w2 (some b)

theorem GMap.at (h : GMap P w k base e b n F) (K : Keyed P k) (ht : P.underlying t = some (.map k E)) (hz : (zeroValue E).run P w = .ok (.slice none 0 0) w) (hn : n < maxLen) (hkey : keyOf P k (.int .i64 s) = some (.int .i64 s)) :
    ∃ v, (Instr.lookup t (.map (some b)) (.int .i64 s) false).run P w = .ok v w ∧ w.ownsInts base e .i64 v (F s) ∧ (F s).length ≤ n ∧ GBack P w t k base e b n F s v := by
  obtain ⟨D, h1, h2⟩ := h
  obtain ⟨v, zs, hr, ha, ho, hl, hb⟩ := h1.at K ht hz hn hkey
  rw [h2] at ha
  obtain rfl := groupDatum_inj ho ha
  refine ⟨v, hr, ho, hl, fun w1 v' x hg ho' hloc => ?_⟩
  obtain ⟨w2, q1, q2, q3⟩ := hb w1 v' _ hg ho' (by simp; omega) hloc
  refine ⟨w2, q1, ⟨_, q2, fun r => ?_⟩, q3⟩
  have hD : IsMap D := by obtain ⟨_, _, _, _, _, rfl, _⟩ := h1; exact ⟨_, rfl⟩
  rw [ho'.datum_pos (by simp)]
  by_cases hr' : r = s
  · subst hr'
    rw [atKey_put_same hD (show WideAt.IsKeyLit (.int .i64 r) from trivial)]
    simp [groupDatum]
  · rw [atKey_put_other (by simpa using hr'), h2]
    simp [hr']

section
variable {ops : Array Oper} {rest : List Oper} {o : Oper} {a : Act} {Q : Exit → Act → World → Prop} {K : Act → World → Prop}
theorem act_lookup (m x : Operand) (hop : o.op = Op.lookup t m x false) (Kd : Keyed P k) (ht : P.underlying t = some (.map k E)) (hz : (zeroValue E).run P w = .ok (.slice none 0 0) w) (hm : a.eval m = .map (some b)) (h : GMap P w k base e b n F) (hn : n < maxLen)
    (hx : a.eval x = .int .i64 s) (hkey : keyOf P k (.int .i64 s) = some (.int .i64 s)) (hK : ∀ v, w.ownsInts base e .i64 v (F s) → (F s).length ≤ n → GBack P w t k base e b n F s v → K (a.put o.dst v) w) : o.wp P a w K Q := by
  obtain ⟨v, hrun, ho, hl, hb⟩ := h.at Kd ht hz hn hkey
  unfold Oper.wp
  simp [execOp, hop, hm, hx, hrun, Result.andThen]
  exact hK v ho hl hb
theorem act_store (m x v : Operand) (hop : o.op = Op.mapUpdate t m x v) {w0 : World} {u v' : Value} {z : Int} (hback : GBack P w0 t k base e b n F s u) (hm : a.eval m = .map (some b)) (hx : a.eval x = .int .i64 s) (hv : a.eval v = v')
    (hgr : w0.grownBy w u.ownBlock) (hown' : w.ownsInts base e .i64 v' (F s ++ [z])) (hloc : v'.ownBlock = u.ownBlock ∨ ∃ g, v'.ownBlock = some g ∧ w0.heap.size ≤ g)
    (hK : ∀ w2, GMap P w2 k base e b (n + 1) (fun r => if r = s then F s ++ [z] else F r) → w.grownBy w2 (some b) → K (a.put o.dst undef) w2) : o.wp P a w K Q := by
  obtain ⟨w2, hrun, r1, r2⟩ := hback w v' z hgr hown' hloc
  unfold Oper.wp
  simp [execOp, hop, hm, hx, hv, hrun, Result.andThen]
  exact hK w2 r1 r2
theorem act_append_at (s x : Operand) (t : TypeId)
    (ho : o.op = .call { callee := .builtin .append, args := #[s, x], argTypes := #[t, t] })
    (base : Nat) (e : TypeId) (i : TypeInfo) (z : Value) (size bytes : Nat) (ht : P.underlying t = some (.slice e)) (hi : P.info? e = some i) (hz : i.zero = some z)
    (hsize : i.size = size) (hby : i.bytes = bytes) (hzs : z.cells.size = size) (hsz : 0 < size)
    (v : Value) (n : Nat) (xs : List Value) (hs : a.eval s = v) (hown : w.ownsRow base e size v n xs)
    (ad : Addr) (m c : Nat) (news : List Value) (hx : a.eval x = .slice (some ad) m c) (hl : news.length = m * size) (hnews : ∀ j u, news[j]? = some u → w.cell? (ad.add j) = some u) (h1 : ∀ u ∈ news, u.oneCell' = true)
    (h63 : n + m ≤ maxLen) (hbytes : (n + m) * bytes ≤ 140737488355328) (hbase : base ≤ w.heap.size)
    (h : ∀ v' w', w'.ownsRow base e size v' (n + m) (xs ++ news) → w.grownBy w' v.ownBlock → (v' = .slice none 0 0 ↔ v = .slice none 0 0 ∧ m = 0) → (v'.ownBlock = v.ownBlock ∨ v'.ownBlock = some w.heap.size) → K (a.put o.dst v') w') : o.wp P a w K Q := by
  obtain ⟨v', w', hr, h2, h3, h4, h5⟩ := run_append_own_at (P := P) w base t o.type e i z size bytes ht hi hz hsize hby hzs hsz v n xs hown ad m c news hl hnews h1 h63 hbytes hbase
  unfold Oper.wp execOp
  simp only [ho, resolve, invoke, builtin, Sem.run_bind, Sem.run_pure, Result.andThen_ok, List.map_toArray, List.map_cons, List.map_nil, hs, hx, hr]
  exact h v' w' h2 h3 h4 h5

theorem anyL_two {md : Region.Mode} {S : World → Prop} {last i j f : Nat} {oi oj : Oper} {listed : Array Bool} (hr : Region.ready md ops listed = [i, j]) (hi : ops[i]? = some oi) (hj : ops[j]? = some oj) (hgi : oi.guard = none) (hgj : oj.guard = none)
    (h1 : ∀ K : Act → World → Prop, Hid (∀ a' w', (i ≠ last → S w') → anyL P md ops Q S last f (listed.setIfInBounds i true) a' w' → K a' w') → oi.wp P a w K Q)
    (h2 : ∀ K : Act → World → Prop, Hid (∀ a' w', (j ≠ last → S w') → anyL P md ops Q S last f (listed.setIfInBounds j true) a' w' → K a' w') → oj.wp P a w K Q) : anyL P md ops Q S last (f + 1) listed a w := by
  refine ⟨fun h0 => (by rw [hr] at h0; cases h0), fun q hq => ?_⟩
  rw [hr] at hq
  simp only [List.mem_cons, List.not_mem_nil, or_false] at hq
  unfold wpOp
  rcases hq with rfl | rfl
  · simp only [hi]
    rw [if_pos (by simp [Region.wanted, hgi])]
    exact .inl (h1 _ (fun a' w' q1 q2 => ⟨q1, q2⟩))
  · simp only [hj]
    rw [if_pos (by simp [Region.wanted, hgj])]
    exact .inl (h2 _ (fun a' w' q1 q2 => ⟨q1, q2⟩))
end

/-- the worlds in which some blocks stand as they stood. -/
theorem held_class (w : World) (p : Nat → Prop) : ∃ (ι : Type) (W : ι → World), (∃ i, W i = w) ∧ (∀ i g, p g → (W i).heap[g]? = w.heap[g]?) ∧ ∀ w', (∀ g, p g → w'.heap[g]? = w.heap[g]?) → ∃ j, w' = W j :=
  ⟨{ w' : World // ∀ g, p g → w'.heap[g]? = w.heap[g]? }, fun i => i.1, ⟨⟨w, fun _ _ => rfl⟩, rfl⟩, fun i => i.2, fun w' h => ⟨⟨w', h⟩, rfl⟩⟩
end Go.Um
namespace Go.Um

def Rising (l : List Int) : Prop := l.Pairwise (· < ·)
end Go.Um
namespace Go.Um
open Go.RowKit

def QAt (w : World) (base : Nat) (v : Value) (xs : List Int) : Prop :=
  ∃ ao g off cap, v = .slice ao xs.length cap ∧ Came w 1 ao g off xs.length cap (xs.map (Value.int .i64)) ∧ cap ≤ maxLen ∧ (0 < cap → base ≤ g)
theorem QAt.nil (w : World) (base : Nat) : QAt w base (.slice none 0 0) [] :=
  ⟨none, 0, 0, 0, rfl, ⟨Nat.le_refl _, fun h => absurd h (by omega), fun h => absurd h (by omega), rfl, by simp, by simp⟩, by simp [maxLen], by omega⟩
theorem QAt.carry {w w' : World} {base : Nat} {v : Value} {xs : List Int} (h : QAt w base v xs) (hs : w.heap.size ≤ w'.heap.size) (hb : ∀ g, base ≤ g → g < w.heap.size → w'.heap[g]? = w.heap[g]?) : QAt w' base v xs := by
  obtain ⟨ao, g, off, cap, rfl, hc, hm, hg⟩ := h
  have hw : 0 < cap → w'.heap[g]? = w.heap[g]? := fun h0 => hb g (hg h0) (hc.lt h0)
  refine ⟨ao, g, off, cap, rfl, ⟨hc.le, hc.addr, fun h0 => Nat.lt_of_lt_of_le (hc.lt h0) hs, hc.oldsLen, fun j u hu => ?_, fun j hj => ?_⟩, hm, hg⟩
  · have h0 : 0 < cap := by have := (List.getElem?_eq_some_iff.1 hu).1; simp at this; have := hc.le; omega
    rw [World.cell?_of_block (a := ⟨g, off + j, none⟩) (hw h0)]
    exact hc.olds j u hu
  · have h0 : 0 < cap := by omega
    rw [World.cell?_of_block (a := ⟨g, off + xs.length * 1 + j, none⟩) (hw h0), World.frozen?_of_block (a := ⟨g, off + xs.length * 1 + j, none⟩) (hw h0)]
    exact hc.spare j hj
theorem QAt.front {w : World} {base : Nat} {v : Value} {x : Int} {xs : List Int} (h : QAt w base v (x :: xs)) : ∃ g off cap, v = .slice (some ⟨g, off, none⟩) (xs.length + 1) cap ∧ xs.length + 1 ≤ cap ∧ cap ≤ maxLen ∧ w.cell? ⟨g, off, none⟩ = some (.int .i64 x) ∧
    QAt w base (.slice (if cap = 1 then some ⟨g, off, none⟩ else some ⟨g, off + 1, none⟩) xs.length (cap - 1)) xs := by
  obtain ⟨ao, g, off, cap, rfl, hc, hm, hg⟩ := h
  have h1 := hc.le
  simp only [List.length_cons] at h1 hc ⊢
  have h0 : 0 < cap := by omega
  have ha := hc.addr h0
  subst ha
  refine ⟨g, off, cap, rfl, h1, hm, by simpa using hc.olds 0 _ rfl, ?_⟩
  refine ⟨_, g, off + 1, cap - 1, rfl, ⟨by omega, fun h2 => ?_, fun _ => hc.lt h0, by simp, fun j u hu => ?_, fun j hj => ?_⟩, by omega, fun _ => hg h0⟩
  · rw [if_neg (by omega)]
  · have := hc.olds (j + 1) u (by simpa using hu)
    rwa [show off + (j + 1) = off + 1 + j by omega] at this
  · have := hc.spare j (by omega)
    rwa [show off + (xs.length + 1) * 1 + j = off + 1 + xs.length * 1 + j by omega] at this
theorem QAt.len {w : World} {base : Nat} {v : Value} {xs : List Int} (h : QAt w base v xs) : ∃ A c, v = .slice A xs.length c ∧ xs.length ≤ c ∧ c ≤ maxLen := by
  obtain ⟨ao, g, off, cap, rfl, hc, hm, hg⟩ := h
  exact ⟨_, _, rfl, hc.le, hm⟩
theorem QAt.own {w : World} {base : Nat} {e : TypeId} {v : Value} {xs : List Int} (h : w.ownsRow base e 1 v xs.length (xs.map (Value.int .i64))) : QAt w base v xs := by
  have hlt := h.lt
  rcases h.2 with ⟨rfl, h0⟩ | ⟨g, cap, cur, rfl, hb, hh, hn, hc, hsz, htk⟩
  · have : xs = [] := List.eq_nil_of_length_eq_zero (by omega)
    subst this
    exact QAt.nil w base
  · refine ⟨_, g, 0, cap, rfl, ⟨hn, fun _ => rfl, fun _ => (hlt g rfl).2, by simp, fun j u hu => ?_, fun j hj => ?_⟩, hc, fun _ => hb⟩
    · rw [show 0 + j = j by omega, cell_of_row _ _ j _ _ _ hh]
      have hj : j < xs.length := by have := (List.getElem?_eq_some_iff.1 hu).1; simpa using this
      rw [← htk, List.getElem?_take_of_lt (by simpa using hj)] at hu
      simpa using hu
    · refine ⟨?_, frozen_of_row _ _ _ _ _ hh⟩
      rw [cell_of_row _ _ _ _ _ _ hh]
      have : xs.length + j < cur.size := by rw [hsz]; omega
      simpa using this
section
variable {P : Program}
theorem run_append_q {w : World} {base : Nat} {v : Value} {xs : List Int} (t ty e : TypeId) (i : TypeInfo) (ht : P.underlying t = some (.slice e)) (hi : P.info? e = some i) (hz : i.zero = some (.int .i64 0)) (hsize : i.size = 1) (hby : i.bytes = 8)
    (h : QAt w base v xs) (hB : base ≤ w.heap.size) (hl : xs.length ≤ 1000000000) (ad : Addr) (c : Nat) (x : Int) (hx : w.cell? ad = some (.int .i64 x)) (ha : ad.spot = none) :
    ∃ v' w', (Builtin.append_ #[t, t] ty #[v, .slice (some ad) 1 c]).run P w = .ok v' w' ∧ QAt w' base v' (xs ++ [x]) ∧ Below base w w' := by
  obtain ⟨ao, g, off, cap, rfl, hc, hm, hg⟩ := h
  have hnews : ∀ (j : Nat) (u : Value), [Value.int .i64 x][j]? = some u → w.cell? (ad.add j) = some u := fun j u hu => by
    cases j with
    | zero => simp at hu; subst hu; obtain ⟨ab, aof, asp⟩ := ad; simp at ha; subst ha; simpa [Addr.add] using hx
    | succ j => simp at hu
  have hsrc : Src P i.size t (.slice (some ad) 1 c) 1 [Value.int .i64 x] w := Src.ofSlice w ht ad 1 c _ (by simp [hsize]) hnews (by simp [Value.oneCell'])
  have hle := hc.le
  by_cases hfit : xs.length + 1 ≤ cap
  · have h0 : 0 < cap := by omega
    have hao := hc.addr h0
    subst hao
    have hsp := hc.spare 0 (by omega)
    simp only [Nat.mul_one, Nat.add_zero] at hsp
    have hrun := run_append_room_src (P := P) w t t ty e i ht hi g off xs.length cap _ 1 _ hsrc hfit (fun j hj => by simp at hj; subst hj; simpa [hsize] using hsp.1) (fun j hj => by simp at hj; subst hj; simpa [hsize] using hsp.2)
    rw [hsize, Nat.mul_one] at hrun
    refine ⟨_, _, hrun, ⟨_, g, off, cap, by simp, ⟨by simpa using hfit, fun _ => rfl, fun _ => ?_, by simp, fun j u hu => ?_, fun j hj => ?_⟩, hm, hg⟩, ?_⟩
    · show g < (w.setCell _ _).heap.size
      simpa using hc.lt h0
    · show (w.setCell ⟨g, off + xs.length, none⟩ _).cell? _ = _
      by_cases hj : j = xs.length
      · subst hj
        simp at hu
        subst hu
        exact World.cell?_setCell_same' _ _ _ hsp.1
      · rw [World.cell?_setCell_other _ ⟨g, off + xs.length, none⟩ ⟨g, off + j, none⟩ _ (fun e => by injection e with _ e2 _; omega)]
        have hj' : j < (xs ++ [x]).length := by have := (List.getElem?_eq_some_iff.1 hu).1; simpa using this
        simp at hj'
        refine hc.olds j u ?_
        rw [List.map_append, List.getElem?_append_left (by simp; omega)] at hu
        exact hu
    · show ((w.setCell ⟨g, off + xs.length, none⟩ _).cell? _).isSome = true ∧ (w.setCell ⟨g, off + xs.length, none⟩ _).frozen? _ = false
      simp only [List.length_append, List.length_singleton] at hj ⊢
      rw [World.cell?_setCell_other _ ⟨g, off + xs.length, none⟩ ⟨g, off + (xs.length + 1) * 1 + j, none⟩ _ (fun e => by injection e with _ e2 _; omega), World.frozen?_setCell]
      have := hc.spare (j + 1) (by omega)
      rwa [show off + xs.length * 1 + (j + 1) = off + (xs.length + 1) * 1 + j by omega] at this
    · show Below base w (w.setCell _ _)
      exact (Below.refl _ _).setCell (hg h0) _
  · have hold : (Builtin.firstCells i.size xs.length (.slice ao xs.length cap)).run P w.drew = .ok (xs.map (Value.int .i64)).toArray w.drew := by
      rcases Nat.eq_zero_or_pos cap with h0 | h0
      · have : xs = [] := List.eq_nil_of_length_eq_zero (by omega)
        subst this
        subst h0
        cases ao with
        | none => exact run_firstCells_none w.drew i.size 0 0 0
        | some b => exact run_firstCells_some w.drew i.size 0 b 0 0 [] (by simp) (by simp)
      · have hao := hc.addr h0
        subst hao
        exact run_firstCells_some w.drew i.size xs.length ⟨g, off, none⟩ xs.length cap _ (by simp [hsize]) (fun j u hu => by rw [Addr.add_lit]; exact hc.olds j u hu)
    have hrun := run_append_grow_src (P := P) w t t ty e i _ ht hi hz ao xs.length cap _ hold _ 1 _ hsrc (by omega) (by omega) (growslice_fits (by omega) (by rw [hby]; omega))
    have hge := grownCap_ge w (xs.length + 1) cap e
    have hcm : grownCap w (xs.length + 1) cap e ≤ maxLen := grownCap_le_maxLen w (xs.length + 1) cap e (by simp [maxLen]; omega)
    refine ⟨_, _, hrun, QAt.own (e := e) ⟨by simp, .inr ⟨w.heap.size, _, _, by simp, hB, heap_alloc_new w.drew _, by simpa using hge, hcm, ?_, ?_⟩⟩, ((Below.refl _ _).drew).alloc hB _⟩
    · simp only [Array.size_append, List.size_toArray, size_zeroCells, List.length_append, List.length_map, List.length_singleton]
      have : (Value.int IntKind.i64 0).cells.size = 1 := rfl
      rw [this]; omega
    · simp only [Array.toList_append, List.map_append, List.map_cons, List.map_nil]
      rw [List.take_append_of_le_length (by simp)]
      rw [List.take_of_length_le (by simp)]
theorem wpList_append_q (w : World) {ops : Array Oper} {rest : List Oper} {o : Oper} {a : Act} {Q : Exit → Act → World → Prop} (hgd : o.guard = none) (s x : Operand) (t : TypeId)
    (ho : o.op = .call { callee := .builtin .append, args := #[s, x], argTypes := #[t, t] }) (e : TypeId) (i : TypeInfo) (ht : P.underlying t = some (.slice e)) (hi : P.info? e = some i) (hz : i.zero = some (.int .i64 0)) (hsize : i.size = 1) (hby : i.bytes = 8)
    {base : Nat} {v : Value} {xs : List Int} (hv : a.eval s = v) (h : QAt w base v xs) (hB : base ≤ w.heap.size) (hl : xs.length ≤ 1000000000) (ad : Addr) (c : Nat) (z : Int) (hxv : a.eval x = .slice (some ad) 1 c) (hx : w.cell? ad = some (.int .i64 z)) (ha : ad.spot = none)
    (hK : ∀ v' w', QAt w' base v' (xs ++ [z]) → Below base w w' → wpList P ops Q rest (a.put o.dst v') w') : wpList P ops Q (o :: rest) a w := by
  refine wpList_plain hgd fun K hK' => ?_
  obtain ⟨v', w', hrun, h1, h2⟩ := run_append_q (P := P) t o.type e i ht hi hz hsize hby h hB hl ad c z hx ha
  unfold Oper.wp
  simp [execOp, ho, resolve, invoke, builtin, hv, hxv, hrun, Result.andThen]
  exact hK' _ _ (hK v' w' h1 h2)
end
/-- block G holds n slices, each a row of the call's own from base on, no two in one block; the s-th reads as f s. -/
def OwnRows (w : World) (G base : Nat) (te ts : TypeId) (n : Nat) (f : Nat → List Int) : Prop :=
  ∃ vals : List Value, vals.length = n ∧ w.heap[G]? = some (.cells vals.toArray ts (0, 0)) ∧ (∀ (s : Nat) (v : Value), vals[s]? = some v → w.ownsRow base te 1 v (f s).length ((f s).map (Value.int .i64))) ∧
    ∀ (s s' : Nat) (v v' : Value) (g : Nat), s ≠ s' → vals[s]? = some v → vals[s']? = some v' → v.ownBlock = some g → v'.ownBlock ≠ some g
theorem ownsRow_kept {w w' : World} {base : Nat} {e : TypeId} {size n : Nat} {v : Value} {xs : List Value} (h : w.ownsRow base e size v n xs) (hb : ∀ g, v.ownBlock = some g → w'.heap[g]? = w.heap[g]?) : w'.ownsRow base e size v n xs := by
  refine ⟨h.1, ?_⟩
  rcases h.2 with h2 | ⟨g, cap, cur, rfl, h2, h3, h4⟩
  · exact .inl h2
  · exact .inr ⟨g, cap, cur, rfl, h2, (hb g rfl).trans h3, h4⟩
theorem OwnRows.carry {w w' : World} {G base : Nat} {te ts : TypeId} {n : Nat} {f : Nat → List Int} (h : OwnRows w G base te ts n f) (hG : w'.heap[G]? = w.heap[G]?) (hb : ∀ g, base ≤ g → g < w.heap.size → w'.heap[g]? = w.heap[g]?) : OwnRows w' G base te ts n f := by
  obtain ⟨vals, h1, h2, h3, h4⟩ := h
  exact ⟨vals, h1, hG.trans h2, fun s v hv => ownsRow_kept (h3 s v hv) (fun g hg => hb g ((h3 s v hv).lt g hg).1 ((h3 s v hv).lt g hg).2), h4⟩
theorem OwnRows.at {w : World} {G base : Nat} {te ts : TypeId} {n : Nat} {f : Nat → List Int} (h : OwnRows w G base te ts n f) {s : Nat} (hs : s < n) : ∃ v, w.cell? ⟨G, s, none⟩ = some v ∧ w.frozen? ⟨G, s, none⟩ = false ∧ w.ownsRow base te 1 v (f s).length ((f s).map (Value.int .i64)) ∧
    ∀ (w' : World) (v' : Value) (x : Int), w.grownBy w' v.ownBlock → w'.ownsRow base te 1 v' ((f s).length + 1) ((f s).map (Value.int .i64) ++ [.int .i64 x]) → (v'.ownBlock = v.ownBlock ∨ ∃ g, v'.ownBlock = some g ∧ w.heap.size ≤ g) → G < base →
      OwnRows (w'.setCell ⟨G, s, none⟩ v') G base te ts n (fun r => if r = s then f s ++ [x] else f r) := by
  obtain ⟨vals, h1, h2, h3, h4⟩ := h
  have hv : vals[s]? = some (vals[s]'(by omega)) := List.getElem?_eq_getElem (by omega)
  generalize vals[s]'(by omega) = v at hv
  refine ⟨v, ?_, frozen_of_row _ _ _ _ _ h2, h3 s v hv, fun w' v' x hg ho hloc hGb => ?_⟩
  · rw [cell_of_row _ _ _ _ _ _ h2]; simpa using hv
  · have hGw : G < w.heap.size := (Array.getElem?_eq_some_iff.1 h2).1
    have hne : ∀ g, v.ownBlock = some g → g ≠ G := fun g hg e => by have := ((h3 s v hv).lt g hg).1; omega
    have h2' : w'.heap[G]? = some (.cells vals.toArray ts (0, 0)) := (hg.block G hGw (fun e => hne G e.symm rfl)).trans h2
    have hh := heap_setCell_same w' G s vals.toArray ts v' h2'
    refine ⟨vals.set s v', (by simpa using h1), (by rw [hh]; simp), fun r u hu => ?_, fun r r' u u' g hrr hu hu' hug => ?_⟩
    · by_cases hrs : r = s
      · subst hrs
        rw [List.getElem?_set_self (by omega)] at hu
        cases hu
        have := ownsRow_kept (w' := w'.setCell ⟨G, r, none⟩ v') ho (fun g hg' => heap_setCell_other w' _ g v' (by
          show g ≠ G
          have := (ho.lt g hg').1
          omega))
        simpa using this
      · rw [List.getElem?_set_ne (fun e => hrs e.symm)] at hu
        simp only [if_neg hrs]
        refine ownsRow_kept (h3 r u hu) (fun g hg' => ?_)
        have hl := (h3 r u hu).lt g hg'
        rw [heap_setCell_other w' _ g v' (by show g ≠ G; omega)]
        exact hg.block g hl.2 (fun e => h4 r s u v g hrs hu hv hg' e.symm)
    · have hnew : ∀ q p, q ≠ s → vals[q]? = some p → ∀ b, p.ownBlock = some b → v'.ownBlock ≠ some b := fun q p hq hp b hb e => by
        rcases hloc with h5 | h5
        · exact h4 q s p v b hq hp hv hb (by rw [← h5]; exact e)
        · obtain ⟨b', h6, h7⟩ := h5
          rw [h6] at e
          cases e
          have := ((h3 q p hp).lt _ hb).2
          omega
      by_cases hr : r = s
      · subst hr
        rw [List.getElem?_set_self (by omega)] at hu
        cases hu
        rw [List.getElem?_set_ne hrr] at hu'
        intro e
        exact hnew r' u' (fun e => hrr e.symm) hu' g e hug
      · rw [List.getElem?_set_ne (fun e => hr e.symm)] at hu
        by_cases hr' : r' = s
        · subst hr'
          rw [List.getElem?_set_self (by omega)] at hu'
          cases hu'
          exact hnew r u hr hu g hug
        · rw [List.getElem?_set_ne (fun e => hr' e.symm)] at hu'
          exact h4 r r' u u' g hrr hu hu' hug
end Go.Um
namespace Go.Um

abbrev Edges := List (Int × Int)
/-- a way of so many edges that ends there. -/
def walkE (E : Edges) : Nat → Int → Prop
  | 0, _ => True
  | k + 1, t => ∃ s, (s, t) ∈ E ∧ walkE E k s
/-- is there a way of more edges than there are states? -/
def cycP (E : Edges) (n : Nat) : Prop := ∃ t, walkE E (n + 1) t
def toF (E : Edges) (s : Int) : List Int := (E.filter fun e => e.1 == s).map Prod.snd
/-- how many edges lead to t from what isn't taken away. -/
def inF (E : Edges) (P : List Int) (t : Int) : Nat := (E.filter fun e => e.2 == t && !P.contains e.1).length
def takeT (st : (Int → Int) × List Int) (t : Int) : (Int → Int) × List Int := (fun x => if x = t then st.1 t - 1 else st.1 x, if st.1 t - 1 = 0 then st.2 ++ [t] else st.2)
def kahnGo (E : Edges) : Nat → (Int → Int) → List Int → Nat → Nat
  | 0, _, _, d => d
  | _ + 1, _, [], d => d
  | f + 1, inn, s :: todo, d => kahnGo E f ((toF E s).foldl takeT (inn, todo)).1 ((toF E s).foldl takeT (inn, todo)).2 (d + 1)

theorem inF_pos {E : Edges} {P : List Int} {t : Int} (h : 0 < inF E P t) : ∃ s, (s, t) ∈ E ∧ s ∉ P := by
  unfold inF at h
  obtain ⟨e, he⟩ := List.exists_mem_of_length_pos h
  rw [List.mem_filter] at he
  obtain ⟨h1, h2⟩ := he
  simp only [Bool.and_eq_true, beq_iff_eq, Bool.not_eq_true', List.contains_eq_mem, decide_eq_false_iff_not] at h2
  obtain ⟨a, b⟩ := e
  obtain ⟨rfl, h3⟩ := h2
  exact ⟨a, h1, h3⟩
theorem inF_zero {E : Edges} {P : List Int} {t : Int} (h : inF E P t = 0) {s : Int} (he : (s, t) ∈ E) : s ∈ P := by
  unfold inF at h
  rw [List.length_eq_zero_iff, List.filter_eq_nil_iff] at h
  have := h _ he
  simpa using this
theorem inF_snoc {E : Edges} {P : List Int} {s t : Int} (hs : s ∉ P) : inF E P t = inF E (P ++ [s]) t + (toF E s).count t := by
  unfold inF toF
  induction E with
  | nil => rfl
  | cons e r ih =>
    obtain ⟨a, b⟩ := e
    simp only [List.filter_cons]
    have ih' : (r.filter fun e => e.2 == t && !decide (e.1 ∈ P)).length = (r.filter fun e => e.2 == t && (!decide (e.1 ∈ P) && !decide (e.1 = s))).length + ((r.filter fun e => e.1 == s).map Prod.snd).count t := by simpa using ih
    clear ih
    by_cases h1 : b = t
    · by_cases h2 : a = s
      · subst h1 h2
        simp [hs]
        omega
      · by_cases h3 : a ∈ P
        · simpa [h1, h2, h3] using ih'
        · simp [h1, h2, h3]; omega
    · by_cases h2 : a = s
      · simpa [h1, h2] using ih'
      · simpa [h1, h2] using ih'
/-- what the inner loop does to the counts, and what it puts behind. -/
theorem takeT_fold {ts : List Int} : ∀ {inn : Int → Int} {todo : List Int}, (∀ t, (ts.count t : Int) ≤ inn t) →
    (∀ t, (ts.foldl takeT (inn, todo)).1 t = inn t - ts.count t) ∧ ∃ more, (ts.foldl takeT (inn, todo)).2 = todo ++ more ∧ more.Nodup ∧ ∀ t, t ∈ more ↔ t ∈ ts ∧ inn t - ts.count t = 0 := by
  induction ts with
  | nil => intro inn todo _; exact ⟨fun t => by simp, [], by simp, by simp, by simp⟩
  | cons a r ih =>
    intro inn todo h
    have h' : ∀ t, (r.count t : Int) ≤ (if t = a then inn a - 1 else inn t) := by
      intro t
      have := h t
      rw [List.count_cons] at this
      by_cases ht : t = a
      · subst ht; simp at this ⊢; omega
      · have : ¬ a = t := fun e => ht e.symm
        have := h t
        rw [List.count_cons] at this
        simp [ht] at this ⊢
        omega
    obtain ⟨h1, more, h2, h3, h4⟩ := ih (inn := fun x => if x = a then inn a - 1 else inn x) (todo := if inn a - 1 = 0 then todo ++ [a] else todo) h'
    have hc : ∀ t, ((a :: r).count t : Int) = r.count t + if t = a then 1 else 0 := by
      intro t
      rw [List.count_cons]
      by_cases ht : t = a
      · subst ht; simp
      · have : ¬ a = t := fun e => ht e.symm
        simp [ht, this]
    refine ⟨fun t => ?_, ?_⟩
    · show (r.foldl takeT (takeT (inn, todo) a)).1 t = _
      rw [takeT, h1, hc]
      by_cases ht : t = a
      · subst ht; simp; omega
      · simp [ht]
    · show ∃ more, (r.foldl takeT (takeT (inn, todo) a)).2 = todo ++ more ∧ _
      rw [takeT, h2]
      by_cases hz : inn a - 1 = 0
      · have hra : r.count a = 0 := by have := h a; rw [hc] at this; simp at this; omega
        have har : a ∉ r := by rw [List.count_eq_zero] at hra; exact hra
        refine ⟨a :: more, by simp [hz], ?_, fun t => ?_⟩
        · rw [List.nodup_cons]
          exact ⟨fun hm => har ((h4 a).1 hm).1, h3⟩
        · rw [List.mem_cons, h4, hc, List.mem_cons]
          by_cases ht : t = a
          · subst ht; simp [hra]; omega
          · simp [ht]
      · refine ⟨more, by simp [hz], h3, fun t => ?_⟩
        rw [h4, hc, List.mem_cons]
        by_cases ht : t = a
        · subst ht
          simp only [if_true]
          constructor
          · rintro ⟨h5, h6⟩; exact ⟨by simp, by omega⟩
          · rintro ⟨_, h6⟩
            have : 0 < r.count t := by
              by_cases h7 : r.count t = 0
              · rw [h7] at h6; omega
              · omega
            exact ⟨List.count_pos_iff.1 this, by omega⟩
        · simp [ht]
/-- what holds between two rounds: P is taken away, in its order. -/
structure KahnI (E : Edges) (n : Nat) (P : List Int) (inn : Int → Int) (todo : List Int) : Prop where
  cnt : ∀ t : Int, inn t = inF E P t
  nd : (P ++ todo).Nodup
  rng : ∀ t ∈ P ++ todo, 0 ≤ t ∧ t < n
  zero : ∀ t : Int, 0 ≤ t → t < n → (t ∈ P ++ todo ↔ inn t = 0)
  ord : ∀ (i : Nat) (t s : Int), P[i]? = some t → (s, t) ∈ E → ∃ j : Nat, j < i ∧ P[j]? = some s
theorem KahnI.step {E : Edges} {n : Nat} {P : List Int} {inn : Int → Int} {s : Int} {todo : List Int} (h : KahnI E n P inn (s :: todo)) (hE : ∀ e ∈ E, 0 ≤ e.2 ∧ e.2 < n) :
    KahnI E n (P ++ [s]) ((toF E s).foldl takeT (inn, todo)).1 ((toF E s).foldl takeT (inn, todo)).2 := by
  have hsP : s ∉ P := fun hs => by
    have := (List.nodup_append.1 h.nd).2.2 s hs s (List.mem_cons_self ..)
    exact this rfl
  have hle : ∀ t, ((toF E s).count t : Int) ≤ inn t := fun t => by
    rw [h.cnt, inF_snoc hsP]
    omega
  obtain ⟨h1, more, h2, h3, h4⟩ := takeT_fold (todo := todo) hle
  have hin : ∀ t, ((toF E s).foldl takeT (inn, todo)).1 t = inF E (P ++ [s]) t := fun t => by
    rw [h1, h.cnt, inF_snoc hsP]; omega
  have hmo : ∀ t ∈ more, 0 ≤ t ∧ t < n := fun t ht => by
    have h5 := ((h4 t).1 ht).1
    unfold toF at h5
    obtain ⟨e, he, rfl⟩ := List.mem_map.1 h5
    exact hE e (List.mem_filter.1 he).1
  have hmn : ∀ t ∈ more, inn t ≠ 0 := fun t ht h0 => by
    have h5 := (h4 t).1 ht
    have h6 : 0 < (toF E s).count t := List.count_pos_iff.2 h5.1
    omega
  have hcat : P ++ [s] ++ (todo ++ more) = (P ++ s :: todo) ++ more := by simp
  refine ⟨hin, ?_, ?_, ?_, ?_⟩
  · rw [h2, hcat, List.nodup_append]
    refine ⟨h.nd, h3, fun a ha b hb hab => ?_⟩
    subst hab
    exact hmn a hb ((h.zero a (hmo a hb).1 (hmo a hb).2).1 ha)
  · rw [h2, hcat]
    intro t ht
    rcases List.mem_append.1 ht with ht | ht
    · exact h.rng t ht
    · exact hmo t ht
  · intro t t0 tn
    rw [h2, hcat, List.mem_append, h.zero t t0 tn, h4, h1]
    constructor
    · rintro (h5 | h5)
      · have := hle t; omega
      · exact h5.2
    · intro h5
      by_cases h6 : inn t = 0
      · exact .inl h6
      · right
        refine ⟨?_, h5⟩
        have : 0 < (toF E s).count t := by omega
        exact List.count_pos_iff.1 this
  · intro i t u hi he
    rw [List.getElem?_append] at hi
    split at hi
    · obtain ⟨j, hj, hju⟩ := h.ord i t u hi he
      exact ⟨j, hj, by rw [List.getElem?_append_left (by omega)]; exact hju⟩
    · rename_i hlt
      have hi0 : i - P.length = 0 := by
        by_cases h0 : i - P.length = 0
        · exact h0
        · rw [List.getElem?_eq_none (by simp; omega)] at hi; cases hi
      rw [hi0] at hi
      simp at hi
      subst hi
      have hz : inn s = 0 := (h.zero s (h.rng s (by simp)).1 (h.rng s (by simp)).2).1 (by simp)
      rw [h.cnt] at hz
      have hu : u ∈ P := inF_zero (E := E) (P := P) (t := s) (by omega) he
      obtain ⟨j, hj, hju⟩ := List.mem_iff_getElem.1 hu
      exact ⟨j, by omega, by rw [List.getElem?_append_left hj, List.getElem?_eq_getElem hj, hju]⟩
theorem nodup_le {n : Nat} {l : List Int} (h : l.Nodup) (hr : ∀ t ∈ l, 0 ≤ t ∧ t < n) : l.length ≤ n := by
  have h1 : (l.map Int.toNat).Nodup := by
    rw [List.Nodup, List.pairwise_map]
    refine List.Pairwise.imp_of_mem (R := fun a b => a ≠ b) ?_ h
    intro a b ha hb hab
    have := hr a ha
    have := hr b hb
    omega
  have h2 := List.Nodup.length_le_of_subset h1 (l₂ := List.range n) (fun a ha => by
    obtain ⟨b, hb, rfl⟩ := List.mem_map.1 ha
    have := hr b hb
    rw [List.mem_range]; omega)
  simpa using h2
theorem nodup_all {n : Nat} {l : List Int} (h : l.Nodup) (hr : ∀ t ∈ l, 0 ≤ t ∧ t < n) (hl : n ≤ l.length) {t : Int} (ht : 0 ≤ t ∧ t < n) : t ∈ l := by
  by_cases hm : t ∈ l
  · exact hm
  · have := nodup_le (n := n) (l := t :: l) (List.nodup_cons.2 ⟨hm, h⟩) (fun x hx => by
      rcases List.mem_cons.1 hx with rfl | hx
      · exact ht
      · exact hr x hx)
    simp at this
    omega
/-- where nothing is left to take away. -/
theorem KahnI.done {E : Edges} {n : Nat} {P : List Int} {inn : Int → Int} (h : KahnI E n P inn []) (hE : ∀ e ∈ E, (0 ≤ e.1 ∧ e.1 < n) ∧ 0 ≤ e.2 ∧ e.2 < n) : P.length < n ↔ cycP E n := by
  have hnd : P.Nodup := by simpa using h.nd
  have hrng : ∀ t ∈ P, 0 ≤ t ∧ t < n := fun t ht => h.rng t (by simpa using ht)
  constructor
  · intro hlt
    have hex : ∃ t : Int, (0 ≤ t ∧ t < n) ∧ t ∉ P := by
      by_cases hall : ∀ t : Int, 0 ≤ t ∧ t < n → t ∈ P
      · exfalso
        have h1 : ((List.range n).map fun k : Nat => (k : Int)).Nodup := by
          rw [List.Nodup, List.pairwise_map]
          exact List.nodup_range.imp fun hab e => hab (by omega)
        have h2 := List.Nodup.length_le_of_subset h1 (l₂ := P) (fun a ha => by
          obtain ⟨b, hb, rfl⟩ := List.mem_map.1 ha
          rw [List.mem_range] at hb
          exact hall _ ⟨by omega, by omega⟩)
        simp at h2
        omega
      · simp only [Classical.not_forall] at hall
        obtain ⟨t, h1, h2⟩ := hall
        exact ⟨t, h1, h2⟩
    have hback : ∀ k (t : Int), (0 ≤ t ∧ t < n) → t ∉ P → walkE E k t := by
      intro k
      induction k with
      | zero => intro t _ _; trivial
      | succ k ih =>
        intro t ht htP
        have h1 : inn t ≠ 0 := fun h0 => htP (by simpa using (h.zero t ht.1 ht.2).2 h0)
        obtain ⟨s, hs, hsP⟩ := inF_pos (E := E) (P := P) (t := t) (by have := h.cnt t; omega)
        exact ⟨s, hs, ih s (hE _ hs).1 hsP⟩
    obtain ⟨t, ht, htP⟩ := hex
    exact ⟨t, hback (n + 1) t ht htP⟩
  · rintro ⟨t, hw⟩
    by_cases hlt : P.length < n
    · exact hlt
    · exfalso
      have hall : ∀ x : Int, 0 ≤ x ∧ x < n → x ∈ P := fun x hx => nodup_all hnd hrng (by omega) hx
      have hrank : ∀ k (t : Int), walkE E k t → 0 ≤ t ∧ t < n → ∃ i : Nat, k ≤ i ∧ P[i]? = some t := by
        intro k
        induction k with
        | zero =>
          intro t _ ht
          obtain ⟨i, hi, he⟩ := List.mem_iff_getElem.1 (hall t ht)
          exact ⟨i, Nat.zero_le _, by rw [List.getElem?_eq_getElem hi, he]⟩
        | succ k ih =>
          rintro t ⟨s, hs, hw⟩ ht
          obtain ⟨j, hj, hjs⟩ := ih s hw (hE _ hs).1
          obtain ⟨i, hi, he⟩ := List.mem_iff_getElem.1 (hall t ht)
          have hi' : P[i]? = some t := by rw [List.getElem?_eq_getElem hi, he]
          obtain ⟨j', hj', hjs'⟩ := h.ord i t s hi' hs
          have : j' = j := by
            obtain ⟨q1, e1⟩ := List.getElem?_eq_some_iff.1 hjs
            obtain ⟨q2, e2⟩ := List.getElem?_eq_some_iff.1 hjs'
            exact (List.getElem_inj hnd).1 (e2.trans e1.symm)
          exact ⟨i, by omega, hi'⟩
      have hw' := hw
      obtain ⟨s, hs, _⟩ := hw'
      obtain ⟨i, hi, hit⟩ := hrank (n + 1) t hw (hE _ hs).2
      have h1 := (List.getElem?_eq_some_iff.1 hit).1
      have h2 := nodup_le hnd hrng
      omega
theorem kahnGo_spec {E : Edges} {n : Nat} (hE : ∀ e ∈ E, (0 ≤ e.1 ∧ e.1 < n) ∧ 0 ≤ e.2 ∧ e.2 < n) : ∀ (f : Nat) {P : List Int} {inn : Int → Int} {todo : List Int}, KahnI E n P inn todo → n + 1 ≤ f + P.length →
    (kahnGo E f inn todo P.length < n ↔ cycP E n) := by
  intro f
  induction f with
  | zero =>
    intro P inn todo h hf
    have := nodup_le h.nd h.rng
    simp at this
    omega
  | succ f ih =>
    intro P inn todo h hf
    cases todo with
    | nil => exact h.done hE
    | cons s todo =>
      have hst := h.step (fun e he => (hE e he).2)
      have := ih hst (by simp; omega)
      simpa [kahnGo] using this
/-- what is there to begin with. -/
def innF (E : Edges) (t : Int) : Int := ((E.filter fun e => e.2 == t).length : Int)
def todoF (E : Edges) (n : Nat) : List Int := ((List.range n).map fun k : Nat => (k : Int)).filter fun t => decide (innF E t = 0)
def kahnF (E : Edges) (n : Nat) : Bool := decide (kahnGo E (n + 1) (innF E) (todoF E n) 0 < n)
theorem kahnF_iff {E : Edges} {n : Nat} (hE : ∀ e ∈ E, (0 ≤ e.1 ∧ e.1 < n) ∧ 0 ≤ e.2 ∧ e.2 < n) : kahnF E n = true ↔ cycP E n := by
  unfold kahnF
  rw [decide_eq_true_iff]
  have hrn : ((List.range n).map fun k : Nat => (k : Int)).Nodup := by
    rw [List.Nodup, List.pairwise_map]
    exact List.nodup_range.imp fun hab e => hab (by omega)
  have hmem : ∀ t, t ∈ todoF E n ↔ (0 ≤ t ∧ t < n) ∧ innF E t = 0 := fun t => by
    unfold todoF
    rw [List.mem_filter, List.mem_map, decide_eq_true_iff]
    constructor
    · rintro ⟨⟨k, hk, rfl⟩, h2⟩
      rw [List.mem_range] at hk
      exact ⟨by omega, h2⟩
    · rintro ⟨h1, h2⟩
      exact ⟨⟨t.toNat, by rw [List.mem_range]; omega, by omega⟩, h2⟩
  have := kahnGo_spec hE (n + 1) (P := []) (inn := innF E) (todo := todoF E n) ⟨fun t => by simp [innF, inF], by rw [List.nil_append]; exact hrn.filter _, fun t ht => ((hmem t).1 (by simpa using ht)).1, fun t t0 tn => by
    rw [List.nil_append, hmem]
    constructor
    · exact fun h => h.2
    · exact fun h => ⟨⟨t0, tn⟩, h⟩, fun i t s hi => by simp at hi⟩ (by simp)
  simpa using this
end Go.Um
namespace Go.Um
open Go.RowKit

def edgesF (rs : List Rule) : Edges := (rs.filter fun r => decide (r.guards.length = 0)).map fun r => (r.src, r.dst)
theorem edgesF_snoc (rs : List Rule) (r : Rule) : edgesF (rs ++ [r]) = edgesF rs ++ (if r.guards.length = 0 then [(r.src, r.dst)] else []) := by
  unfold edgesF
  rw [List.filter_append, List.map_append]
  by_cases h : r.guards.length = 0
  · have h' : r.guards = [] := List.eq_nil_of_length_eq_zero h
    simp [h']
  · have h' : r.guards ≠ [] := fun e => h (by simp [e])
    simp [h']
theorem edgesF_len (rs : List Rule) : (edgesF rs).length ≤ rs.length := by
  unfold edgesF
  rw [List.length_map]
  exact List.length_filter_le _ _
theorem mem_edgesF {rs : List Rule} {e : Int × Int} (h : e ∈ edgesF rs) : ∃ r ∈ rs, r.guards.length = 0 ∧ e = (r.src, r.dst) := by
  unfold edgesF at h
  obtain ⟨r, h1, rfl⟩ := List.mem_map.1 h
  obtain ⟨h2, h3⟩ := List.mem_filter.1 h1
  exact ⟨r, h2, by simpa using h3, rfl⟩
theorem toF_snoc (E : Edges) (a b s : Int) : toF (E ++ [(a, b)]) s = if s = a then toF E s ++ [b] else toF E s := by
  unfold toF
  rw [List.filter_append, List.map_append]
  by_cases h : s = a
  · subst h; simp
  · have : ¬ a = s := fun e => h e.symm
    simp [h, this]
theorem innF_snoc (E : Edges) (a b t : Int) : innF (E ++ [(a, b)]) t = if t = b then innF E t + 1 else innF E t := by
  unfold innF
  rw [List.filter_append, List.length_append]
  by_cases h : t = b
  · subst h; simp
  · have : ¬ b = t := fun e => h e.symm
    simp [h, this]
theorem innF_bounds (E : Edges) (t : Int) : 0 ≤ innF E t ∧ innF E t ≤ E.length := by
  unfold innF
  have := List.length_filter_le (fun e : Int × Int => e.2 == t) E
  exact ⟨by omega, by omega⟩
theorem toF_len (E : Edges) (s : Int) : (toF E s).length ≤ E.length := by
  unfold toF
  rw [List.length_map]
  exact List.length_filter_le _ _
theorem mem_toF {E : Edges} {s t : Int} (h : t ∈ toF E s) : (s, t) ∈ E := by
  unfold toF at h
  obtain ⟨⟨a, b⟩, h1, rfl⟩ := List.mem_map.1 h
  obtain ⟨h2, h3⟩ := List.mem_filter.1 h1
  have : a = s := by simpa using h3
  subst this
  exact h2
theorem inF_le (E : Edges) (P : List Int) (t : Int) : inF E P t ≤ E.length := by
  unfold inF
  exact List.length_filter_le _ _

/-- block G holds n integers, as inn says. -/
def inVals (n : Nat) (inn : Int → Int) : List Value := (List.range n).map fun k : Nat => Value.int .i64 (inn (k : Int))
def InRow (w : World) (G : Nat) (te : TypeId) (n : Nat) (inn : Int → Int) : Prop := w.heap[G]? = some (.cells (inVals n inn).toArray te (0, 0))
theorem inVals_at {n : Nat} {inn : Int → Int} {t : Nat} (ht : t < n) : (inVals n inn)[t]? = some (.int .i64 (inn t)) := by
  unfold inVals
  rw [List.getElem?_map, List.getElem?_range ht]; rfl
theorem InRow.at {w : World} {G n : Nat} {te : TypeId} {inn : Int → Int} (h : InRow w G te n inn) {t : Nat} (ht : t < n) : w.cell? ⟨G, t, none⟩ = some (.int .i64 (inn t)) ∧ w.frozen? ⟨G, t, none⟩ = false := by
  refine ⟨?_, frozen_of_row _ _ _ _ _ h⟩
  rw [cell_of_row _ _ _ _ _ _ h]
  simpa using inVals_at ht
theorem InRow.put {w : World} {G n : Nat} {te : TypeId} {inn : Int → Int} (h : InRow w G te n inn) {t : Nat} (ht : t < n) (z : Int) : InRow (w.setCell ⟨G, t, none⟩ (.int .i64 z)) G te n (fun x => if x = t then z else inn x) := by
  unfold InRow at h ⊢
  rw [heap_setCell_same w G t _ te _ h]
  congr 2
  apply Array.ext'
  simp only [Array.toList_setIfInBounds]
  apply List.ext_getElem?
  intro i
  by_cases hi : i < n
  · rw [inVals_at hi]
    by_cases hit : i = t
    · subst hit
      rw [List.getElem?_set_self (by simp [inVals]; omega)]
      simp
    · rw [List.getElem?_set_ne (fun e => hit e.symm), inVals_at hi, if_neg (by omega)]
  · rw [List.getElem?_eq_none (by simp [inVals]; omega), List.getElem?_eq_none (by simp [inVals]; omega)]
theorem InRow.carry {w w' : World} {G n : Nat} {te : TypeId} {inn : Int → Int} (h : InRow w G te n inn) (hb : w'.heap[G]? = w.heap[G]?) : InRow w' G te n inn := hb.trans h
theorem inVals_zero (n : Nat) : inVals n (fun _ => 0) = List.replicate n (.int .i64 0) := by
  unfold inVals
  rw [List.map_const']
  simp
theorem grown_setCell (w : World) (G j : Nat) (u : Value) : w.grownBy (w.setCell ⟨G, j, none⟩ u) (some G) :=
  ⟨rfl, rfl, rfl, by simp, fun k _ hk => heap_setCell_other w ⟨G, j, none⟩ k u (fun e => hk (by rw [e]))⟩
theorem grown_low {w3 w w' : World} {G : Nat} (h : w3.grownBy w (some G)) (hb : Below w3.heap.size w w') : w3.grownBy w' (some G) :=
  ⟨hb.os.trans h.os, hb.tape.trans h.tape, hb.output.trans h.output, Nat.le_trans h.size hb.size, fun k hk hne => (hb.block k hk).trans (h.block k hk hne)⟩
theorem takeT_two (inn : Int → Int) (todo : List Int) (t : Int) : takeT (inn, todo) t = (fun x => if x = t then inn t - 1 else inn x, if inn t - 1 = 0 then todo ++ [t] else todo) := rfl
theorem fold_snoc {ts : List Int} {j : Nat} {t : Int} (h : ts[j]? = some t) (st : (Int → Int) × List Int) : (ts.take (j + 1)).foldl takeT st = takeT ((ts.take j).foldl takeT st) t := by
  rw [List.take_add_one, h]
  simp
theorem fold_bounds {ts : List Int} {inn : Int → Int} {todo : List Int} (h : ∀ t, (ts.count t : Int) ≤ inn t) (hb : ∀ t, inn t ≤ 4096) (j : Nat) : (∀ t, 0 ≤ ((ts.take j).foldl takeT (inn, todo)).1 t ∧ ((ts.take j).foldl takeT (inn, todo)).1 t ≤ 4096) ∧ ((ts.take j).foldl takeT (inn, todo)).2.length ≤ todo.length + j := by
  have hc : ∀ t, ((ts.take j).count t : Int) ≤ inn t := fun t => by
    have := (List.take_sublist j ts).count_le t
    have := h t
    omega
  obtain ⟨h1, _⟩ := takeT_fold (todo := todo) hc
  refine ⟨fun t => ?_, ?_⟩
  · rw [h1]
    have := hc t
    have := hb t
    omega
  · have hlen : ∀ (l : List Int) (st : (Int → Int) × List Int), (l.foldl takeT st).2.length ≤ st.2.length + l.length := by
      intro l
      induction l with
      | nil => intro st; simp
      | cons a r ih =>
        intro st
        have := ih (takeT st a)
        obtain ⟨x, y⟩ := st
        rw [takeT_two] at this
        simp only [List.foldl_cons, takeT_two, List.length_cons] at this ⊢
        have h3 : (if x a - 1 = 0 then y ++ [a] else y).length ≤ y.length + 1 := by split <;> simp
        omega
    have h4 := hlen (ts.take j) (inn, todo)
    have h5 : (ts.take j).length ≤ j := by rw [List.length_take]; omega
    simp only at h4
    omega
theorem mem_todoF {E : Edges} {n : Nat} {t : Int} : t ∈ todoF E n ↔ (0 ≤ t ∧ t < n) ∧ innF E t = 0 := by
  unfold todoF
  rw [List.mem_filter, List.mem_map, decide_eq_true_iff]
  constructor
  · rintro ⟨⟨k, hk, rfl⟩, h2⟩
    rw [List.mem_range] at hk
    exact ⟨by omega, h2⟩
  · rintro ⟨h1, h2⟩
    exact ⟨⟨t.toNat, by rw [List.mem_range]; omega, by omega⟩, h2⟩
theorem kahn_start (E : Edges) (n : Nat) : KahnI E n [] (innF E) (todoF E n) := by
  have hrn : ((List.range n).map fun k : Nat => (k : Int)).Nodup := by
    rw [List.Nodup, List.pairwise_map]
    exact List.nodup_range.imp fun hab e => hab (by omega)
  refine ⟨fun t => by simp [innF, inF], by rw [List.nil_append]; exact hrn.filter _, fun t ht => (mem_todoF.1 (by simpa using ht)).1, fun t t0 tn => ?_, fun i t s hi => by simp at hi⟩
  rw [List.nil_append, mem_todoF]
  exact ⟨fun h => h.2, fun h => ⟨⟨t0, tn⟩, h⟩⟩
theorem kahnGo_nil (E : Edges) (f : Nat) (inn : Int → Int) (d : Nat) : kahnGo E f inn [] d = d := by cases f <;> rfl
theorem KahnI.room {E : Edges} {n : Nat} {P : List Int} {inn : Int → Int} {s : Int} {todo : List Int} (h : KahnI E n P inn (s :: todo)) : P.length + todo.length + 1 ≤ n := by
  have := nodup_le h.nd h.rng
  simp at this
  omega
theorem KahnI.counts {E : Edges} {n : Nat} {P : List Int} {inn : Int → Int} {s : Int} {todo : List Int} (h : KahnI E n P inn (s :: todo)) : (∀ t, ((toF E s).count t : Int) ≤ inn t) ∧ ∀ t, inn t ≤ E.length := by
  have hsP : s ∉ P := fun hs => by
    have := (List.nodup_append.1 h.nd).2.2 s hs s (List.mem_cons_self ..)
    exact this rfl
  refine ⟨fun t => ?_, fun t => ?_⟩
  · rw [h.cnt, inF_snoc hsP]; omega
  · rw [h.cnt]; have := inF_le E P t; omega
end Go.Um
namespace Go.Um

/-- a power of two. -/
def pw (n : Int) : Int := 2 ^ n.toNat
theorem pw_pos (n : Int) : 0 < pw n := Int.pow_pos (by decide)
theorem pw_mono {n m : Int} (h : n ≤ m) : pw n ≤ pw m := by
  unfold pw
  exact_mod_cast Nat.pow_le_pow_right (by decide : 0 < 2) (show n.toNat ≤ m.toNat by omega)
theorem pw_20 {n : Int} (h : n ≤ 20) : pw n ≤ 1048576 := pw_mono (m := 20) h
theorem pw_21 {n : Int} (h : n ≤ 21) : pw n ≤ 2097152 := pw_mono (m := 21) h
theorem pw_6 {n : Int} (h : n ≤ 6) : pw n ≤ 64 := pw_mono (m := 6) h
/-- are a part's bits right? -/
def bitsF (p : Part) : Bool := decide (0 ≤ p.drop ∧ p.drop ≤ 20 ∧ 1 ≤ p.take ∧ p.take ≤ 21 ∧ 0 ≤ p.up ∧ p.up ≤ 20 ∧ (p.up = 0 ∨ p.take ≤ 6))
theorem bitsF_iff {p : Part} : bitsF p = true ↔ 0 ≤ p.drop ∧ p.drop ≤ 20 ∧ 1 ≤ p.take ∧ p.take ≤ 21 ∧ 0 ≤ p.up ∧ p.up ≤ 20 ∧ (p.up = 0 ∨ p.take ≤ 6) := decide_eq_true_iff
/-- a part's value of a number. -/
def valF (p : Part) (x : Int) : Int := x / pw p.drop % pw p.take * pw p.up
theorem valF_nonneg (p : Part) (x : Int) : 0 ≤ valF p x := Int.mul_nonneg (Int.emod_nonneg _ (by have := pw_pos p.take; omega)) (by have := pw_pos p.up; omega)
theorem valF_le {p : Part} (h : bitsF p = true) (x : Int) : valF p x ≤ 67108864 := by
  have hb := bitsF_iff.1 h
  have h1 := Int.emod_lt_of_pos (x / pw p.drop) (pw_pos p.take)
  have h0 := Int.emod_nonneg (x / pw p.drop) (show pw p.take ≠ 0 by have := pw_pos p.take; omega)
  unfold valF
  rcases hb.2.2.2.2.2.2 with h2 | h2
  · rw [h2, show pw 0 = 1 from rfl, Int.mul_one]
    have := pw_21 hb.2.2.2.1
    omega
  · have h3 := pw_6 h2
    have h4 := pw_20 hb.2.2.2.2.2.1
    have h5 := pw_pos p.up
    have : x / pw p.drop % pw p.take * pw p.up ≤ 64 * 1048576 := Int.mul_le_mul (by omega) h4 (by omega) (by decide)
    omega

/-! ### All numbers of a set -/
def eachS (s : Span) : List Int := (List.range (s.hi - s.lo + 1).toNat).map (fun k : Nat => s.lo + (k : Int))
def eachL (l : List Span) : List Int := l.flatMap eachS
theorem mem_eachS {s : Span} {x : Int} : x ∈ eachS s ↔ s.lo ≤ x ∧ x ≤ s.hi := by
  unfold eachS
  rw [List.mem_map]
  constructor
  · rintro ⟨k, hk, rfl⟩
    rw [List.mem_range] at hk
    omega
  · rintro ⟨h1, h2⟩
    exact ⟨(x - s.lo).toNat, by rw [List.mem_range]; omega, by omega⟩
theorem mem_eachL {l : List Span} {x : Int} : x ∈ eachL l ↔ mem l x := by
  unfold eachL mem
  rw [List.mem_flatMap]
  constructor
  · rintro ⟨s, hs, hx⟩; exact ⟨s, hs, mem_eachS.1 hx⟩
  · rintro ⟨s, hs, hx⟩; exact ⟨s, hs, mem_eachS.2 hx⟩

/-! ### The image of a set -/
/-- of one span of what is left behind the drop: its remainders. -/
def imgOne (d m : Int) (x : Span) : List Span :=
  if x.lo / d % m ≤ x.hi / d % m then [⟨x.lo / d % m, x.hi / d % m⟩] else [⟨0, x.hi / d % m⟩, ⟨x.lo / d % m, m - 1⟩]
def wide (d m : Int) (x : Span) : Bool := decide (m - 1 ≤ x.hi / d - x.lo / d)
def imgRaw (d m : Int) (l : List Span) : List Span := if l.any (wide d m) then [⟨0, m - 1⟩] else l.flatMap (imgOne d m)
theorem ediv_span {d : Int} (hd : 0 < d) {lo hi q : Int} (_h : lo ≤ hi) : (∃ x, lo ≤ x ∧ x ≤ hi ∧ x / d = q) ↔ lo / d ≤ q ∧ q ≤ hi / d := by
  constructor
  · rintro ⟨x, h1, h2, rfl⟩
    exact ⟨Int.ediv_le_ediv hd h1, Int.ediv_le_ediv hd h2⟩
  · rintro ⟨h1, h2⟩
    by_cases h3 : lo / d = q
    · exact ⟨lo, by omega, by omega, h3⟩
    · refine ⟨q * d, ?_, ?_, Int.mul_ediv_cancel q (by omega)⟩
      · have h4 : lo < (lo / d + 1) * d := Int.lt_ediv_add_one_mul_self lo hd
        have h5 : (lo / d + 1) * d ≤ q * d := Int.mul_le_mul_of_nonneg_right (by omega) (by omega)
        omega
      · have h4 : hi / d * d ≤ hi := Int.ediv_mul_le hi (by omega)
        have h5 : q * d ≤ hi / d * d := Int.mul_le_mul_of_nonneg_right h2 (by omega)
        omega
/-- remainders of all numbers from one to another one. -/
theorem emod_wide {m a b r : Int} (hm : 0 < m) (h : m - 1 ≤ b - a) : (∃ q, a ≤ q ∧ q ≤ b ∧ q % m = r) ↔ 0 ≤ r ∧ r ≤ m - 1 := by
  constructor
  · rintro ⟨q, _, _, rfl⟩
    have := Int.emod_nonneg q (show m ≠ 0 by omega)
    have := Int.emod_lt_of_pos q hm
    omega
  · rintro ⟨h1, h2⟩
    have e := Int.emod_nonneg (r - a) (show m ≠ 0 by omega)
    have e2 := Int.emod_lt_of_pos (r - a) hm
    refine ⟨a + (r - a) % m, by omega, by omega, ?_⟩
    rw [Int.add_emod, Int.emod_emod, ← Int.add_emod, show a + (r - a) = r by omega]
    exact Int.emod_eq_of_lt h1 (by omega)
theorem emod_one {m a b r : Int} (hm : 0 < m) (hab : a ≤ b) (h : ¬ m - 1 ≤ b - a) :
    (∃ q, a ≤ q ∧ q ≤ b ∧ q % m = r) ↔ if a % m ≤ b % m then a % m ≤ r ∧ r ≤ b % m else (0 ≤ r ∧ r ≤ b % m) ∨ (a % m ≤ r ∧ r ≤ m - 1) := by
  have a0 := Int.emod_nonneg a (show m ≠ 0 by omega)
  have a1 := Int.emod_lt_of_pos a hm
  have b0 := Int.emod_nonneg b (show m ≠ 0 by omega)
  have b1 := Int.emod_lt_of_pos b hm
  have ea := Int.emod_add_mul_ediv a m
  have eb := Int.emod_add_mul_ediv b m
  -- how far the quotients are apart
  have key : b / m = a / m ∨ b / m = a / m + 1 := by
    have k1 : a / m ≤ b / m := Int.ediv_le_ediv hm hab
    by_cases k2 : b / m ≤ a / m + 1
    · omega
    · exfalso
      have k3 : m * (a / m + 2) ≤ m * (b / m) := Int.mul_le_mul_of_nonneg_left (by omega) (by omega)
      rw [Int.mul_add] at k3
      omega
  constructor
  · rintro ⟨q, h1, h2, rfl⟩
    have q0 := Int.emod_nonneg q (show m ≠ 0 by omega)
    have q1 := Int.emod_lt_of_pos q hm
    have eq := Int.emod_add_mul_ediv q m
    have k1 : a / m ≤ q / m := Int.ediv_le_ediv hm h1
    have k2 : q / m ≤ b / m := Int.ediv_le_ediv hm h2
    rcases key with key | key
    · have : q / m = a / m := by omega
      rw [this] at eq
      rw [key] at eb
      rw [if_pos (by omega)]
      omega
    · rw [key, Int.mul_add] at eb
      rw [if_neg (by omega)]
      by_cases k3 : q / m = a / m
      · rw [k3] at eq; right; omega
      · have : q / m = a / m + 1 := by omega
        rw [this, Int.mul_add] at eq
        left; omega
  · intro hr
    rcases key with key | key
    · rw [key] at eb
      rw [if_pos (by omega)] at hr
      refine ⟨a + (r - a % m), by omega, by omega, ?_⟩
      rw [show a + (r - a % m) = r + m * (a / m) by omega, Int.add_mul_emod_self_left]
      exact Int.emod_eq_of_lt (by omega) (by omega)
    · rw [key, Int.mul_add] at eb
      rw [if_neg (by omega)] at hr
      rcases hr with hr | hr
      · refine ⟨r + m * (a / m + 1), by rw [Int.mul_add]; omega, by rw [Int.mul_add]; omega, ?_⟩
        rw [Int.add_mul_emod_self_left]
        exact Int.emod_eq_of_lt (by omega) (by omega)
      · refine ⟨r + m * (a / m), by omega, by omega, ?_⟩
        rw [Int.add_mul_emod_self_left]
        exact Int.emod_eq_of_lt (by omega) (by omega)
theorem mem_imgRaw {d m : Int} (hd : 0 < d) (hm : 0 < m) {l : List Span} (hl : ∀ s ∈ l, s.lo ≤ s.hi) {r : Int} : mem (imgRaw d m l) r ↔ ∃ x, mem l x ∧ x / d % m = r := by
  have base : ∀ s : Span, s.lo ≤ s.hi → ((∃ x, (s.lo ≤ x ∧ x ≤ s.hi) ∧ x / d % m = r) ↔ ∃ q, s.lo / d ≤ q ∧ q ≤ s.hi / d ∧ q % m = r) := by
    intro s hs
    constructor
    · rintro ⟨x, ⟨h1, h2⟩, h3⟩
      have := (ediv_span hd hs).1 ⟨x, h1, h2, rfl⟩
      exact ⟨_, this.1, this.2, h3⟩
    · rintro ⟨q, h1, h2, h3⟩
      obtain ⟨x, h4, h5, h6⟩ := (ediv_span hd hs).2 ⟨h1, h2⟩
      exact ⟨x, ⟨h4, h5⟩, by rw [h6]; exact h3⟩
  unfold imgRaw
  split
  · rename_i hw
    obtain ⟨s, hs, hw⟩ := List.any_eq_true.1 hw
    have hw : m - 1 ≤ s.hi / d - s.lo / d := of_decide_eq_true hw
    simp only [mem_cons, mem_nil, or_false]
    constructor
    · intro hr
      obtain ⟨x, h1, h2⟩ := (base s (hl s hs)).2 ((emod_wide hm hw).2 hr)
      exact ⟨x, ⟨s, hs, h1⟩, h2⟩
    · rintro ⟨x, _, rfl⟩
      have := Int.emod_nonneg (x / d) (show m ≠ 0 by omega)
      have := Int.emod_lt_of_pos (x / d) hm
      omega
  · rename_i hw
    have hw : ∀ s ∈ l, ¬ m - 1 ≤ s.hi / d - s.lo / d := by
      intro s hs hc
      exact hw (List.any_eq_true.2 ⟨s, hs, decide_eq_true hc⟩)
    have one : ∀ s ∈ l, (mem (imgOne d m s) r ↔ ∃ x, (s.lo ≤ x ∧ x ≤ s.hi) ∧ x / d % m = r) := by
      intro s hs
      rw [base s (hl s hs), emod_one hm (Int.ediv_le_ediv hd (hl s hs)) (hw s hs)]
      unfold imgOne
      split <;> simp [mem_cons, mem_nil]
    constructor
    · rintro ⟨t, ht, h1⟩
      obtain ⟨s, hs, ht⟩ := List.mem_flatMap.1 ht
      obtain ⟨x, h2, h3⟩ := (one s hs).1 ⟨t, ht, h1⟩
      exact ⟨x, ⟨s, hs, h2⟩, h3⟩
    · rintro ⟨x, ⟨s, hs, h2⟩, h3⟩
      obtain ⟨t, ht, h1⟩ := (one s hs).2 ⟨x, h2, h3⟩
      exact ⟨t, List.mem_flatMap.2 ⟨s, hs, ht⟩, h1⟩
/-- all numbers that have a value. -/
def topS : List Span := [⟨0, 2097151⟩]
theorem mem_topS {x : Int} : mem topS x ↔ 0 ≤ x ∧ x ≤ 2097151 := by simp [topS, mem]
theorem inSet_topS {x : Int} : inSet topS x ↔ 0 ≤ x ∧ x ≤ 2097151 := by
  unfold inSet; rw [mem_topS]; omega
/-- what is moved up. -/
def upL (u : Int) (l : List Int) : List Span := l.map fun x => ⟨x * u, x * u⟩
theorem mem_upL {u : Int} {l : List Int} {z : Int} : mem (upL u l) z ↔ ∃ x ∈ l, z = x * u := by
  unfold upL mem
  constructor
  · rintro ⟨s, hs, h1, h2⟩
    obtain ⟨x, hx, rfl⟩ := List.mem_map.1 hs
    exact ⟨x, hx, by simp only at h1 h2; omega⟩
  · rintro ⟨x, hx, rfl⟩
    exact ⟨_, List.mem_map.2 ⟨x, hx, rfl⟩, Int.le_refl _, Int.le_refl _⟩
/-- part.Image. -/
def imgN (p : Part) (s : List Span) : List Span := normF (imgRaw (pw p.drop) (pw p.take) (meetF s topS))
def imgF (p : Part) (s : List Span) : List Span := if p.up = 0 then imgN p s else normF (upL (pw p.up) (eachL (imgN p s)))
theorem imgF_plain (p : Part) (s : List Span) : plain (imgF p s) = true := by
  unfold imgF imgN; split <;> exact normF_plain _
theorem mem_imgN {p : Part} (h : bitsF p = true) {s : List Span} {z : Int} : mem (imgN p s) z ↔ ∃ x, (inSet s x ∧ 0 ≤ x ∧ x ≤ 2097151) ∧ x / pw p.drop % pw p.take = z := by
  have hb := bitsF_iff.1 h
  have ht := pw_21 hb.2.2.2.1
  have ht0 := pw_pos p.take
  unfold imgN
  rw [mem_normF, inSet, mem_imgRaw (pw_pos _) (pw_pos _) (fun s hs => (plainFrom_ok (meetF_plain _ _) s hs).1)]
  simp only [mem_meetF, inSet_topS]
  constructor
  · rintro ⟨_, h2⟩; exact h2
  · rintro ⟨x, h1, rfl⟩
    have := Int.emod_nonneg (x / pw p.drop) (show pw p.take ≠ 0 by omega)
    have := Int.emod_lt_of_pos (x / pw p.drop) ht0
    exact ⟨by omega, x, h1, rfl⟩
theorem mem_imgF {p : Part} (h : bitsF p = true) {s : List Span} {z : Int} : mem (imgF p s) z ↔ ∃ x, (inSet s x ∧ 0 ≤ x ∧ x ≤ 2097151) ∧ valF p x = z := by
  unfold imgF
  split
  · rename_i h0
    rw [mem_imgN h]
    unfold valF
    rw [h0, show pw 0 = 1 from rfl]
    simp only [Int.mul_one]
  · rw [mem_normF, inSet, mem_upL]
    simp only [mem_eachL, mem_imgN h]
    constructor
    · rintro ⟨_, y, ⟨x, h1, rfl⟩, rfl⟩
      exact ⟨x, h1, rfl⟩
    · rintro ⟨x, h1, rfl⟩
      have := valF_nonneg p x
      have := valF_le h x
      exact ⟨by omega, _, ⟨x, h1, rfl⟩, rfl⟩

/-! ### Runs of numbers, one behind the other -/
def runStep (out : List Span) (n : Int) : List Span :=
  match out.getLast? with
  | some t => if t.hi = n - 1 then out.dropLast ++ [⟨t.lo, n⟩] else out ++ [⟨n, n⟩]
  | none => out ++ [⟨n, n⟩]
def runsF (l : List Int) : List Span := l.foldl runStep []
def neL (l : List Span) : Prop := ∀ s ∈ l, s.lo ≤ s.hi
theorem runStep_spec {out : List Span} (h : neL out) (n : Int) : neL (runStep out n) ∧ (∀ z, mem (runStep out n) z ↔ mem out z ∨ z = n) ∧ (runStep out n).length ≤ out.length + 1 := by
  unfold runStep
  cases hq : out.getLast? with
  | none =>
    have : out = [] := by simpa using hq
    subst this
    refine ⟨fun s hs => ?_, fun z => ?_, by simp⟩
    · simp at hs; subst hs; exact Int.le_refl _
    · simp [mem]; omega
  | some t =>
    obtain ⟨ini, rfl⟩ := List.getLast?_eq_some_iff.1 hq
    have ht := h t (by simp)
    simp only [List.dropLast_concat]
    split
    · rename_i hc
      refine ⟨fun s hs => ?_, fun z => ?_, by simp⟩
      · rcases List.mem_append.1 hs with hs | hs
        · exact h s (List.mem_append_left _ hs)
        · simp at hs; subst hs; simp only; omega
      · simp only [mem_append, mem_cons, mem_nil, or_false, or_assoc]
        constructor
        · rintro (h1 | h1)
          · exact .inl h1
          · omega
        · rintro (h1 | h1)
          · exact .inl h1
          · right; omega
    · refine ⟨fun s hs => ?_, fun z => ?_, by simp⟩
      · rcases List.mem_append.1 hs with hs | hs
        · exact h s hs
        · simp at hs; subst hs; exact Int.le_refl _
      · simp only [mem_append, mem_cons, mem_nil, or_false]
        constructor
        · rintro (h1 | h1)
          · exact .inl h1
          · right; omega
        · rintro (h1 | h1)
          · exact .inl h1
          · right; omega
theorem foldRun_spec {l : List Int} : ∀ {out : List Span}, neL out → neL (l.foldl runStep out) ∧ (∀ z, mem (l.foldl runStep out) z ↔ mem out z ∨ z ∈ l) ∧ (l.foldl runStep out).length ≤ out.length + l.length := by
  induction l with
  | nil => intro out h; exact ⟨h, fun z => by simp, by simp⟩
  | cons n r ih =>
    intro out h
    obtain ⟨s1, s2, s3⟩ := runStep_spec h n
    obtain ⟨i1, i2, i3⟩ := ih s1
    refine ⟨i1, fun z => ?_, ?_⟩
    · rw [List.foldl_cons, i2, s2, List.mem_cons, or_assoc]
    · rw [List.foldl_cons]; simp only [List.length_cons]; omega
theorem mem_runsF {l : List Int} {z : Int} : mem (runsF l) z ↔ z ∈ l := by
  have := (foldRun_spec (l := l) (out := []) (fun s hs => by cases hs)).2.1 z
  unfold runsF
  simpa [mem_nil] using this
end Go.Um
namespace Go.Um

/-! ### Sums of two sets -/
def addS (x y : Span) : Span := ⟨x.lo + y.lo, x.hi + y.hi⟩
def plusStep (b : List Span) (out : List Span) (x : Span) : List Span :=
  if 65536 < (out ++ b.map (addS x)).length then normF (out ++ b.map (addS x)) else out ++ b.map (addS x)
def plusF (a b : List Span) : List Span := normF (a.foldl (plusStep b) [])
theorem mem_mapAdd {x : Span} {b : List Span} (hx : x.lo ≤ x.hi) (hb : neL b) {z : Int} : mem (b.map (addS x)) z ↔ ∃ u v, (x.lo ≤ u ∧ u ≤ x.hi) ∧ mem b v ∧ z = u + v := by
  constructor
  · rintro ⟨s, hs, h1, h2⟩
    obtain ⟨y, hy, rfl⟩ := List.mem_map.1 hs
    have := hb y hy
    simp only [addS] at h1 h2
    by_cases h : z - y.lo ≤ x.hi
    · exact ⟨z - y.lo, y.lo, ⟨by omega, h⟩, ⟨y, hy, Int.le_refl _, this⟩, by omega⟩
    · exact ⟨x.hi, z - x.hi, ⟨hx, Int.le_refl _⟩, ⟨y, hy, by omega, by omega⟩, by omega⟩
  · rintro ⟨u, v, h1, ⟨y, hy, h2⟩, rfl⟩
    exact ⟨addS x y, List.mem_map.2 ⟨y, hy, rfl⟩, by simp only [addS]; omega, by simp only [addS]; omega⟩
/-- all of a list lies within so much. -/
def inB (n : Int) (l : List Span) : Prop := ∀ s ∈ l, -n ≤ s.lo ∧ s.hi ≤ n
theorem inB_mem {n : Int} {l : List Span} (h : inB n l) {z : Int} (hz : mem l z) : -n ≤ z ∧ z ≤ n := by
  obtain ⟨s, hs, h1⟩ := hz
  have := h s hs
  omega
theorem mem_inB {n : Int} {l : List Span} (hne : neL l) (h : ∀ z, mem l z → -n ≤ z ∧ z ≤ n) : inB n l := fun s hs =>
  ⟨(h s.lo ⟨s, hs, Int.le_refl _, hne s hs⟩).1, (h s.hi ⟨s, hs, hne s hs, Int.le_refl _⟩).2⟩
theorem normF_ne (l : List Span) : neL (normF l) := fun s hs => (plainFrom_ok (normF_plain l) s hs).1
theorem plain_ne {l : List Span} (h : plain l = true) : neL l := fun s hs => (plainFrom_ok h s hs).1
theorem inSet_inB {l : List Span} (h : inB 1073741824 l) {z : Int} : inSet l z ↔ mem l z := ⟨fun h => h.2, fun hz => ⟨inB_mem h hz, hz⟩⟩
theorem plusStep_spec {b out : List Span} {x : Span} {n m : Int} (hb : neL b) (ho : neL out) (hx : x.lo ≤ x.hi) (hbn : inB m b) (hxn : -n ≤ x.lo ∧ x.hi ≤ n) (hon : inB (n + m) out) (hnm : n + m ≤ 1073741824) :
    neL (plusStep b out x) ∧ inB (n + m) (plusStep b out x) ∧ ∀ z, mem (plusStep b out x) z ↔ mem out z ∨ ∃ u v, (x.lo ≤ u ∧ u ≤ x.hi) ∧ mem b v ∧ z = u + v := by
  have h1 : neL (out ++ b.map (addS x)) := by
    intro s hs
    rcases List.mem_append.1 hs with hs | hs
    · exact ho s hs
    · obtain ⟨y, hy, rfl⟩ := List.mem_map.1 hs
      have := hb y hy
      simp only [addS]; omega
  have h2 : inB (n + m) (out ++ b.map (addS x)) := by
    intro s hs
    rcases List.mem_append.1 hs with hs | hs
    · exact hon s hs
    · obtain ⟨y, hy, rfl⟩ := List.mem_map.1 hs
      have := hbn y hy
      simp only [addS]; omega
  have h3 : ∀ z, mem (out ++ b.map (addS x)) z ↔ mem out z ∨ ∃ u v, (x.lo ≤ u ∧ u ≤ x.hi) ∧ mem b v ∧ z = u + v := fun z => by rw [mem_append, mem_mapAdd hx hb]
  unfold plusStep
  split
  · have h4 : ∀ z, mem (normF (out ++ b.map (addS x))) z ↔ mem (out ++ b.map (addS x)) z := fun z => by
      rw [mem_normF, inSet_inB (fun s hs => by have := h2 s hs; omega)]
    exact ⟨normF_ne _, mem_inB (normF_ne _) fun z hz => inB_mem h2 ((h4 z).1 hz), fun z => by rw [h4, h3]⟩
  · exact ⟨h1, h2, h3⟩
theorem plusFold_spec {b : List Span} {n m : Int} (hb : neL b) (hbn : inB m b) (hnm : n + m ≤ 1073741824) {a : List Span} : ∀ {out : List Span}, neL a → inB n a → neL out → inB (n + m) out →
    neL (a.foldl (plusStep b) out) ∧ inB (n + m) (a.foldl (plusStep b) out) ∧ ∀ z, mem (a.foldl (plusStep b) out) z ↔ mem out z ∨ ∃ u v, mem a u ∧ mem b v ∧ z = u + v := by
  induction a with
  | nil => intro out _ _ h1 h2; exact ⟨h1, h2, fun z => by simp [mem_nil]⟩
  | cons x r ih =>
    intro out ha hn h1 h2
    obtain ⟨s1, s2, s3⟩ := plusStep_spec hb h1 (ha x (List.mem_cons_self ..)) hbn (hn x (List.mem_cons_self ..)) h2 hnm
    obtain ⟨i1, i2, i3⟩ := ih (fun s hs => ha s (List.mem_cons_of_mem _ hs)) (fun s hs => hn s (List.mem_cons_of_mem _ hs)) s1 s2
    refine ⟨i1, i2, fun z => ?_⟩
    rw [List.foldl_cons, i3, s3, or_assoc]
    simp only [mem_cons]
    constructor
    · rintro (h | ⟨u, v, h3, h4, h5⟩ | ⟨u, v, h3, h4, h5⟩)
      · exact .inl h
      · exact .inr ⟨u, v, .inl h3, h4, h5⟩
      · exact .inr ⟨u, v, .inr h3, h4, h5⟩
    · rintro (h | ⟨u, v, h3 | h3, h4, h5⟩)
      · exact .inl h
      · exact .inr (.inl ⟨u, v, h3, h4, h5⟩)
      · exact .inr (.inr ⟨u, v, h3, h4, h5⟩)
theorem mem_plusF {a b : List Span} {n m : Int} (ha : neL a) (hb : neL b) (han : inB n a) (hbn : inB m b) (hnm : n + m ≤ 1073741824) {z : Int} : mem (plusF a b) z ↔ ∃ u v, mem a u ∧ mem b v ∧ z = u + v := by
  obtain ⟨h1, h2, h3⟩ := plusFold_spec (out := []) hb hbn hnm ha han (fun s hs => by cases hs) (fun s hs => by cases hs)
  unfold plusF
  rw [mem_normF, inSet_inB (fun s hs => by have := h2 s hs; omega), h3]
  simp [mem_nil]
theorem plusF_plain (a b : List Span) : plain (plusF a b) = true := normF_plain _

/-! ### Parts of one symbol -/
def sumP (l : List Part) (x : Int) : Int := (l.map fun p => valF p x).sum
theorem sumP_cons (p : Part) (l : List Part) (x : Int) : sumP (p :: l) x = valF p x + sumP l x := rfl
theorem sumP_snoc (l : List Part) (p : Part) (x : Int) : sumP (l ++ [p]) x = sumP l x + valF p x := by simp [sumP]
theorem sumP_bd {l : List Part} (h : ∀ p ∈ l, bitsF p = true) (x : Int) : 0 ≤ sumP l x ∧ sumP l x ≤ 67108864 * l.length := by
  induction l with
  | nil => exact ⟨Int.le_refl _, by simp [sumP]⟩
  | cons p r ih =>
    have := ih (fun q hq => h q (List.mem_cons_of_mem _ hq))
    have := valF_nonneg p x
    have := valF_le (h p (List.mem_cons_self ..)) x
    rw [sumP_cons, List.length_cons]
    omega
def togF (l : List Part) (s : List Span) : List Span := match l with
  | [p] => imgF p s
  | _ => normF (runsF ((eachL (normF s)).map (sumP l)))
theorem togF_plain (l : List Part) (s : List Span) : plain (togF l s) = true := by
  unfold togF; split
  · exact imgF_plain _ _
  · exact normF_plain _
/-- symbols alone, or the least of them. -/
def symS (s : List Span) : Prop := ∀ z, mem s z → 0 ≤ z ∧ z ≤ 1114111
theorem sym_inSet {s : List Span} (h : symS s) {z : Int} : inSet s z ↔ mem s z := ⟨fun h => h.2, fun hz => ⟨by have := h z hz; omega, hz⟩⟩
theorem mem_togF {l : List Part} (hb : ∀ p ∈ l, bitsF p = true) (hl : l.length ≤ 4) {s : List Span} (hs : symS s) {z : Int} : mem (togF l s) z ↔ ∃ x, mem s x ∧ z = sumP l x := by
  unfold togF
  split
  · rename_i p
    rw [mem_imgF (hb p (by simp))]
    constructor
    · rintro ⟨x, ⟨h1, _⟩, rfl⟩
      exact ⟨x, h1.2, by simp [sumP]⟩
    · rintro ⟨x, h1, rfl⟩
      have := hs x h1
      exact ⟨x, ⟨(sym_inSet hs).2 h1, by omega, by omega⟩, by simp [sumP]⟩
  · rw [mem_normF, inSet, mem_runsF, List.mem_map]
    simp only [mem_eachL, mem_normF, sym_inSet hs]
    constructor
    · rintro ⟨_, x, h1, h2⟩; exact ⟨x, h1, h2.symm⟩
    · rintro ⟨x, h1, rfl⟩
      have := sumP_bd hb x
      exact ⟨by omega, x, h1, rfl⟩

/-! ### All windows -/
/-- places, each once, as they come. -/
def placeStep (l : List Int) (p : Part) : List Int := if p.at_ ∈ l then l else l ++ [p.at_]
def placesF (ps : List Part) : List Int := ps.foldl placeStep []
def ofAt (ps : List Part) (a : Int) : List Part := ps.filter fun p => p.at_ == a
def sumV (ps : List Part) (f : Int → Int) : Int := (ps.map fun p => valF p (f p.at_)).sum
theorem place_mem {l : List Int} {p : Part} {a : Int} : a ∈ placeStep l p ↔ a ∈ l ∨ a = p.at_ := by
  unfold placeStep
  split
  · constructor
    · exact .inl
    · rintro (h | rfl) <;> assumption
  · simp
theorem place_nodup {l : List Int} {p : Part} (h : l.Nodup) : (placeStep l p).Nodup := by
  unfold placeStep
  split
  · exact h
  · rename_i hn
    rw [List.nodup_append]
    refine ⟨h, by simp, ?_⟩
    intro a ha b hb
    simp at hb
    subst hb
    rintro rfl
    exact hn ha
theorem places_fold {ps : List Part} : ∀ {l : List Int}, l.Nodup → (ps.foldl placeStep l).Nodup ∧ ∀ a, a ∈ ps.foldl placeStep l ↔ a ∈ l ∨ ∃ p ∈ ps, p.at_ = a := by
  induction ps with
  | nil => intro l h; exact ⟨h, fun a => by simp⟩
  | cons p r ih =>
    intro l h
    obtain ⟨h1, h2⟩ := ih (place_nodup (p := p) h)
    refine ⟨h1, fun a => ?_⟩
    rw [List.foldl_cons, h2, place_mem, or_assoc]
    constructor
    · rintro (h | h | ⟨q, hq, rfl⟩)
      · exact .inl h
      · exact .inr ⟨p, List.mem_cons_self .., h.symm⟩
      · exact .inr ⟨q, List.mem_cons_of_mem _ hq, rfl⟩
    · rintro (h | ⟨q, hq, rfl⟩)
      · exact .inl h
      · rcases List.mem_cons.1 hq with rfl | hq
        · exact .inr (.inl rfl)
        · exact .inr (.inr ⟨q, hq, rfl⟩)
theorem places_nodup (ps : List Part) : (placesF ps).Nodup := (places_fold (l := []) (by simp)).1
theorem mem_placesF {ps : List Part} {a : Int} : a ∈ placesF ps ↔ ∃ p ∈ ps, p.at_ = a := by
  rw [placesF, (places_fold (l := []) (by simp)).2]; simp
theorem ofAt_cons (p : Part) (ps : List Part) (a : Int) : ofAt (p :: ps) a = if p.at_ = a then p :: ofAt ps a else ofAt ps a := by
  unfold ofAt
  rw [List.filter_cons]
  by_cases h : p.at_ = a <;> simp [h]
theorem sum_add (qs : List Int) (f g : Int → Int) : (qs.map fun a => f a + g a).sum = (qs.map f).sum + (qs.map g).sum := by
  induction qs with
  | nil => rfl
  | cons a r ih => simp only [List.map_cons, List.sum_cons, ih]; omega
theorem sum_one {qs : List Int} (h : qs.Nodup) {a : Int} (ha : a ∈ qs) (v : Int) : (qs.map fun b => if a = b then v else 0).sum = v := by
  induction qs with
  | nil => cases ha
  | cons b r ih =>
    rw [List.nodup_cons] at h
    rw [List.map_cons, List.sum_cons]
    by_cases hab : a = b
    · subst hab
      have hz : ∀ (l : List Int), a ∉ l → (l.map fun b => if a = b then v else 0).sum = 0 := by
        intro l
        induction l with
        | nil => intro _; rfl
        | cons c s ih2 =>
          intro hn
          rw [List.mem_cons, not_or] at hn
          rw [List.map_cons, List.sum_cons, if_neg hn.1, ih2 hn.2]
          rfl
      rw [if_pos rfl, hz r h.1]
      omega
    · rw [if_neg hab, ih h.2 ((List.mem_cons.1 ha).resolve_left hab)]
      omega
theorem sum_placesG {ps : List Part} {qs : List Int} (hq : qs.Nodup) (h : ∀ p ∈ ps, p.at_ ∈ qs) (v : Part → Int → Int) (f : Int → Int) : (qs.map fun a => ((ofAt ps a).map fun p => v p (f a)).sum).sum = (ps.map fun p => v p (f p.at_)).sum := by
  induction ps with
  | nil =>
    have hz : ∀ (l : List Int), (l.map fun a => ((ofAt [] a).map fun p => v p (f a)).sum).sum = 0 := by
      intro l
      induction l with
      | nil => rfl
      | cons c s ih2 => rw [List.map_cons, List.sum_cons, ih2]; rfl
    exact hz qs
  | cons p r ih =>
    have e : ∀ a, ((ofAt (p :: r) a).map fun p => v p (f a)).sum = (if p.at_ = a then v p (f p.at_) else 0) + ((ofAt r a).map fun p => v p (f a)).sum := by
      intro a
      rw [ofAt_cons]
      by_cases h1 : p.at_ = a
      · subst h1; rw [if_pos rfl, if_pos rfl, List.map_cons, List.sum_cons]
      · rw [if_neg h1, if_neg h1]; omega
    rw [show (fun a => ((ofAt (p :: r) a).map fun p => v p (f a)).sum) = fun a => (if p.at_ = a then v p (f p.at_) else 0) + ((ofAt r a).map fun p => v p (f a)).sum from funext e]
    rw [sum_add, sum_one hq (h p (List.mem_cons_self ..)), ih (fun q hq' => h q (List.mem_cons_of_mem _ hq'))]
    rfl
theorem sum_places {ps : List Part} {qs : List Int} (hq : qs.Nodup) (h : ∀ p ∈ ps, p.at_ ∈ qs) (f : Int → Int) : (qs.map fun a => sumP (ofAt ps a) (f a)).sum = sumV ps f := sum_placesG hq h valF f
theorem sum_ones (l : List Part) : (l.map fun _ => (1 : Int)).sum = l.length := by
  induction l with
  | nil => rfl
  | cons p r ih => rw [List.map_cons, List.sum_cons, ih, List.length_cons]; omega
/-- how many parts some places have. -/
def cntF (ps : List Part) (qs : List Int) : Int := (qs.map fun a => ((ofAt ps a).length : Int)).sum
theorem cntF_all {ps : List Part} {qs : List Int} (hq : qs.Nodup) (h : ∀ p ∈ ps, p.at_ ∈ qs) : cntF ps qs = ps.length := by
  have := sum_placesG hq h (fun _ _ => 1) id
  rw [sum_ones] at this
  rw [← this]
  unfold cntF
  congr 1
  exact List.map_congr_left fun a _ => (sum_ones _).symm
theorem cntF_nonneg (ps : List Part) (qs : List Int) : 0 ≤ cntF ps qs := by
  induction qs with
  | nil => exact Int.le_refl _
  | cons a r ih => unfold cntF at *; rw [List.map_cons, List.sum_cons]; omega
/-- the values of some places, with the sum. -/
def valsGo (ps : List Part) (sets : List (List Span)) (out : List Span) (a : Int) : List Span := plusF out (togF (ofAt ps a) (sets[a.toNat]?.getD []))
def valuesF (t : Term) (sets : List (List Span)) : List Span := (placesF t.parts).foldl (valsGo t.parts sets) [⟨t.sum, t.sum⟩]
def symP (gs : List (List Span)) (a x : Int) : Prop := ∃ g, gs[a.toNat]? = some g ∧ mem g x
/-- what a term's inner value may be. -/
def innerP (t : Term) (gs : List (List Span)) (z : Int) : Prop := ∃ f : Int → Int, (∀ p ∈ t.parts, symP gs p.at_ (f p.at_)) ∧ z = t.sum + sumV t.parts f
theorem ofAt_len (ps : List Part) (a : Int) : (ofAt ps a).length ≤ ps.length := List.length_filter_le _ _
theorem ofAt_sub {ps : List Part} {a : Int} {p : Part} (h : p ∈ ofAt ps a) : p ∈ ps := (List.mem_filter.1 h).1
theorem vals_fold {ps : List Part} {sets : List (List Span)} (hb : ∀ p ∈ ps, bitsF p = true) (hl : ps.length ≤ 4) (hs : ∀ g ∈ sets, symS g) {qs : List Int} : ∀ {out : List Span} {n : Int}, (∀ a ∈ qs, ∃ g, sets[a.toNat]? = some g) → qs.Nodup →
    neL out → inB n out → n + 67108864 * cntF ps qs ≤ 1073741824 → n ≥ 0 →
    neL (qs.foldl (valsGo ps sets) out) ∧ inB (n + 67108864 * cntF ps qs) (qs.foldl (valsGo ps sets) out) ∧
    ∀ z, mem (qs.foldl (valsGo ps sets) out) z ↔ ∃ u, ∃ f : Int → Int, mem out u ∧ (∀ a ∈ qs, symP sets a (f a)) ∧ z = u + (qs.map fun a => sumP (ofAt ps a) (f a)).sum := by
  induction qs with
  | nil =>
    intro out n _ _ h1 h2 _ _
    refine ⟨h1, by simpa [cntF] using h2, fun z => ?_⟩
    simp only [List.foldl_nil, List.map_nil, List.sum_nil, Int.add_zero]
    constructor
    · intro h; exact ⟨z, id, h, by simp, rfl⟩
    · rintro ⟨u, f, h, _, rfl⟩; exact h
  | cons a r ih =>
    intro out n hex hnd hne hn hbd hn0
    obtain ⟨g, hg⟩ := hex a (List.mem_cons_self ..)
    have hsym := hs g (List.mem_of_getElem? hg)
    have hbo : ∀ p ∈ ofAt ps a, bitsF p = true := fun p hp => hb p (ofAt_sub hp)
    have hlo : (ofAt ps a).length ≤ 4 := Nat.le_trans (ofAt_len ps a) hl
    have hcn := cntF_nonneg ps r
    have hce : cntF ps (a :: r) = (ofAt ps a).length + cntF ps r := by unfold cntF; rw [List.map_cons, List.sum_cons]
    rw [hce] at hbd ⊢
    have htm : ∀ z, mem (togF (ofAt ps a) g) z ↔ ∃ x, mem g x ∧ z = sumP (ofAt ps a) x := fun z => mem_togF hbo hlo hsym
    have hte : neL (togF (ofAt ps a) g) := plain_ne (togF_plain _ _)
    have htb : inB (67108864 * (ofAt ps a).length) (togF (ofAt ps a) g) := mem_inB hte fun z hz => by
      obtain ⟨x, _, rfl⟩ := (htm z).1 hz
      have := sumP_bd hbo x
      omega
    have hstep : ∀ z, mem (valsGo ps sets out a) z ↔ ∃ u x, mem out u ∧ mem g x ∧ z = u + sumP (ofAt ps a) x := fun z => by
      unfold valsGo
      rw [hg, Option.getD_some, mem_plusF hne hte hn htb (by omega)]
      constructor
      · rintro ⟨u, v, h1, h2, h3⟩
        obtain ⟨x, h4, rfl⟩ := (htm v).1 h2
        exact ⟨u, x, h1, h4, h3⟩
      · rintro ⟨u, x, h1, h4, h3⟩
        exact ⟨u, _, h1, (htm _).2 ⟨x, h4, rfl⟩, h3⟩
    have hne2 : neL (valsGo ps sets out a) := plain_ne (plusF_plain _ _)
    have hn2 : inB (n + 67108864 * (ofAt ps a).length) (valsGo ps sets out a) := mem_inB hne2 fun z hz => by
      obtain ⟨u, x, h1, _, rfl⟩ := (hstep z).1 hz
      have := inB_mem hn h1
      have := sumP_bd hbo x
      omega
    rw [List.nodup_cons] at hnd
    obtain ⟨i1, i2, i3⟩ := ih (out := valsGo ps sets out a) (n := n + 67108864 * (ofAt ps a).length) (fun b hb' => hex b (List.mem_cons_of_mem _ hb')) hnd.2 hne2 hn2 (by omega) (by omega)
    refine ⟨i1, fun s hs' => by have := i2 s hs'; omega, fun z => ?_⟩
    rw [List.foldl_cons, i3]
    constructor
    · rintro ⟨u, f, h1, h2, rfl⟩
      obtain ⟨u', x, h3, h4, rfl⟩ := (hstep u).1 h1
      refine ⟨u', fun b => if b = a then x else f b, h3, fun b hb' => ?_, ?_⟩
      · by_cases hba : b = a
        · subst hba; simp only [if_true]; exact ⟨g, hg, h4⟩
        · simp only [hba, if_false]; exact h2 b ((List.mem_cons.1 hb').resolve_left hba)
      · have h5 : (r.map fun b => sumP (ofAt ps b) (if b = a then x else f b)) = r.map fun b => sumP (ofAt ps b) (f b) := by
          refine List.map_congr_left fun b hb' => ?_
          have : b ≠ a := by rintro rfl; exact hnd.1 hb'
          rw [if_neg this]
        rw [List.map_cons, List.sum_cons]
        simp only [if_true, h5]
        omega
    · rintro ⟨u, f, h1, h2, rfl⟩
      obtain ⟨g', hg', hx⟩ := h2 a (List.mem_cons_self ..)
      rw [hg] at hg'
      cases hg'
      refine ⟨u + sumP (ofAt ps a) (f a), f, (hstep _).2 ⟨u, f a, h1, hx, rfl⟩, fun b hb' => h2 b (List.mem_cons_of_mem _ hb'), ?_⟩
      rw [List.map_cons, List.sum_cons]
      omega
theorem mem_valuesF {t : Term} {sets : List (List Span)} (hb : ∀ p ∈ t.parts, bitsF p = true ∧ 0 ≤ p.at_ ∧ p.at_ < sets.length) (hl : t.parts.length ≤ 4) (hs : ∀ g ∈ sets, symS g) (ht : -1114111 ≤ t.sum ∧ t.sum ≤ 1114111) {z : Int} :
    mem (valuesF t sets) z ↔ innerP t sets z := by
  have hcnt : cntF t.parts (placesF t.parts) = t.parts.length := cntF_all (places_nodup _) fun p hp => mem_placesF.2 ⟨p, hp, rfl⟩
  obtain ⟨h1, h2, h3⟩ := vals_fold (ps := t.parts) (sets := sets) (fun p hp => (hb p hp).1) hl hs (qs := placesF t.parts) (out := [⟨t.sum, t.sum⟩]) (n := 1114111) (fun a ha => by
    obtain ⟨p, hp, rfl⟩ := mem_placesF.1 ha
    have := hb p hp
    exact ⟨sets[p.at_.toNat]'(by omega), List.getElem?_eq_getElem (by omega)⟩) (places_nodup _)
    (fun s hs => by simp at hs; subst hs; exact Int.le_refl _) (fun s hs => by simp at hs; subst hs; exact ht) (by omega) (by decide)
  rw [valuesF, h3]
  have hsum : ∀ f : Int → Int, ((placesF t.parts).map fun a => sumP (ofAt t.parts a) (f a)).sum = sumV t.parts f := fun f => sum_places (places_nodup _) (fun p hp => mem_placesF.2 ⟨p, hp, rfl⟩) f
  constructor
  · rintro ⟨u, f, hu, hf, rfl⟩
    have : u = t.sum := by simp [mem] at hu; omega
    subst this
    exact ⟨f, fun p hp => hf _ (mem_placesF.2 ⟨p, hp, rfl⟩), by rw [hsum]⟩
  · rintro ⟨f, hf, rfl⟩
    refine ⟨t.sum, f, by simp [mem], fun a ha => ?_, by rw [hsum]⟩
    obtain ⟨p, hp, rfl⟩ := mem_placesF.1 ha
    exact hf p hp
end Go.Um
namespace Go.Um

/-- a set, moved. -/
def addN (b : Int) (s : Span) : Span := ⟨s.lo + b, s.hi + b⟩
def moveF (l : List Span) (b : Int) : List Span := if b < -2147483648 ∨ 2147483648 < b then [] else normF ((normF l).map (addN b))
theorem moveF_plain (l : List Span) (b : Int) : plain (moveF l b) = true := by
  unfold moveF; split
  · rfl
  · exact normF_plain _
theorem mem_mapAddN {l : List Span} {b z : Int} : mem (l.map (addN b)) z ↔ mem l (z - b) := by
  unfold mem
  constructor
  · rintro ⟨s, hs, h1, h2⟩
    obtain ⟨t, ht, rfl⟩ := List.mem_map.1 hs
    simp only [addN] at h1 h2
    exact ⟨t, ht, by omega, by omega⟩
  · rintro ⟨t, ht, h1, h2⟩
    exact ⟨_, List.mem_map.2 ⟨t, ht, rfl⟩, by simp only [addN]; omega, by simp only [addN]; omega⟩
theorem mem_moveF {l : List Span} {b : Int} (hb : -2147483648 ≤ b ∧ b ≤ 2147483648) {z : Int} : mem (moveF l b) z ↔ (-1073741824 ≤ z ∧ z ≤ 1073741824) ∧ inSet l (z - b) := by
  unfold moveF
  rw [if_neg (by omega), mem_normF, inSet, mem_mapAddN, mem_normF]

/-! ### The least and the greatest -/
def headLo (l : List Span) : Int := match l with | s :: _ => s.lo | [] => 0
def lastHi (l : List Span) : Int := match l.getLast? with | some s => s.hi | none => 0
theorem headLo_le {last : Int} {l : List Span} (h : plainFrom last l = true) {z : Int} (hz : mem l z) : headLo l ≤ z := by
  cases l with
  | nil => exact absurd hz mem_nil
  | cons s r =>
    obtain ⟨h1, h2⟩ := plainFrom_cons.1 h
    show s.lo ≤ z
    rcases mem_cons.1 hz with h3 | h3
    · exact h3.1
    · have := plainFrom_bound h2 h3; omega
theorem lastHi_cons (s t : Span) (r : List Span) : lastHi (s :: t :: r) = lastHi (t :: r) := by simp [lastHi, List.getLast?_cons_cons]
theorem lastHi_ge {last : Int} {l : List Span} (h : plainFrom last l = true) {z : Int} (hz : mem l z) : z ≤ lastHi l := by
  induction l generalizing last z with
  | nil => exact absurd hz mem_nil
  | cons s r ih =>
    obtain ⟨h1, h2⟩ := plainFrom_cons.1 h
    cases r with
    | nil =>
      rcases mem_cons.1 hz with h3 | h3
      · simpa [lastHi] using h3.2
      · exact absurd h3 mem_nil
    | cons t u =>
      rw [lastHi_cons]
      rcases mem_cons.1 hz with h3 | h3
      · have h4 := ih h2 (z := t.lo) (mem_cons.2 (.inl ⟨Int.le_refl _, (plainFrom_cons.1 h2).1.1⟩))
        have := (plainFrom_cons.1 h2).1.2.2.2
        omega
      · exact ih h2 h3
theorem headLo_mem {l : List Span} (h : plain l = true) (hn : l ≠ []) : mem l (headLo l) := by
  cases l with
  | nil => exact absurd rfl hn
  | cons s r => exact mem_cons.2 (.inl ⟨Int.le_refl _, plain_ne h s (List.mem_cons_self ..)⟩)
theorem lastHi_mem {l : List Span} (h : plain l = true) (hn : l ≠ []) : mem l (lastHi l) := by
  cases hq : l.getLast? with
  | none => simp at hq; exact absurd hq hn
  | some s =>
    have hs := List.mem_of_getLast? hq
    unfold lastHi
    rw [hq]
    exact ⟨s, hs, plain_ne h s hs, Int.le_refl _⟩
/-- are there inner values, and all of them symbols? -/
def okV (l : List Span) : Bool := !l.isEmpty && decide (0 ≤ headLo l) && decide (lastHi l ≤ 1114111)
theorem okV_iff {l : List Span} (h : plain l = true) : okV l = true ↔ l ≠ [] ∧ ∀ z, mem l z → 0 ≤ z ∧ z ≤ 1114111 := by
  unfold okV
  simp only [Bool.and_eq_true, Bool.not_eq_true', List.isEmpty_eq_false_iff, decide_eq_true_eq]
  constructor
  · rintro ⟨⟨h1, h2⟩, h3⟩
    refine ⟨h1, fun z hz => ?_⟩
    have := headLo_le h hz
    have := lastHi_ge h hz
    omega
  · rintro ⟨h1, h2⟩
    exact ⟨⟨h1, (h2 _ (headLo_mem h h1)).1⟩, (h2 _ (lastHi_mem h h1)).2⟩

/-! ### What a term must be -/
def outerT (t : Term) : Part := ⟨0, t.drop, t.take, t.up⟩
def smallN (x : Int) : Bool := decide (-1114111 ≤ x) && decide (x ≤ 1114111)
theorem smallN_iff {x : Int} : smallN x = true ↔ -1114111 ≤ x ∧ x ≤ 1114111 := by simp [smallN]
def wholeP (a : Int) : Part := ⟨a, 0, 21, 0⟩
def plainT (t : Term) : Bool := decide (t.base = 0 ∧ t.drop = 0 ∧ t.take = 21 ∧ t.up = 0)
def risesP (u : Int) : List Part → Bool
  | [] => true
  | p :: r => decide (u < p.up) && risesP p.up r
def risingP : List Part → Bool
  | [] => true
  | p :: r => risesP p.up r
def numbersF (t : Term) : Bool := smallN t.base && smallN t.sum && bitsF (outerT t) && risingP t.parts && decide (t.parts.length ≤ 4)
def rightP (p : Part) (n : Int) : Bool := decide (0 ≤ p.at_) && decide (p.at_ < n) && bitsF p
theorem rightP_iff {p : Part} {n : Int} : rightP p n = true ↔ 0 ≤ p.at_ ∧ p.at_ < n ∧ bitsF p = true := by simp [rightP, and_assoc]
def sortF (s : Int) : Bool := decide (s = 1 ∨ s = 2)
def rightF (t : Term) (inn out : Int) (n : Int) : Bool :=
  sortF inn && sortF out && numbersF t && t.parts.all (fun p => rightP p n && decide (inn = 2 → p = wholeP p.at_)) && decide (inn = 2 → t.parts.length ≤ 1) && decide (out = 2 → plainT t = true)
theorem numbersF_iff {t : Term} : numbersF t = true ↔ smallN t.base = true ∧ smallN t.sum = true ∧ bitsF (outerT t) = true ∧ risingP t.parts = true ∧ t.parts.length ≤ 4 := by
  simp [numbersF, and_assoc]
theorem rightF_iff {t : Term} {inn out n : Int} : rightF t inn out n = true ↔ (inn = 1 ∨ inn = 2) ∧ (out = 1 ∨ out = 2) ∧ numbersF t = true ∧ (∀ p ∈ t.parts, rightP p n = true ∧ (inn = 2 → p = wholeP p.at_)) ∧ (inn = 2 → t.parts.length ≤ 1) ∧ (out = 2 → plainT t = true) := by
  simp only [rightF, sortF, Bool.and_eq_true, decide_eq_true_eq, List.all_eq_true, and_assoc]

/-! ### Does a term fit? -/
def symL : List Span := [⟨0, 1114111⟩]
theorem inSet_symL {x : Int} : inSet symL x ↔ 0 ≤ x ∧ x ≤ 1114111 := by
  simp only [inSet, symL, mem, List.mem_singleton, exists_eq_left]; omega
theorem meetF_sym {g : List Span} (hp : plain g = true) (hs : symS g) : meetF g symL = g :=
  plain_unique (meetF_plain _ _) hp fun x => by
    rw [mem_meetF, inSet_symL, inSet_plain hp]
    constructor
    · exact fun h => h.1
    · exact fun h => ⟨h, hs x h⟩
/-- guards that have something, all of it symbols. -/
def goodG (gs : List (List Span)) : Prop := gs.length ≤ 4 ∧ ∀ g ∈ gs, plain g = true ∧ symS g ∧ g ≠ []
/-- the term's value of all windows. -/
def imageT (t : Term) (gs : List (List Span)) : List Span := moveF (imgF (outerT t) (valuesF t gs)) t.base
def fitsG (t : Term) (dom : List Span) (gs : List (List Span)) : Bool := okV (valuesF t gs) && (minusF (imageT t gs) dom).isEmpty
theorem valuesF_plain (t : Term) (gs : List (List Span)) : plain (valuesF t gs) = true ∨ valuesF t gs = [⟨t.sum, t.sum⟩] := by
  unfold valuesF
  rcases List.eq_nil_or_concat (placesF t.parts) with h | ⟨l, a, h⟩
  · rw [h]; exact .inr rfl
  · rw [h, List.concat_eq_append, List.foldl_append]
    exact .inl (plusF_plain _ _)
theorem valuesF_plain' {t : Term} (h : smallN t.sum = true) (gs : List (List Span)) : plain (valuesF t gs) = true := by
  rcases valuesF_plain t gs with h1 | h1
  · exact h1
  · rw [h1]
    have := smallN_iff.1 h
    exact plainFrom_cons.2 ⟨by simp only; omega, rfl⟩
theorem innerP_some {t : Term} {gs : List (List Span)} (hg : goodG gs) (hr : ∀ p ∈ t.parts, rightP p gs.length = true) : ∃ z, innerP t gs z := by
  refine ⟨t.sum + sumV t.parts fun a => match gs[a.toNat]? with | some g => headLo g | none => 0, _, fun p hp => ?_, rfl⟩
  have h1 := rightP_iff.1 (hr p hp)
  have h2 : p.at_.toNat < gs.length := by omega
  have h3 := hg.2 gs[p.at_.toNat] (List.getElem_mem h2)
  refine ⟨gs[p.at_.toNat], List.getElem?_eq_getElem h2, ?_⟩
  rw [List.getElem?_eq_getElem h2]
  exact headLo_mem h3.1 h3.2.2
/-- each window's value is in the set. -/
def fitsP (t : Term) (dom : List Span) (gs : List (List Span)) : Prop := ∀ z, innerP t gs z → (0 ≤ z ∧ z ≤ 1114111) ∧ mem dom (t.base + valF (outerT t) z)
theorem fitsG_iff {t : Term} {dom : List Span} {gs : List (List Span)} (hn : numbersF t = true) (hr : ∀ p ∈ t.parts, rightP p gs.length = true) (hg : goodG gs) (hd : plain dom = true) : fitsG t dom gs = true ↔ fitsP t dom gs := by
  obtain ⟨n1, n2, n3, n4, n5⟩ := numbersF_iff.1 hn
  have hv : ∀ z, mem (valuesF t gs) z ↔ innerP t gs z := fun z => mem_valuesF (fun p hp => by
    have := rightP_iff.1 (hr p hp)
    exact ⟨this.2.2, this.1, this.2.1⟩) n5 (fun g hgm => (hg.2 g hgm).2.1) (smallN_iff.1 n2)
  have hpl := valuesF_plain' n2 gs
  have hb := smallN_iff.1 n1
  obtain ⟨z0, hz0⟩ := innerP_some (t := t) hg hr
  have hne : valuesF t gs ≠ [] := by
    intro h
    have := (hv z0).2 hz0
    rw [h] at this
    exact mem_nil this
  unfold fitsG
  rw [Bool.and_eq_true, okV_iff hpl, List.isEmpty_iff, minusF_nil]
  have himg : (∀ z, innerP t gs z → 0 ≤ z ∧ z ≤ 1114111) → ∀ z, inSet (imageT t gs) z ↔ ∃ x, innerP t gs x ∧ z = t.base + valF (outerT t) x := by
    intro hall z
    unfold imageT
    rw [inSet_plain (moveF_plain _ _), mem_moveF (by omega), inSet_plain (imgF_plain _ _), mem_imgF n3]
    constructor
    · rintro ⟨_, x, ⟨h1, _⟩, h2⟩
      exact ⟨x, (hv x).1 h1.2, by omega⟩
    · rintro ⟨x, h1, rfl⟩
      have h2 := hall x h1
      have h3 := valF_nonneg (outerT t) x
      have h4 := valF_le n3 x
      exact ⟨by omega, x, ⟨⟨by omega, (hv x).2 h1⟩, by omega, by omega⟩, by omega⟩
  constructor
  · rintro ⟨⟨_, h1⟩, h2⟩ z hz
    have hall : ∀ z, innerP t gs z → 0 ≤ z ∧ z ≤ 1114111 := fun z hz => h1 z ((hv z).2 hz)
    refine ⟨hall z hz, ?_⟩
    exact (inSet_plain hd).1 (h2 _ ((himg hall _).2 ⟨z, hz, rfl⟩))
  · intro h
    have hall : ∀ z, innerP t gs z → 0 ≤ z ∧ z ≤ 1114111 := fun z hz => (h z hz).1
    refine ⟨⟨hne, fun z hz => hall z ((hv z).1 hz)⟩, fun z hz => ?_⟩
    obtain ⟨x, h1, rfl⟩ := (himg hall z).1 hz
    exact (inSet_plain hd).2 (h x h1).2
end Go.Um
namespace Go.Um

/-! ### The outer values of a span, one behind the other -/
/-! ### Sums of two lists -/
def Sums (a b : List Int) (ok : Bool) (l : List Int) : Prop := if (∀ x ∈ a, ∀ y ∈ b, x + y ≤ 1114111) then ok = true ∧ Rising l ∧ ∀ z, z ∈ l ↔ ∃ x ∈ a, ∃ y ∈ b, z = x + y else ok = false

/-! ### The inner values, place by place -/
/-! ### What comes out -/
end Go.Um
namespace Go.Um
end Go.Um
namespace Go.Um
/-! ### Numbers as a set -/
/-! ### Sums of two lists, one by one -/
end Go.Um
namespace Go.Um
def BRow (w : World) (G : Nat) (te : TypeId) (bs : List Bool) : Prop := w.heap[G]? = some (.cells (bs.map Value.bool).toArray te (0, 0))
theorem BRow.at {w : World} {G : Nat} {te : TypeId} {bs : List Bool} (h : BRow w G te bs) {t : Nat} {b : Bool} (ht : bs[t]? = some b) : w.cell? ⟨G, t, none⟩ = some (.bool b) ∧ w.frozen? ⟨G, t, none⟩ = false := by
  refine ⟨?_, frozen_of_row _ _ _ _ _ h⟩
  rw [cell_of_row _ _ _ _ _ _ h]
  simp [ht]
theorem BRow.put {w : World} {G : Nat} {te : TypeId} {bs : List Bool} (h : BRow w G te bs) (t : Nat) (b : Bool) : BRow (w.setCell ⟨G, t, none⟩ (.bool b)) G te (bs.set t b) := by
  unfold BRow at h ⊢
  rw [heap_setCell_same w G t _ te _ h]
  congr 2
  apply Array.ext'
  simp [List.map_set]
theorem BRow.carry {w w' : World} {G : Nat} {te : TypeId} {bs : List Bool} (h : BRow w G te bs) (hb : w'.heap[G]? = w.heap[G]?) : BRow w' G te bs := hb.trans h
end Go.Um
namespace Go.Um
/-- a sum of parts, one more part. -/
theorem ofAt_snoc {ps : List Part} {a : Int} {i : Nat} {p : Part} (h : ps[i]? = some p) : ofAt (ps.take (i + 1)) a = if p.at_ = a then ofAt (ps.take i) a ++ [p] else ofAt (ps.take i) a := by
  have : ps.take (i + 1) = ps.take i ++ [p] := by rw [List.take_add_one, h]; rfl
  rw [this]
  unfold ofAt
  rw [List.filter_append]
  by_cases hp : p.at_ = a
  · rw [if_pos hp]; simp [hp]
  · rw [if_neg hp]; simp [hp]
end Go.Um
namespace Go.Um
open Go.RowKit Go.Maps Go.ChangeShapes

def valEl (v : Value) : Option (DataW Value × List MemPlace) := some (.held v, [])
/-- block b is a map of at most n entries: at each key the value that F says. -/
def VMap (P : Program) (w : World) (k : TypeId) (b n : Nat) (F : Int → Value) : Prop :=
  ∃ D : DataW Value, w.ownsMap P k valEl b n D ∧ IsMap D ∧ ∀ s : Int, D.atKey (.int .i64 s) (.held (.slice none 0 0)) = .held (F s)

variable {P : Program} {w w' : World} {k t E : TypeId} {b n : Nat} {F : Int → Value} {s : Int}
theorem VMap.made (w : World) : VMap P (w.alloc (.map #[] 0)) k w.heap.size 0 (fun _ => .slice none 0 0) :=
  ⟨.map [], World.ownsMap_made w P k valEl, ⟨[], rfl⟩, fun _ => rfl⟩
theorem VMap.kept {row : Option Nat} (h : VMap P w k b n F) (hg : w.grownBy w' row) (hne : some b ≠ row) : VMap P w' k b n F := by
  obtain ⟨D, h1, h2, h3⟩ := h
  exact ⟨D, h1.kept hg hne, h2, h3⟩
theorem VMap.alloc (h : VMap P w k b n F) (o : Obj) : VMap P (w.alloc o) k b n F := h.kept (World.grownBy_alloc _ _ none) (by simp)
theorem VMap.drew (h : VMap P w k b n F) : VMap P w.drew k b n F := h
theorem VMap.lt (h : VMap P w k b n F) : b < w.heap.size := by obtain ⟨D, h1, _⟩ := h; exact h1.lt
theorem VMap.held (h : VMap P w k b n F) (hw : w'.heap[b]? = w.heap[b]?) : VMap P w' k b n F := by
  obtain ⟨D, ⟨es, clock, hb, q1, q2, q3⟩, h2, h3⟩ := h
  exact ⟨D, ⟨es, clock, hw.trans hb, q1, q2, q3⟩, h2, h3⟩
theorem VMap.lookup (h : VMap P w k b n F) (K : Keyed P k) (ht : P.underlying t = some (.map k E)) (hz : (zeroValue E).run P w = .ok (.slice none 0 0) w) (hkey : keyOf P k (.int .i64 s) = some (.int .i64 s)) :
    (Instr.lookup t (.map (some b)) (.int .i64 s) false).run P w = .ok (F s) w := by
  obtain ⟨D, h1, h2, h3⟩ := h
  obtain ⟨v, ps, hr, hv⟩ := h1.lookup K ht hz (zd := .held (.slice none 0 0)) (zp := []) rfl hkey
  rw [h3] at hv
  unfold valEl at hv
  simp only [Option.some.injEq, Prod.mk.injEq, DataW.held.injEq] at hv
  rw [hr, hv.1]
theorem VMap.update (h : VMap P w k b n F) (K : Keyed P k) (ht : P.underlying t = some (.map k E)) (hn : n < maxLen) (hkey : keyOf P k (.int .i64 s) = some (.int .i64 s)) (v : Value) :
    ∃ w', (Instr.mapUpdate t (.map (some b)) (.int .i64 s) v).run P w = .ok () w' ∧ VMap P w' k b (n + 1) (fun r => if r = s then v else F r) ∧ w.grownBy w' (some b) := by
  obtain ⟨D, h1, h2, h3⟩ := h
  obtain ⟨w', hr, h4, h5⟩ := h1.update K ht hn (val := v) (d := .held v) (ps := []) hkey rfl
  refine ⟨w', hr, ⟨_, h4, h2.put _ _, fun r => ?_⟩, h5⟩
  by_cases hr' : r = s
  · subst hr'
    rw [atKey_put_same h2 (show WideAt.IsKeyLit (.int .i64 r) from trivial)]
    simp
  · rw [atKey_put_other (by simpa using hr'), h3]
    simp [hr']
end Go.Um
namespace Go.Um
end Go.Um
namespace Go.Um
open Go.RowKit Go.ChangeShapes Go.WideShapes Go.Deep

section
variable {H : Type} {enc : TypeId × Value → H} {P : Program} {w : World} {base : Nat} {spare : Nat → Bool} {held : Bool}
theorem open_rep {α : Type} {r : RepOf α} {t e : TypeId} {fuel : Nat} {cs : List Value} {x : DataW H × List MemPlace} (ht : P.underlying t = some (.slice e)) (hC : P.cellsOf e = r.width) (hw : 0 < r.width)
    (hel : ∀ fuel cs x, DataW.trod enc P w base spare held fuel e cs = some x → ∃ y, r.rel w (upto w.heap.size) cs y)
    (h : DataW.trod enc P w base spare held fuel t cs = some x) : ∃ ys, (listR r).rel w (upto w.heap.size) cs ys := by
  rcases open_slice ht h with ⟨rfl, _⟩ | ⟨a, len, cap, m, n, D, Pl, rfl, hb, hl, hm, hmm, hx, hi⟩
  · exact ⟨[], list_nil r _ _⟩
  · have hlm : len ≤ m := by rw [hmm]; split <;> omega
    have hall : ∀ k, k ≤ len → ∃ ys : List α, ys.length = k ∧ ∀ (i : Nat) (y : α), ys[i]? = some y → ∃ ds, r.rel w (upto w.heap.size) ds y ∧ ∀ (j : Nat) (v : Value), ds[j]? = some v → w.cell? (a.add (i * r.width + j)) = some v := by
      intro k
      induction k with
      | zero => exact fun _ => ⟨[], rfl, fun i y hy => by simp at hy⟩
      | succ k ih =>
        intro hk
        obtain ⟨ys, hyl, hys⟩ := ih (by omega)
        obtain ⟨cs', hc, ht'⟩ := hi k (by omega)
        obtain ⟨y, hy⟩ := hel _ _ _ ht'
        rw [hC] at hc
        obtain ⟨_, hcl, hat⟩ := World.cells?_some hc
        refine ⟨ys ++ [y], by simp [hyl], fun i z hz => ?_⟩
        rcases Nat.lt_or_ge i ys.length with h1 | h1
        · rw [List.getElem?_append_left h1] at hz
          exact hys i z hz
        · rw [List.getElem?_append_right h1] at hz
          have : i = k := by
            have := (List.getElem?_eq_some_iff.1 hz).1
            simp at this
            omega
          subst this
          rw [hyl, Nat.sub_self] at hz
          simp at hz
          subst hz
          refine ⟨cs', hy, fun j v hv => ?_⟩
          have hj := (List.getElem?_eq_some_iff.1 hv).1
          rw [← Go.Deep.add_add, hat j (by omega), hv]
    obtain ⟨ys, hyl, hys⟩ := hall len (Nat.le_refl _)
    refine ⟨ys, some a, len, cap, rfl, hyl.symm, hl, hm, ?_⟩
    rcases Nat.eq_zero_or_pos len with h0 | h0
    · exact .inl h0
    · right
      obtain ⟨y, hy⟩ := at_lt (xs := ys) (i := 0) (by omega)
      obtain ⟨ds, hr, hd⟩ := hys 0 y hy
      have hdl := r.len hr
      have hc0 := hd 0 (ds[0]'(by omega)) (List.getElem?_eq_getElem (by omega))
      obtain ⟨b, o, spot⟩ := a
      have hspot : spot = none := by simpa [Addr.add] using World.cell?_spot hc0
      subst hspot
      have hadd : ∀ k, (⟨b, o, none⟩ : Addr).add k = ⟨b, o + k, none⟩ := fun k => by unfold Addr.add; split <;> simp_all
      refine ⟨b, o, rfl, ?_, fun i z hz => ?_⟩
      · have h1 : w.cell? ⟨b, o + (0 * r.width + 0), none⟩ = some (ds[0]'(by omega)) := by rw [← hadd]; exact hc0
        exact block_lt_of_cell h1
      · obtain ⟨ds, hr, hd⟩ := hys i z hz
        refine ⟨ds, hr, fun j v hv => ?_⟩
        have := hd j v hv
        rw [hadd] at this
        rw [Nat.add_assoc]
        exact this
end
end Go.Um
