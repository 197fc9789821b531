/-
  Words for memory: how cells read as plain data, and what keeps such a reading. No program is named here. Sets of numbers as lists of spans: the plain list of a set is unlike that of any other set. No program is named here. Sets of numbers as lists of spans: what two have in common, what one has alone. No program is named here. A row of spans of the call's own, sorted by the library: the glue between the kit's words for the sort and ours. No program is named here. A row of spans that is read and written over at once, from its beginning on: what Norm's last loop keeps. No program is named here. A region that draws its order: whatever yields the same in every world of a class is taken first, many at a time, in an order of one's own; what acts is then alone. No program is named here.
-/
import Derived.WalkKit
import Derived.WalkSpells
import Derived.WalkLawsBesides
import Derived.Deep.QuietTactic
import Derived.BigQuiet
import Derived.Deep.RegionHeld3
import Derived.Shelf.SlSortCmp.WholeK
namespace Go.Um
open Go.RowKit

/-- a number of Go's int. -/
def I64 (x : Int) : Prop := -9223372036854775808 ≤ x ∧ x ≤ 9223372036854775807
theorem I64.lo {x : Int} (h : I64 x) : -9223372036854775808 ≤ x := h.1
theorem I64.hi {x : Int} (h : I64 x) : x ≤ 9223372036854775807 := h.2
theorem I64.of {x : Int} (h : -1000000000000000000 ≤ x) (h' : x ≤ 1000000000000000000) : I64 x := ⟨by omega, by omega⟩

/-- How so many cells read as one thing; the blocks that are reached lie in S. -/
structure RepOf (α : Type) where
  width : Nat
  rel : World → (Nat → Prop) → List Value → α → Prop
  len : ∀ {w : World} {S : Nat → Prop} {cs : List Value} {x : α}, rel w S cs x → cs.length = width
  mono : ∀ {w w' : World} {S S' : Nat → Prop} {cs : List Value} {x : α}, (∀ p : Addr, S p.block → w'.cell? p = w.cell? p) → (∀ b, S b → S' b) → rel w S cs x → rel w' S' cs x

/-- one int. -/
def intR : RepOf Int where
  width := 1
  rel := fun _ _ cs x => cs = [.int .i64 x] ∧ I64 x
  len := by rintro w S cs x ⟨rfl, _⟩; rfl
  mono := by intro w w' S S' cs x _ _ h; exact h

/-- a bool. -/
def boolR : RepOf Bool where
  width := 1
  rel := fun _ _ cs x => cs = [.bool x]
  len := by rintro w S cs x rfl; rfl
  mono := by intro w w' S S' cs x _ _ h; exact h

/-- so many elements from a place on, each by its own cells. -/
def rowAt {α : Type} (r : RepOf α) (w : World) (S : Nat → Prop) (b o : Nat) (xs : List α) : Prop :=
  ∀ (i : Nat) (x : α), xs[i]? = some x → ∃ ds, r.rel w S ds x ∧ ∀ (j : Nat) (v : Value), ds[j]? = some v → w.cell? ⟨b, o + i * r.width + j, none⟩ = some v

/-- a slice that reads as a list; nil let in. -/
def listRel {α : Type} (r : RepOf α) (w : World) (S : Nat → Prop) (cs : List Value) (xs : List α) : Prop :=
  ∃ A n cap, cs = [.slice A n cap] ∧ n = xs.length ∧ n ≤ cap ∧ cap ≤ maxLen ∧ (n = 0 ∨ ∃ b o, A = some ⟨b, o, none⟩ ∧ S b ∧ rowAt r w S b o xs)

theorem rowAt_mono {α : Type} {r : RepOf α} {w w' : World} {S S' : Nat → Prop} {b o : Nat} {xs : List α} (hw : ∀ p : Addr, S p.block → w'.cell? p = w.cell? p) (hS : ∀ b, S b → S' b)
    (hb : S b) (h : rowAt r w S b o xs) : rowAt r w' S' b o xs := fun i x hx => by
  obtain ⟨ds, h1, h2⟩ := h i x hx
  exact ⟨ds, r.mono hw hS h1, fun j v hv => (hw _ hb).trans (h2 j v hv)⟩

def listR {α : Type} (r : RepOf α) : RepOf (List α) where
  width := 1
  rel := listRel r
  len := by rintro w S cs x ⟨A, n, cap, rfl, _⟩; rfl
  mono := by
    rintro w w' S S' cs x hw hS ⟨A, n, cap, h1, h2, h3, h4, h5⟩
    refine ⟨A, n, cap, h1, h2, h3, h4, ?_⟩
    rcases h5 with h5 | ⟨b, o, h5, h6, h7⟩
    · exact .inl h5
    · exact .inr ⟨b, o, h5, hS b h6, rowAt_mono hw hS h6 h7⟩

/-- All blocks that are there. -/
abbrev upto (B : Nat) : Nat → Prop := fun b => b < B

theorem below_cells {B : Nat} {w w' : World} (hb : Below B w w') : ∀ p : Addr, upto B p.block → w'.cell? p = w.cell? p := fun _ hp => hb.cell hp

theorem RepOf.below {α : Type} (r : RepOf α) {B B' : Nat} {w w' : World} {cs : List Value} {x : α} (h : r.rel w (upto B) cs x) (hb : Below B w w') (hB : B ≤ B') : r.rel w' (upto B') cs x :=
  r.mono (below_cells hb) (fun _ h => Nat.lt_of_lt_of_le h hB) h

theorem RepOf.later {α : Type} (r : RepOf α) {w w' : World} {cs : List Value} {x : α} (h : r.rel w (upto w.heap.size) cs x) (hb : Below w.heap.size w w') : r.rel w' (upto w'.heap.size) cs x :=
  r.below h hb hb.size

/-- a slice's shape. -/
theorem list_form {α : Type} {r : RepOf α} {w : World} {S : Nat → Prop} {v : Value} {xs : List α} (h : (listR r).rel w S [v] xs) :
    ∃ A cap, v = .slice A xs.length cap ∧ xs.length ≤ cap ∧ cap ≤ maxLen := by
  obtain ⟨A, n, cap, h1, h2, h3, h4, _⟩ := h
  simp at h1
  subst h2
  exact ⟨A, cap, h1, h3, h4⟩

theorem list_len {α : Type} {r : RepOf α} {w : World} {S : Nat → Prop} {A : Option Addr} {n cap : Nat} {xs : List α} (h : (listR r).rel w S [.slice A n cap] xs) : n = xs.length ∧ n ≤ cap ∧ cap ≤ maxLen := by
  obtain ⟨A, n', cap, h1, h2, h3, h4, _⟩ := h
  simp at h1
  obtain ⟨rfl, rfl, rfl⟩ := h1
  exact ⟨h2, h3, h4⟩

/-- an element, by its place. -/
theorem list_at {α : Type} {r : RepOf α} {w : World} {S : Nat → Prop} {A : Option Addr} {n cap : Nat} {xs : List α} (h : (listR r).rel w S [.slice A n cap] xs) {i : Nat} {x : α} (hx : xs[i]? = some x) :
    ∃ b o ds, A = some ⟨b, o, none⟩ ∧ S b ∧ r.rel w S ds x ∧ ∀ (j : Nat) (v : Value), ds[j]? = some v → w.cell? ⟨b, o + i * r.width + j, none⟩ = some v := by
  obtain ⟨A, n', cap, h1, h2, h3, h4, h5⟩ := h
  simp at h1
  obtain ⟨rfl, rfl, rfl⟩ := h1
  rcases h5 with h5 | ⟨b, o, h5, h6, h7⟩
  · have : xs = [] := List.eq_nil_of_length_eq_zero (by omega)
    subst this
    simp at hx
  · obtain ⟨ds, h8, h9⟩ := h7 i x hx
    exact ⟨b, o, ds, h5, h6, h8, h9⟩

/-- an element of one cell. -/
theorem list_at1 {α : Type} {r : RepOf α} (hr : r.width = 1) {w : World} {S : Nat → Prop} {A : Option Addr} {n cap : Nat} {xs : List α} (h : (listR r).rel w S [.slice A n cap] xs) {i : Nat} {x : α} (hx : xs[i]? = some x) :
    ∃ b o v, A = some ⟨b, o, none⟩ ∧ S b ∧ r.rel w S [v] x ∧ w.cell? ⟨b, o + i, none⟩ = some v := by
  obtain ⟨b, o, ds, h1, h2, h3, h4⟩ := list_at h hx
  have hl := r.len h3
  rw [hr] at hl h4
  match ds, hl with
  | [v], _ => exact ⟨b, o, v, h1, h2, h3, by simpa using h4 0 v rfl⟩

/-- a slice's own shape, with its row's address where there is something. -/
theorem list_open {α : Type} {r : RepOf α} {w : World} {S : Nat → Prop} {v : Value} {xs : List α} (h : (listR r).rel w S [v] xs) :
    ∃ A n cap, v = .slice A n cap ∧ n = xs.length ∧ n ≤ cap ∧ cap ≤ maxLen ∧ (n = 0 ∨ ∃ b o, A = some ⟨b, o, none⟩ ∧ S b ∧ rowAt r w S b o xs) := by
  obtain ⟨A, n, cap, h1, h2⟩ := h
  simp at h1
  exact ⟨A, n, cap, h1, h2⟩

/-- nil. -/
theorem list_nil {α : Type} (r : RepOf α) (w : World) (S : Nat → Prop) : (listR r).rel w S [.slice none 0 0] [] := ⟨none, 0, 0, rfl, rfl, Nat.le_refl _, Nat.zero_le _, .inl rfl⟩

/-- what is left of a slice behind its first so many. -/
theorem list_cut {α : Type} {r : RepOf α} {w : World} {S : Nat → Prop} {A : Option Addr} {n cap k : Nat} {xs : List α} (h : (listR r).rel w S [.slice A n cap] xs) (hk : k ≤ n) :
    (listR r).rel w S [.slice (if cap = k then A else A.map (·.add (k * r.width))) (n - k) (cap - k)] (xs.drop k) := by
  obtain ⟨A, n', cap, h1, h2, h3, h4, h5⟩ := h
  simp at h1
  obtain ⟨rfl, rfl, rfl⟩ := h1
  refine ⟨_, _, _, rfl, by rw [List.length_drop, h2], by omega, by omega, ?_⟩
  by_cases hn : n - k = 0
  · exact .inl hn
  · right
    rcases h5 with h5 | ⟨b, o, rfl, h6, h7⟩
    · omega
    · rw [if_neg (by omega)]
      refine ⟨b, o + k * r.width, ?_, h6, fun i x hx => ?_⟩
      · simp only [Option.map_some, Addr.add]
        split
        · rename_i h0; rw [h0]; simp
        · rfl
      · obtain ⟨ds, h8, h9⟩ := h7 (k + i) x (by rw [← hx, List.getElem?_drop])
        refine ⟨ds, h8, fun j v hv => ?_⟩
        rw [show o + k * r.width + i * r.width + j = o + (k + i) * r.width + j by rw [Nat.add_mul]; omega]
        exact h9 j v hv

/-- a row that the call owns reads as a list, whose elements need no memory. -/
theorem own_list {α : Type} {r : RepOf α} {enc : α → List Value} {w : World} {S : Nat → Prop} {base : Nat} {e : TypeId} {v : Value} {xs : List α} (h : w.ownsRow base e r.width v xs.length (xs.flatMap enc))
    (hS : ∀ g, v.ownBlock = some g → S g) (hx : ∀ x ∈ xs, (enc x).length = r.width ∧ r.rel w S (enc x) x) : (listR r).rel w S [v] xs := by
  rcases h.2 with ⟨rfl, hn⟩ | ⟨g, cap, cur, rfl, hb, hg, hnc, hcm, hcs, htake⟩
  · have : xs = [] := List.eq_nil_of_length_eq_zero hn
    subst this
    exact list_nil r w S
  · refine ⟨_, _, _, rfl, rfl, hnc, hcm, .inr ⟨g, 0, rfl, hS g rfl, fun i x hi => ⟨enc x, (hx x (List.mem_of_getElem? hi)).2, fun j u hu => ?_⟩⟩⟩
    have hseg : (xs.flatMap enc)[i * r.width + j]? = some u := by
      clear h hg hnc hcm hcs htake hS
      induction xs generalizing i with
      | nil => simp at hi
      | cons y ys ih =>
        rw [List.flatMap_cons]
        cases i with
        | zero =>
          simp at hi
          subst hi
          rw [Nat.zero_mul, Nat.zero_add, List.getElem?_append_left (List.getElem?_eq_some_iff.1 hu).1]
          exact hu
        | succ i =>
          have hl := (hx y (List.mem_cons_self ..)).1
          rw [List.getElem?_append_right (by rw [hl, Nat.add_mul]; omega), hl]
          rw [show (i + 1) * r.width + j - r.width = i * r.width + j by rw [Nat.add_mul]; omega]
          exact ih (fun x hx' => hx x (List.mem_cons_of_mem _ hx')) i (by simpa using hi)
    have hc := h.cells (g := g) rfl (i * r.width + j) u hseg
    rw [show 0 + i * r.width + j = i * r.width + j by omega]
    have ha : (⟨g, 0, none⟩ : Addr).add (i * r.width + j) = ⟨g, i * r.width + j, none⟩ := by unfold Addr.add; split <;> simp_all
    rwa [ha] at hc

/-! ### The things of umlaut -/
structure Span where
  lo : Int
  hi : Int
  deriving DecidableEq
structure Part where
  at_ : Int
  drop : Int
  take : Int
  up : Int
  deriving DecidableEq
structure Term where
  base : Int
  drop : Int
  take : Int
  up : Int
  sum : Int
  parts : List Part
  deriving DecidableEq
structure Rule where
  src : Int
  dst : Int
  guards : List (List Span)
  eat : Int
  out : List Term
  deriving DecidableEq
structure Final where
  src : Int
  guards : List (List Span)
  out : List Term
  deriving DecidableEq
structure Desc where
  inn : Int
  out : Int
  states : Int
  start : Int
  rules : List Rule
  finals : List Final
  deriving DecidableEq

def Span.cells (x : Span) : List Value := [.int .i64 x.lo, .int .i64 x.hi]
def Span.ok (x : Span) : Prop := I64 x.lo ∧ I64 x.hi
def spanR : RepOf Span where
  width := 2
  rel := fun _ _ cs x => cs = x.cells ∧ x.ok
  len := by rintro w S cs x ⟨rfl, _⟩; rfl
  mono := by intro w w' S S' cs x _ _ h; exact h
def Part.cells (x : Part) : List Value := [.int .i64 x.at_, .int .i64 x.drop, .int .i64 x.take, .int .i64 x.up]
def Part.ok (x : Part) : Prop := I64 x.at_ ∧ I64 x.drop ∧ I64 x.take ∧ I64 x.up
def partR : RepOf Part where
  width := 4
  rel := fun _ _ cs x => cs = x.cells ∧ x.ok
  len := by rintro w S cs x ⟨rfl, _⟩; rfl
  mono := by intro w w' S S' cs x _ _ h; exact h
def termR : RepOf Term where
  width := 6
  rel := fun w S cs x => ∃ v, cs = [.int .i64 x.base, .int .i64 x.drop, .int .i64 x.take, .int .i64 x.up, .int .i64 x.sum, v] ∧ (I64 x.base ∧ I64 x.drop ∧ I64 x.take ∧ I64 x.up ∧ I64 x.sum) ∧ (listR partR).rel w S [v] x.parts
  len := by rintro w S cs x ⟨v, rfl, _⟩; rfl
  mono := by
    rintro w w' S S' cs x hw hS ⟨v, h1, h2, h3⟩
    exact ⟨v, h1, h2, (listR partR).mono hw hS h3⟩
def spansR : RepOf (List Span) := listR spanR
def ruleR : RepOf Rule where
  width := 5
  rel := fun w S cs x => ∃ v u, cs = [.int .i64 x.src, .int .i64 x.dst, v, .int .i64 x.eat, u] ∧ (I64 x.src ∧ I64 x.dst ∧ I64 x.eat) ∧ (listR spansR).rel w S [v] x.guards ∧ (listR termR).rel w S [u] x.out
  len := by rintro w S cs x ⟨v, u, rfl, _⟩; rfl
  mono := by
    rintro w w' S S' cs x hw hS ⟨v, u, h1, h2, h3, h4⟩
    exact ⟨v, u, h1, h2, (listR spansR).mono hw hS h3, (listR termR).mono hw hS h4⟩
def finalR : RepOf Final where
  width := 3
  rel := fun w S cs x => ∃ v u, cs = [.int .i64 x.src, v, u] ∧ I64 x.src ∧ (listR spansR).rel w S [v] x.guards ∧ (listR termR).rel w S [u] x.out
  len := by rintro w S cs x ⟨v, u, rfl, _⟩; rfl
  mono := by
    rintro w w' S S' cs x hw hS ⟨v, u, h1, h2, h3, h4⟩
    exact ⟨v, u, h1, h2, (listR spansR).mono hw hS h3, (listR termR).mono hw hS h4⟩
def descR : RepOf Desc where
  width := 6
  rel := fun w S cs x => ∃ v u, cs = [.int .i64 x.inn, .int .i64 x.out, .int .i64 x.states, .int .i64 x.start, v, u] ∧ (I64 x.inn ∧ I64 x.out ∧ I64 x.states ∧ I64 x.start) ∧ (listR ruleR).rel w S [v] x.rules ∧ (listR finalR).rel w S [u] x.finals
  len := by rintro w S cs x ⟨v, u, rfl, _⟩; rfl
  mono := by
    rintro w w' S S' cs x hw hS ⟨v, u, h1, h2, h3, h4⟩
    exact ⟨v, u, h1, h2, (listR ruleR).mono hw hS h3, (listR finalR).mono hw hS h4⟩

section
variable {w : World} {S : Nat → Prop} {A : Option Addr} {n cap i : Nat}
/-- a rule's cells, by its place. -/
theorem rule_at {xs : List Rule} {x : Rule} (h : (listR ruleR).rel w S [.slice A n cap] xs) (hx : xs[i]? = some x) :
    ∃ b o v u, A = some ⟨b, o, none⟩ ∧ S b ∧ w.cell? ⟨b, o + i * 5, none⟩ = some (.int .i64 x.src) ∧ w.cell? ⟨b, o + i * 5 + 1, none⟩ = some (.int .i64 x.dst) ∧ w.cell? ⟨b, o + i * 5 + 2, none⟩ = some v ∧
      w.cell? ⟨b, o + i * 5 + 3, none⟩ = some (.int .i64 x.eat) ∧ w.cell? ⟨b, o + i * 5 + 4, none⟩ = some u ∧ (I64 x.src ∧ I64 x.dst ∧ I64 x.eat) ∧ (listR spansR).rel w S [v] x.guards ∧ (listR termR).rel w S [u] x.out := by
  obtain ⟨b, o, ds, h1, h2, ⟨v, u, rfl, h4, h5, h6⟩, h7⟩ := list_at h hx
  exact ⟨b, o, v, u, h1, h2, h7 0 _ rfl, h7 1 _ rfl, h7 2 _ rfl, h7 3 _ rfl, h7 4 _ rfl, h4, h5, h6⟩
theorem final_at {xs : List Final} {x : Final} (h : (listR finalR).rel w S [.slice A n cap] xs) (hx : xs[i]? = some x) :
    ∃ b o v u, A = some ⟨b, o, none⟩ ∧ S b ∧ w.cell? ⟨b, o + i * 3, none⟩ = some (.int .i64 x.src) ∧ w.cell? ⟨b, o + i * 3 + 1, none⟩ = some v ∧ w.cell? ⟨b, o + i * 3 + 2, none⟩ = some u ∧
      I64 x.src ∧ (listR spansR).rel w S [v] x.guards ∧ (listR termR).rel w S [u] x.out := by
  obtain ⟨b, o, ds, h1, h2, ⟨v, u, rfl, h4, h5, h6⟩, h7⟩ := list_at h hx
  exact ⟨b, o, v, u, h1, h2, h7 0 _ rfl, h7 1 _ rfl, h7 2 _ rfl, h4, h5, h6⟩
theorem span_at {xs : List Span} {x : Span} (h : (listR spanR).rel w S [.slice A n cap] xs) (hx : xs[i]? = some x) :
    ∃ b o, A = some ⟨b, o, none⟩ ∧ S b ∧ w.cell? ⟨b, o + i * 2, none⟩ = some (.int .i64 x.lo) ∧ w.cell? ⟨b, o + i * 2 + 1, none⟩ = some (.int .i64 x.hi) ∧ I64 x.lo ∧ I64 x.hi := by
  obtain ⟨b, o, ds, h1, h2, ⟨rfl, h4, h5⟩, h7⟩ := list_at h hx
  exact ⟨b, o, h1, h2, h7 0 _ rfl, h7 1 _ rfl, h4, h5⟩
theorem part_at {xs : List Part} {x : Part} (h : (listR partR).rel w S [.slice A n cap] xs) (hx : xs[i]? = some x) :
    ∃ b o, A = some ⟨b, o, none⟩ ∧ S b ∧ w.cell? ⟨b, o + i * 4, none⟩ = some (.int .i64 x.at_) ∧ w.cell? ⟨b, o + i * 4 + 1, none⟩ = some (.int .i64 x.drop) ∧ w.cell? ⟨b, o + i * 4 + 2, none⟩ = some (.int .i64 x.take) ∧
      w.cell? ⟨b, o + i * 4 + 3, none⟩ = some (.int .i64 x.up) ∧ x.ok := by
  obtain ⟨b, o, ds, h1, h2, ⟨rfl, h4⟩, h7⟩ := list_at h hx
  exact ⟨b, o, h1, h2, h7 0 _ rfl, h7 1 _ rfl, h7 2 _ rfl, h7 3 _ rfl, h4⟩
theorem term_at {xs : List Term} {x : Term} (h : (listR termR).rel w S [.slice A n cap] xs) (hx : xs[i]? = some x) :
    ∃ b o v, A = some ⟨b, o, none⟩ ∧ S b ∧ w.cell? ⟨b, o + i * 6, none⟩ = some (.int .i64 x.base) ∧ w.cell? ⟨b, o + i * 6 + 1, none⟩ = some (.int .i64 x.drop) ∧ w.cell? ⟨b, o + i * 6 + 2, none⟩ = some (.int .i64 x.take) ∧
      w.cell? ⟨b, o + i * 6 + 3, none⟩ = some (.int .i64 x.up) ∧ w.cell? ⟨b, o + i * 6 + 4, none⟩ = some (.int .i64 x.sum) ∧ w.cell? ⟨b, o + i * 6 + 5, none⟩ = some v ∧
      (I64 x.base ∧ I64 x.drop ∧ I64 x.take ∧ I64 x.up ∧ I64 x.sum) ∧ (listR partR).rel w S [v] x.parts := by
  obtain ⟨b, o, ds, h1, h2, ⟨v, rfl, h4, h5⟩, h7⟩ := list_at h hx
  exact ⟨b, o, v, h1, h2, h7 0 _ rfl, h7 1 _ rfl, h7 2 _ rfl, h7 3 _ rfl, h7 4 _ rfl, h7 5 _ rfl, h4, h5⟩
end

/-- a quiet callee in a region that draws its order. -/
theorem quiet_left {P : Program} {f : FuncId} {args : Array Value} {w : World} {n : Nat} {v : Value}
    (h : Calls P f args (w.drewN n) fun e w' => e = .returned v ∧ w.drewN n = w') : Calls P f args (w.drewN n) fun e w'' => e = .returned v ∧ ∃ m, w'' = w.drewN m :=
  h.mono fun _ _ ⟨he, hm⟩ => ⟨he, n, hm.symm⟩
theorem below_drewN {B : Nat} {a w : World} (h : Below B a w) (n : Nat) : Below B a (w.drewN n) := ⟨h.os, h.tape, h.output, h.size, h.block⟩
theorem hid {p : Prop} (h : p) : Hid p := h
/-- a row of spans that the call owns. -/
def OwnS (e : TypeId) (w : World) (base : Nat) (v : Value) (xs : List Span) : Prop := w.ownsRow base e 2 v xs.length (xs.flatMap Span.cells) ∧ ∀ x ∈ xs, x.ok
theorem OwnS.rel {e : TypeId} {w : World} {base : Nat} {v : Value} {xs : List Span} (h : OwnS e w base v xs) : spansR.rel w (upto w.heap.size) [v] xs :=
  own_list (r := spanR) (enc := Span.cells) h.1 (fun g hg => (h.1.lt g hg).2) fun x hx => ⟨rfl, rfl, h.2 x hx⟩
theorem OwnS.rel_in {e : TypeId} {w : World} {base : Nat} {v : Value} {xs : List Span} (h : OwnS e w base v xs) {S : Nat → Prop} (hS : ∀ g, v.ownBlock = some g → S g) : spansR.rel w S [v] xs :=
  own_list (r := spanR) (enc := Span.cells) h.1 hS fun x hx => ⟨rfl, rfl, h.2 x hx⟩
theorem ownsRow_base {w : World} {base base' : Nat} {e : TypeId} {size n : Nat} {v : Value} {xs : List Value} (h : w.ownsRow base e size v n xs) (hb : base' ≤ base) : w.ownsRow base' e size v n xs := by
  refine ⟨h.1, ?_⟩
  rcases h.2 with h2 | ⟨g, cap, cur, h1, h2, h3⟩
  · exact .inl h2
  · exact .inr ⟨g, cap, cur, h1, Nat.le_trans hb h2, h3⟩
theorem OwnS.base {e : TypeId} {w : World} {base base' : Nat} {v : Value} {xs : List Span} (h : OwnS e w base v xs) (hb : base' ≤ base) : OwnS e w base' v xs := ⟨ownsRow_base h.1 hb, h.2⟩
/-- what lies in a block that was just made. -/
theorem news_at {w : World} {g : Nat} {cs : Array Value} {t : TypeId} (hg : g = w.heap.size) : ∀ (j : Nat) (u : Value), cs.toList[j]? = some u → (w.alloc (.cells cs t)).cell? ((⟨g, 0, none⟩ : Addr).add j) = some u := by
  subst hg
  intro j u hu
  have hadd : (⟨w.heap.size, 0, none⟩ : Addr).add j = ⟨w.heap.size, j, none⟩ := by unfold Addr.add; split <;> simp_all
  rw [hadd, cell_of_row _ _ j cs t (0, 0) (heap_alloc_new w _)]
  simpa using hu
theorem ownsRow_drew {w : World} {base : Nat} {e : TypeId} {size n : Nat} {v : Value} {xs : List Value} (h : w.ownsRow base e size v n xs) : w.drew.ownsRow base e size v n xs := h
theorem OwnS.push {e : TypeId} {w : World} {base : Nat} {v : Value} {xs : List Span} {x : Span} (h : w.ownsRow base e 2 v (xs.length + 1) (xs.flatMap Span.cells ++ [.int .i64 x.lo, .int .i64 x.hi])) (hx : ∀ y ∈ xs, y.ok) (ho : x.ok) : OwnS e w base v (xs ++ [x]) := by
  refine ⟨by simpa [Span.cells] using h, fun y hy => ?_⟩
  rcases List.mem_append.1 hy with hy | hy
  · exact hx y hy
  · simp at hy; subst hy; exact ho
/-- behind an append to a row of the call's own, made from block B on. -/
theorem below_grown {B : Nat} {w w' : World} {v : Value} {base : Nat} {e : TypeId} {size n : Nat} {xs : List Value} (ho : w.ownsRow base e size v n xs) (hg : w.grownBy w' v.ownBlock) (hB : B ≤ base) (hw : B ≤ w.heap.size) : Below B w w' :=
  (Below.refl B w).grown hg hw fun k hk => Nat.le_trans hB (ho.lt k hk).1
theorem OwnS.drewN {e : TypeId} {w : World} {base : Nat} {v : Value} {xs : List Span} (h : OwnS e w base v xs) (n : Nat) : OwnS e (w.drewN n) base v xs := h
/-- all but the first span, as the walk writes it. -/
theorem spans_tail {w : World} {S : Nat → Prop} {b o n cap : Nat} {x : Span} {xs : List Span} (h : spansR.rel w S [.slice (some ⟨b, o, none⟩) (n + 1) cap] (x :: xs)) :
    spansR.rel w S [.slice (if cap = 1 then some ⟨b, o, none⟩ else some ⟨b, o + 2, none⟩) n (cap - 1)] xs := by
  have h1 := list_cut (k := 1) h (by omega)
  have hw : spanR.width = 2 := rfl
  rw [hw] at h1
  show (listR spanR).rel _ _ _ _
  simpa [Addr.add] using h1
theorem own_form {w : World} {base : Nat} {e : TypeId} {size n : Nat} {v : Value} {xs : List Value} (h : w.ownsRow base e size v n xs) (hn : 0 < n) : ∃ g cap, v = .slice (some ⟨g, 0, none⟩) n cap := by
  rcases h.2 with ⟨_, h0⟩ | ⟨g, cap, cur, h1, _⟩
  · omega
  · exact ⟨g, cap, h1⟩
theorem make_rowN {P : Program} (t e : TypeId) (i : TypeInfo) (z : Value) (ht : P.underlying t = some (.slice e)) (hi : P.info? e = some i) (hz : i.zero = some z)
    (kl kc : IntKind) (n c : Nat) (hnc : n ≤ c) (hbytes : i.bytes * c ≤ 281474976710656) (h63 : c ≤ 9223372036854775807) (w : World) :
    (Instr.makeSlice t (.int kl (n : Int)) (.int kc (c : Int))).run P w = .ok (.slice (some ⟨w.heap.size, 0, none⟩) n c) (w.alloc (.cells (madeCells z.cells (c * i.size)) e)) := by
  have hb : (i.bytes : Int) * (c : Int) ≤ 281474976710656 := by
    have h : ((i.bytes * c : Nat) : Int) ≤ 281474976710656 := by omega
    rwa [Int.natCast_mul] at h
  have hr := run_make (P := P) w t e i z ht hi hz kl kc n c (by omega) (by omega) hb (by omega)
  simp only [Int.toNat_natCast] at hr
  exact hr
/-- a slice's length: for a loop's measure. -/
def lenOf : Value → Nat | .slice _ n _ => n | _ => 0
theorem drop_cons {α : Type} {xs : List α} {i : Nat} {x : α} (h : xs[i]? = some x) : xs.drop i = x :: xs.drop (i + 1) := by
  obtain ⟨hl, rfl⟩ := List.getElem?_eq_some_iff.1 h
  exact List.drop_eq_getElem_cons hl
theorem at_lt {α : Type} {xs : List α} {i : Nat} (h : i < xs.length) : ∃ x, xs[i]? = some x := ⟨xs[i], List.getElem?_eq_getElem h⟩
end Go.Um
namespace Go.Um

/-- the greatest number of a set. -/
def topN : Int := 1073741824
theorem topN_eq : topN = 1073741824 := rfl

def Span.has (s : Span) (x : Int) : Prop := s.lo ≤ x ∧ x ≤ s.hi
def mem (l : List Span) (x : Int) : Prop := ∃ s ∈ l, s.lo ≤ x ∧ x ≤ s.hi
/-- mem, within the numbers. -/
def inSet (l : List Span) (x : Int) : Prop := (-1073741824 ≤ x ∧ x ≤ 1073741824) ∧ mem l x
def hasB (l : List Span) (x : Int) : Bool := l.any fun s => decide (s.lo ≤ x) && decide (x ≤ s.hi)
theorem hasB_iff (l : List Span) (x : Int) : hasB l x = true ↔ mem l x := by
  simp [hasB, mem]

/-- span.Check's loop. -/
def plainFrom (last : Int) : List Span → Bool
  | [] => true
  | s :: r => if s.hi < s.lo ∨ s.lo < -1073741824 ∨ 1073741824 < s.hi ∨ s.lo ≤ last + 1 then false else plainFrom s.hi r
def plain (l : List Span) : Bool := plainFrom (-1073741826) l

theorem plainFrom_cons {last : Int} {s : Span} {r : List Span} : plainFrom last (s :: r) = true ↔ (s.lo ≤ s.hi ∧ -1073741824 ≤ s.lo ∧ s.hi ≤ 1073741824 ∧ last + 1 < s.lo) ∧ plainFrom s.hi r = true := by
  show (if s.hi < s.lo ∨ s.lo < -1073741824 ∨ 1073741824 < s.hi ∨ s.lo ≤ last + 1 then false else plainFrom s.hi r) = true ↔ _
  by_cases h : s.hi < s.lo ∨ s.lo < -1073741824 ∨ 1073741824 < s.hi ∨ s.lo ≤ last + 1
  · simp only [h, if_true]
    constructor
    · intro h'; cases h'
    · rintro ⟨h', _⟩; omega
  · simp only [h, if_false]
    constructor
    · intro h'; exact ⟨by omega, h'⟩
    · intro h'; exact h'.2

theorem mem_cons {s : Span} {r : List Span} {x : Int} : mem (s :: r) x ↔ (s.lo ≤ x ∧ x ≤ s.hi) ∨ mem r x := by simp [mem]
theorem mem_nil {x : Int} : ¬ mem [] x := by simp [mem]
theorem mem_append {a b : List Span} {x : Int} : mem (a ++ b) x ↔ mem a x ∨ mem b x := by
  simp only [mem, List.mem_append]
  constructor
  · rintro ⟨s, h | h, h'⟩
    · exact .inl ⟨s, h, h'⟩
    · exact .inr ⟨s, h, h'⟩
  · rintro (⟨s, h, h'⟩ | ⟨s, h, h'⟩)
    · exact ⟨s, .inl h, h'⟩
    · exact ⟨s, .inr h, h'⟩

theorem plainFrom_bound {last : Int} {l : List Span} (h : plainFrom last l = true) {x : Int} (hx : mem l x) : last + 1 < x ∧ -1073741824 ≤ x ∧ x ≤ 1073741824 := by
  induction l generalizing last with
  | nil => exact absurd hx mem_nil
  | cons s r ih =>
    obtain ⟨h1, h2⟩ := plainFrom_cons.1 h
    rcases mem_cons.1 hx with h3 | h3
    · omega
    · have := ih h2 h3; omega
theorem plainFrom_mono {last last' : Int} {l : List Span} (h : plainFrom last l = true) (hl : last' ≤ last) : plainFrom last' l = true := by
  cases l with
  | nil => rfl
  | cons s r =>
    obtain ⟨h1, h2⟩ := plainFrom_cons.1 h
    exact plainFrom_cons.2 ⟨by omega, h2⟩

/-- Of each set there is one plain list. -/
theorem plainFrom_unique {la lb : Int} {a b : List Span} (ha : plainFrom la a = true) (hb : plainFrom lb b = true) (h : ∀ x, mem a x ↔ mem b x) : a = b := by
  induction a generalizing la lb b with
  | nil =>
    cases b with
    | nil => rfl
    | cons t u =>
      obtain ⟨h1, _⟩ := plainFrom_cons.1 hb
      exact absurd ((h t.lo).2 (mem_cons.2 (.inl ⟨Int.le_refl _, h1.1⟩))) mem_nil
  | cons s r ih =>
    obtain ⟨a1, a2⟩ := plainFrom_cons.1 ha
    cases b with
    | nil => exact absurd ((h s.lo).1 (mem_cons.2 (.inl ⟨Int.le_refl _, a1.1⟩))) mem_nil
    | cons t u =>
      obtain ⟨b1, b2⟩ := plainFrom_cons.1 hb
      have lo1 : t.lo ≤ s.lo := by
        rcases mem_cons.1 ((h s.lo).1 (mem_cons.2 (.inl ⟨Int.le_refl _, a1.1⟩))) with h3 | h3
        · exact h3.1
        · have := plainFrom_bound b2 h3; omega
      have lo2 : s.lo ≤ t.lo := by
        rcases mem_cons.1 ((h t.lo).2 (mem_cons.2 (.inl ⟨Int.le_refl _, b1.1⟩))) with h3 | h3
        · exact h3.1
        · have := plainFrom_bound a2 h3; omega
      have hi1 : t.hi ≤ s.hi := by
        by_cases hh : t.hi ≤ s.hi
        · exact hh
        · exfalso
          rcases mem_cons.1 ((h (s.hi + 1)).2 (mem_cons.2 (.inl ⟨by omega, by omega⟩))) with h3 | h3
          · omega
          · have := plainFrom_bound a2 h3; omega
      have hi2 : s.hi ≤ t.hi := by
        by_cases hh : s.hi ≤ t.hi
        · exact hh
        · exfalso
          rcases mem_cons.1 ((h (t.hi + 1)).1 (mem_cons.2 (.inl ⟨by omega, by omega⟩))) with h3 | h3
          · omega
          · have := plainFrom_bound b2 h3; omega
      obtain ⟨slo, shi⟩ := s
      obtain ⟨tlo, thi⟩ := t
      simp only at *
      obtain rfl : slo = tlo := by omega
      obtain rfl : shi = thi := by omega
      congr 1
      refine ih a2 b2 fun x => ⟨fun hx => ?_, fun hx => ?_⟩
      · have := plainFrom_bound a2 hx
        rcases mem_cons.1 ((h x).1 (mem_cons.2 (.inr hx))) with h3 | h3
        · simp only at h3; omega
        · exact h3
      · have := plainFrom_bound b2 hx
        rcases mem_cons.1 ((h x).2 (mem_cons.2 (.inr hx))) with h3 | h3
        · simp only at h3; omega
        · exact h3
theorem plain_unique {a b : List Span} (ha : plain a = true) (hb : plain b = true) (h : ∀ x, mem a x ↔ mem b x) : a = b := plainFrom_unique ha hb h

def okS (s : Span) : Prop := s.lo ≤ s.hi ∧ -1073741824 ≤ s.lo ∧ s.hi ≤ 1073741824
theorem plainFrom_ok {last : Int} {l : List Span} (h : plainFrom last l = true) : ∀ s ∈ l, okS s := by
  induction l generalizing last with
  | nil => intro s hs; cases hs
  | cons a b ih =>
    obtain ⟨k1, k2⟩ := plainFrom_cons.1 h
    intro s hs
    rcases List.mem_cons.1 hs with rfl | hs
    · exact ⟨k1.1, k1.2.1, k1.2.2.1⟩
    · exact ih k2 s hs

/-! ### Norm -/
/-- a span within the numbers; none, if it has nothing there. -/
def clampS (s : Span) : Option Span := if max s.lo (-1073741824) ≤ min s.hi 1073741824 then some ⟨max s.lo (-1073741824), min s.hi 1073741824⟩ else none
def clampL (l : List Span) : List Span := l.filterMap clampS
/-- one step of Norm's last loop: the last one grows, or one more stands behind. -/
def joinStep (out : List Span) (x : Span) : List Span :=
  match out.getLast? with
  | some t => if x.lo ≤ t.hi + 1 then out.dropLast ++ [⟨t.lo, max t.hi x.hi⟩] else out ++ [x]
  | none => out ++ [x]
def joinL (out : List Span) : List Span → List Span
  | [] => out
  | x :: r => joinL (joinStep out x) r
def insertLo (x : Span) : List Span → List Span
  | [] => [x]
  | y :: r => if x.lo ≤ y.lo then x :: y :: r else y :: insertLo x r
def sortLo : List Span → List Span
  | [] => []
  | x :: r => insertLo x (sortLo r)
/-- the plain list of a set. -/
def normF (l : List Span) : List Span := joinL [] (sortLo (clampL l))

theorem mem_clampL {l : List Span} {x : Int} : mem (clampL l) x ↔ inSet l x := by
  induction l with
  | nil => simp [clampL, mem, inSet]
  | cons s r ih =>
    have e : clampL (s :: r) = (match clampS s with | some t => [t] | none => []) ++ clampL r := by
      unfold clampL
      rw [List.filterMap_cons]
      cases clampS s <;> rfl
    rw [e, mem_append, ih]
    unfold inSet
    rw [mem_cons]
    unfold clampS
    split
    · rename_i t ht
      split at ht
      · cases ht
        simp only [mem_cons, mem_nil, or_false]
        by_cases hm : mem r x <;> simp only [hm, or_true, or_false, and_true, and_false] <;> omega
      · cases ht
    · rename_i ht
      split at ht
      · cases ht
      · simp only [mem_nil, false_or]
        by_cases hm : mem r x <;> simp only [hm, or_true, or_false, and_true, and_false, iff_self, false_iff] <;> omega

theorem clampL_ok {l : List Span} : ∀ s ∈ clampL l, okS s := by
  intro s hs
  simp only [clampL, List.mem_filterMap] at hs
  obtain ⟨t, _, ht⟩ := hs
  unfold clampS at ht
  split at ht
  · cases ht
    unfold okS
    simp only
    omega
  · cases ht

theorem mem_perm {a b : List Span} (h : a.Perm b) {x : Int} : mem a x ↔ mem b x := by
  simp only [mem, h.mem_iff]

theorem insertLo_perm (x : Span) (l : List Span) : (insertLo x l).Perm (x :: l) := by
  induction l with
  | nil => exact .refl _
  | cons y r ih =>
    unfold insertLo
    split
    · exact .refl _
    · exact (ih.cons y).trans (.swap x y r)
theorem sortLo_perm (l : List Span) : (sortLo l).Perm l := by
  induction l with
  | nil => exact .refl _
  | cons x r ih => exact (insertLo_perm x _).trans (ih.cons x)
def SortedLo (l : List Span) : Prop := l.Pairwise fun a b => a.lo ≤ b.lo
theorem insertLo_sorted {x : Span} {l : List Span} (h : SortedLo l) : SortedLo (insertLo x l) := by
  induction l with
  | nil => simp [insertLo, SortedLo]
  | cons y r ih =>
    unfold insertLo
    have h' := List.pairwise_cons.1 h
    split
    · refine List.pairwise_cons.2 ⟨fun z hz => ?_, h⟩
      rcases List.mem_cons.1 hz with rfl | hz
      · assumption
      · have := h'.1 z hz; omega
    · refine List.pairwise_cons.2 ⟨fun z hz => ?_, ih h'.2⟩
      rcases List.mem_cons.1 ((insertLo_perm x r).mem_iff.1 hz) with rfl | hz
      · omega
      · exact h'.1 z hz
theorem sortLo_sorted (l : List Span) : SortedLo (sortLo l) := by
  induction l with
  | nil => exact .nil
  | cons x r ih => exact insertLo_sorted ih

/-- what Norm's last loop keeps: out is plain, and no later one begins ahead of where its last one does. -/
theorem plainFrom_snoc {last : Int} {out : List Span} {x : Span} (h : plainFrom last out = true) (hx : okS x) (hl : last + 1 < x.lo) (hg : ∀ t, out.getLast? = some t → t.hi + 1 < x.lo) : plainFrom last (out ++ [x]) = true := by
  induction out generalizing last with
  | nil => unfold okS at hx; exact plainFrom_cons.2 ⟨by omega, rfl⟩
  | cons s r ih =>
    obtain ⟨h1, h2⟩ := plainFrom_cons.1 h
    refine plainFrom_cons.2 ⟨h1, ?_⟩
    cases r with
    | nil => exact ih h2 (hg s rfl) (by simp)
    | cons t u =>
      refine ih h2 ?_ (fun t' ht' => hg t' (by simpa [List.getLast?_cons_cons] using ht'))
      cases hq : (t :: u).getLast? with
      | none => simp at hq
      | some q =>
        have h3 := hg q (by simpa [List.getLast?_cons_cons] using hq)
        have hm : mem (t :: u) q.hi := by
          have hin := List.mem_of_getLast? hq
          refine ⟨q, hin, ?_, Int.le_refl _⟩
          have hq' : okS q := plainFrom_ok h2 q hin
          exact hq'.1
        have := plainFrom_bound h2 hm
        omega
theorem plainFrom_grow {last : Int} {out : List Span} {t : Span} {hi : Int} (h : plainFrom last (out ++ [t]) = true) (h1 : t.hi ≤ hi) (h2 : hi ≤ 1073741824) : plainFrom last (out ++ [⟨t.lo, hi⟩]) = true := by
  induction out generalizing last with
  | nil =>
    obtain ⟨k1, _⟩ := plainFrom_cons.1 h
    exact plainFrom_cons.2 ⟨⟨by simp only; omega, by simp only; omega, by simp only; omega, by simp only; omega⟩, rfl⟩
  | cons s r ih =>
    obtain ⟨k1, k2⟩ := plainFrom_cons.1 h
    exact plainFrom_cons.2 ⟨k1, ih k2⟩

theorem joinStep_spec {out : List Span} {x : Span} (h : plain out = true) (hx : okS x) (hlo : ∀ t, out.getLast? = some t → t.lo ≤ x.lo) :
    plain (joinStep out x) = true ∧ (∀ y, mem (joinStep out x) y ↔ mem out y ∨ (x.lo ≤ y ∧ y ≤ x.hi)) ∧ (∀ t, (joinStep out x).getLast? = some t → t.lo ≤ x.lo) := by
  unfold joinStep
  cases hq : out.getLast? with
  | none =>
    have : out = [] := by simpa using hq
    subst this
    simp only [List.nil_append]
    refine ⟨?_, fun y => ?_, fun t ht => ?_⟩
    · unfold okS at hx
      exact plainFrom_cons.2 ⟨by omega, rfl⟩
    · simp [mem]
    · simp at ht; subst ht; exact Int.le_refl _
  | some t =>
    have hlt := hlo t hq
    obtain ⟨ini, rfl⟩ := List.getLast?_eq_some_iff.1 hq
    have hot : okS t := plainFrom_ok h t (by simp)
    simp only [List.dropLast_concat]
    split
    · rename_i hc
      refine ⟨plainFrom_grow h (by omega) ?_, fun y => ?_, fun t' ht' => ?_⟩
      · unfold okS at hx
        have : t.hi ≤ 1073741824 := hot.2.2
        omega
      · have htt : t.lo ≤ t.hi := hot.1
        unfold okS at hx
        simp only [mem_append, mem_cons, mem_nil, or_false, or_assoc]
        constructor
        · rintro (h1 | h1)
          · exact .inl h1
          · omega
        · rintro (h1 | h1)
          · exact .inl h1
          · right; omega
      · simp at ht'; subst ht'; exact hlt
    · rename_i hc
      refine ⟨?_, fun y => ?_, fun t' ht' => ?_⟩
      · refine plainFrom_snoc h hx ?_ (fun t' ht' => ?_)
        · unfold okS at hx; omega
        · rw [hq] at ht'; cases ht'; omega
      · simp only [mem_append, mem_cons, mem_nil, or_false]
      · simp at ht'; subst ht'; exact Int.le_refl _

theorem joinL_spec {r out : List Span} (h : plain out = true) (hr : ∀ s ∈ r, okS s) (hs : SortedLo r) (hlo : ∀ t, out.getLast? = some t → ∀ s ∈ r, t.lo ≤ s.lo) :
    plain (joinL out r) = true ∧ ∀ y, mem (joinL out r) y ↔ mem out y ∨ mem r y := by
  induction r generalizing out with
  | nil => exact ⟨h, fun y => by simp [joinL, mem_nil]⟩
  | cons x r ih =>
    have hp := List.pairwise_cons.1 hs
    obtain ⟨s1, s2, s3⟩ := joinStep_spec h (hr x (List.mem_cons_self ..)) (fun t ht => hlo t ht x (List.mem_cons_self ..))
    obtain ⟨i1, i2⟩ := ih s1 (fun s hs => hr s (List.mem_cons_of_mem _ hs)) hp.2 (fun t ht s hs => by have := s3 t ht; have := hp.1 s hs; omega)
    refine ⟨i1, fun y => ?_⟩
    show mem (joinL (joinStep out x) r) y ↔ _
    rw [i2, s2, mem_cons, or_assoc]

/-- whatever order the sort gives: the plain list of the same set. -/
theorem joinL_perm {l m : List Span} (hp : m.Perm (clampL l)) (hs : SortedLo m) : plain (joinL [] m) = true ∧ ∀ y, mem (joinL [] m) y ↔ inSet l y := by
  obtain ⟨h1, h2⟩ := joinL_spec (r := m) (out := []) rfl (fun s h => clampL_ok s (hp.mem_iff.1 h)) hs (by simp)
  refine ⟨h1, fun y => ?_⟩
  rw [h2, mem_perm hp, mem_clampL]
  simp [mem_nil]
theorem normF_plain (l : List Span) : plain (normF l) = true := (joinL_perm (sortLo_perm _) (sortLo_sorted _)).1
theorem mem_normF {l : List Span} {y : Int} : mem (normF l) y ↔ inSet l y := (joinL_perm (sortLo_perm _) (sortLo_sorted _)).2 y
theorem joinL_eq {l m : List Span} (hp : m.Perm (clampL l)) (hs : SortedLo m) : joinL [] m = normF l :=
  plain_unique (joinL_perm hp hs).1 (normF_plain l) fun y => by rw [(joinL_perm hp hs).2, mem_normF]
end Go.Um
namespace Go.Um

/-- Go's max and min of two, as the walk writes them. -/
def mx (a b : Int) : Int := if a < b then b else a
def mn (a b : Int) : Int := if b < a then b else a

def meetGo : Nat → List Span → List Span → List Span
  | n + 1, x :: xs, y :: ys =>
    if mx x.lo y.lo ≤ mn x.hi y.hi then ⟨mx x.lo y.lo, mn x.hi y.hi⟩ :: (if x.hi < y.hi then meetGo n xs (y :: ys) else meetGo n (x :: xs) ys)
    else (if x.hi < y.hi then meetGo n xs (y :: ys) else meetGo n (x :: xs) ys)
  | _, _, _ => []
def meetF (a b : List Span) : List Span := meetGo ((normF a).length + (normF b).length) (normF a) (normF b)

theorem meetGo_nil_left (n : Nat) (ys : List Span) : meetGo n [] ys = [] := by cases n <;> rfl
theorem meetGo_nil_right (n : Nat) (xs : List Span) : meetGo n xs [] = [] := by cases n <;> cases xs <;> rfl

theorem meetGo_spec {n : Nat} {la lb : Int} {xs ys : List Span} (ha : plainFrom la xs = true) (hb : plainFrom lb ys = true) (hn : xs.length + ys.length ≤ n) :
    plainFrom (mx la lb) (meetGo n xs ys) = true ∧ ∀ z, mem (meetGo n xs ys) z ↔ mem xs z ∧ mem ys z := by
  induction n generalizing la lb xs ys with
  | zero =>
    have h1 : xs = [] := List.eq_nil_of_length_eq_zero (by omega)
    subst h1
    exact ⟨rfl, fun z => by simp [meetGo, mem]⟩
  | succ n ih =>
    cases xs with
    | nil => exact ⟨rfl, fun z => by simp [meetGo, mem]⟩
    | cons x xs =>
      cases ys with
      | nil => exact ⟨rfl, fun z => by simp [meetGo, mem]⟩
      | cons y ys =>
        obtain ⟨a1, a2⟩ := plainFrom_cons.1 ha
        obtain ⟨b1, b2⟩ := plainFrom_cons.1 hb
        have hrest : plainFrom (mx (mx la lb) (mn x.hi y.hi)) (if x.hi < y.hi then meetGo n xs (y :: ys) else meetGo n (x :: xs) ys) = true ∧
            ∀ z, mem (if x.hi < y.hi then meetGo n xs (y :: ys) else meetGo n (x :: xs) ys) z ↔ (mem (x :: xs) z ∧ mem (y :: ys) z) ∧ ¬ (mx x.lo y.lo ≤ z ∧ z ≤ mn x.hi y.hi) := by
          by_cases hc : x.hi < y.hi
          · simp only [hc, if_true]
            obtain ⟨i1, i2⟩ := ih a2 hb (by simp at hn ⊢; omega)
            refine ⟨plainFrom_mono i1 (by unfold mx mn; split <;> split <;> split <;> (try split) <;> omega), fun z => ?_⟩
            rw [i2, mem_cons (s := x)]
            constructor
            · rintro ⟨h1, h2⟩
              have := plainFrom_bound a2 h1
              exact ⟨⟨.inr h1, h2⟩, by unfold mn; split <;> omega⟩
            · rintro ⟨⟨h1 | h1, h2⟩, h3⟩
              · exfalso
                rcases mem_cons.1 h2 with h4 | h4
                · apply h3; unfold mx mn; split <;> split <;> omega
                · have := plainFrom_bound b2 h4; omega
              · exact ⟨h1, h2⟩
          · simp only [hc, if_false]
            obtain ⟨i1, i2⟩ := ih ha b2 (by simp at hn ⊢; omega)
            refine ⟨plainFrom_mono i1 (by unfold mx mn; split <;> split <;> split <;> (try split) <;> omega), fun z => ?_⟩
            rw [i2, mem_cons (s := y)]
            constructor
            · rintro ⟨h1, h2⟩
              have := plainFrom_bound b2 h2
              exact ⟨⟨h1, .inr h2⟩, by unfold mn; split <;> omega⟩
            · rintro ⟨⟨h1, h2 | h2⟩, h3⟩
              · exfalso
                rcases mem_cons.1 h1 with h4 | h4
                · apply h3; unfold mx mn; split <;> split <;> omega
                · have := plainFrom_bound a2 h4; omega
              · exact ⟨h1, h2⟩
        obtain ⟨r1, r2⟩ := hrest
        have e : meetGo (n + 1) (x :: xs) (y :: ys) = if mx x.lo y.lo ≤ mn x.hi y.hi then ⟨mx x.lo y.lo, mn x.hi y.hi⟩ :: (if x.hi < y.hi then meetGo n xs (y :: ys) else meetGo n (x :: xs) ys)
          else (if x.hi < y.hi then meetGo n xs (y :: ys) else meetGo n (x :: xs) ys) := rfl
        rw [e]
        by_cases hc : mx x.lo y.lo ≤ mn x.hi y.hi
        · simp only [if_pos hc]
          refine ⟨plainFrom_cons.2 ⟨⟨hc, ?_, ?_, ?_⟩, plainFrom_mono r1 ?_⟩, fun z => ?_⟩
          · show -1073741824 ≤ mx x.lo y.lo
            unfold mx; split <;> omega
          · show mn x.hi y.hi ≤ 1073741824
            unfold mn; split <;> omega
          · show mx la lb + 1 < mx x.lo y.lo
            unfold mx; split <;> split <;> omega
          · show mn x.hi y.hi ≤ mx (mx la lb) (mn x.hi y.hi)
            generalize mx la lb = p
            unfold mx; split <;> omega
          · rw [mem_cons, r2]
            constructor
            · rintro (h1 | h1)
              · simp only at h1
                refine ⟨mem_cons.2 (.inl ?_), mem_cons.2 (.inl ?_)⟩ <;> (unfold mx mn at h1; split at h1 <;> split at h1 <;> omega)
              · exact h1.1
            · intro h1
              by_cases h2 : mx x.lo y.lo ≤ z ∧ z ≤ mn x.hi y.hi
              · exact .inl h2
              · exact .inr ⟨h1, h2⟩
        · simp only [if_neg hc]
          refine ⟨plainFrom_mono r1 (by generalize mx la lb = p; unfold mx; split <;> omega), fun z => ?_⟩
          rw [r2]
          constructor
          · exact fun h => h.1
          · exact fun h => ⟨h, by omega⟩

theorem meetF_plain (a b : List Span) : plain (meetF a b) = true :=
  plainFrom_mono (meetGo_spec (normF_plain a) (normF_plain b) (Nat.le_refl _)).1 (by decide)
theorem mem_meetF {a b : List Span} {z : Int} : mem (meetF a b) z ↔ inSet a z ∧ inSet b z := by
  rw [meetF, (meetGo_spec (normF_plain a) (normF_plain b) (Nat.le_refl _)).2, mem_normF, mem_normF]

theorem inSet_plain {l : List Span} (h : plain l = true) {z : Int} : inSet l z ↔ mem l z := by
  constructor
  · exact fun h => h.2
  · intro hz
    have := plainFrom_bound h hz
    exact ⟨⟨this.2.1, this.2.2⟩, hz⟩
theorem normF_id {l : List Span} (h : plain l = true) : normF l = l := plain_unique (normF_plain l) h fun x => by rw [mem_normF, inSet_plain h]
theorem plain_nil_iff {l : List Span} (h : plain l = true) : l = [] ↔ ∀ z, ¬ mem l z := by
  constructor
  · rintro rfl z; exact mem_nil
  · intro h'
    cases l with
    | nil => rfl
    | cons s r => exact absurd (mem_cons.2 (.inl ⟨Int.le_refl _, (plainFrom_cons.1 h).1.1⟩)) (h' s.lo)

/-- what Minus lays between the spans of the one that is taken away. -/
def gaps (lo : Int) : List Span → List Span
  | [] => [⟨lo, 1073741824⟩]
  | x :: r => ⟨lo, x.lo - 1⟩ :: gaps (x.hi + 1) r
def minusF (a b : List Span) : List Span := meetF a (gaps (-1073741824) (normF b))
theorem mem_gaps {lo : Int} {l : List Span} (h : plainFrom (lo - 2) l = true) {z : Int} (hz : z ≤ 1073741824) : mem (gaps lo l) z ↔ lo ≤ z ∧ ¬ mem l z := by
  induction l generalizing lo with
  | nil => simp [gaps, mem]; omega
  | cons x r ih =>
    obtain ⟨h1, h2⟩ := plainFrom_cons.1 h
    have h2' : plainFrom (x.hi + 1 - 2) r = true := plainFrom_mono h2 (by omega)
    show mem (⟨lo, x.lo - 1⟩ :: gaps (x.hi + 1) r) z ↔ _
    rw [mem_cons, mem_cons, ih h2']
    simp only
    constructor
    · rintro (h3 | h3)
      · refine ⟨h3.1, ?_⟩
        rintro (h4 | h4)
        · omega
        · have := plainFrom_bound h2 h4; omega
      · refine ⟨by omega, ?_⟩
        rintro (h4 | h4)
        · omega
        · exact h3.2 h4
    · rintro ⟨h3, h4⟩
      by_cases h5 : z < x.lo
      · exact .inl (by omega)
      · refine .inr ⟨?_, fun h6 => h4 (.inr h6)⟩
        by_cases h6 : z ≤ x.hi
        · exact absurd (.inl ⟨by omega, h6⟩) h4
        · omega
theorem minusF_plain (a b : List Span) : plain (minusF a b) = true := meetF_plain _ _
theorem mem_minusF {a b : List Span} {z : Int} : mem (minusF a b) z ↔ inSet a z ∧ ¬ inSet b z := by
  rw [minusF, mem_meetF]
  have h0 : plainFrom (-1073741824 - 2) (normF b) = true := normF_plain b
  constructor
  · rintro ⟨h1, h2⟩
    refine ⟨h1, fun h3 => ?_⟩
    exact ((mem_gaps h0 h2.1.2).1 h2.2).2 (mem_normF.2 h3)
  · rintro ⟨h1, h2⟩
    exact ⟨h1, h1.1, (mem_gaps h0 h1.1.2).2 ⟨h1.1.1, fun h3 => h2 (mem_normF.1 h3)⟩⟩
theorem joinStep_length (out : List Span) (x : Span) : (joinStep out x).length ≤ out.length + 1 := by
  unfold joinStep
  split
  · split
    · rename_i h _; obtain ⟨ini, rfl⟩ := List.getLast?_eq_some_iff.1 h; simp
    · simp
  · simp
theorem joinL_length (out r : List Span) : (joinL out r).length ≤ out.length + r.length := by
  induction r generalizing out with
  | nil => simp [joinL]
  | cons x r ih =>
    have h1 := ih (joinStep out x)
    have h2 := joinStep_length out x
    simp only [joinL, List.length_cons]
    omega
theorem normF_length (l : List Span) : (normF l).length ≤ l.length := by
  have h1 := joinL_length [] (sortLo (clampL l))
  have h2 := (sortLo_perm (clampL l)).length_eq
  have h3 : (clampL l).length ≤ l.length := List.length_filterMap_le _ _
  unfold normF
  simp only [List.length_nil] at h1
  omega
theorem meetGo_length (n : Nat) (xs ys : List Span) : (meetGo n xs ys).length ≤ n := by
  induction n generalizing xs ys with
  | zero => simp [meetGo]
  | succ n ih =>
    cases xs with
    | nil => simp [meetGo]
    | cons x xs =>
      cases ys with
      | nil => simp [meetGo]
      | cons y ys =>
        have h1 := ih xs (y :: ys)
        have h2 := ih (x :: xs) ys
        simp only [meetGo]
        split <;> split <;> (try simp only [List.length_cons]) <;> omega
theorem meetF_length (a b : List Span) : (meetF a b).length ≤ a.length + b.length := by
  have h1 := meetGo_length ((normF a).length + (normF b).length) (normF a) (normF b)
  have h2 := normF_length a
  have h3 := normF_length b
  unfold meetF
  omega
theorem meet_yes_left {p q : Span} {ps qs : List Span} (h : mx p.lo q.lo ≤ mn p.hi q.hi) (h' : p.hi < q.hi) : meetGo ((p :: ps).length + (q :: qs).length) (p :: ps) (q :: qs) = ⟨mx p.lo q.lo, mn p.hi q.hi⟩ :: meetGo (ps.length + (q :: qs).length) ps (q :: qs) := by
  rw [show (p :: ps).length + (q :: qs).length = (ps.length + (q :: qs).length) + 1 by simp only [List.length_cons]; omega]
  simp only [meetGo, if_pos h, if_pos h']
theorem meet_yes_right {p q : Span} {ps qs : List Span} (h : mx p.lo q.lo ≤ mn p.hi q.hi) (h' : ¬ p.hi < q.hi) : meetGo ((p :: ps).length + (q :: qs).length) (p :: ps) (q :: qs) = ⟨mx p.lo q.lo, mn p.hi q.hi⟩ :: meetGo ((p :: ps).length + qs.length) (p :: ps) qs := by
  rw [show (p :: ps).length + (q :: qs).length = ((p :: ps).length + qs.length) + 1 by simp only [List.length_cons]; omega]
  simp only [meetGo, if_pos h, if_neg h']
theorem meet_no_left {p q : Span} {ps qs : List Span} (h : ¬ mx p.lo q.lo ≤ mn p.hi q.hi) (h' : p.hi < q.hi) : meetGo ((p :: ps).length + (q :: qs).length) (p :: ps) (q :: qs) = meetGo (ps.length + (q :: qs).length) ps (q :: qs) := by
  rw [show (p :: ps).length + (q :: qs).length = (ps.length + (q :: qs).length) + 1 by simp only [List.length_cons]; omega]
  simp only [meetGo, if_neg h, if_pos h']
theorem meet_no_right {p q : Span} {ps qs : List Span} (h : ¬ mx p.lo q.lo ≤ mn p.hi q.hi) (h' : ¬ p.hi < q.hi) : meetGo ((p :: ps).length + (q :: qs).length) (p :: ps) (q :: qs) = meetGo ((p :: ps).length + qs.length) (p :: ps) qs := by
  rw [show (p :: ps).length + (q :: qs).length = ((p :: ps).length + qs.length) + 1 by simp only [List.length_cons]; omega]
  simp only [meetGo, if_neg h, if_neg h']
theorem mx_ok {a b : Int} (ha : I64 a) (hb : I64 b) : I64 (mx a b) := by unfold mx; split <;> assumption
theorem mn_ok {a b : Int} (ha : I64 a) (hb : I64 b) : I64 (mn a b) := by unfold mn; split <;> assumption
theorem minusF_nil {a b : List Span} : minusF a b = [] ↔ ∀ z, inSet a z → inSet b z := by
  rw [plain_nil_iff (minusF_plain a b)]
  constructor
  · intro h z hz
    by_cases hb : inSet b z
    · exact hb
    · exact absurd (mem_minusF.2 ⟨hz, hb⟩) (h z)
  · intro h z hz
    exact (mem_minusF.1 hz).2 (h z (mem_minusF.1 hz).1)
theorem meetF_nil {a b : List Span} : meetF a b = [] ↔ ∀ z, ¬ (inSet a z ∧ inSet b z) := by
  rw [plain_nil_iff (meetF_plain a b)]
  constructor
  · exact fun h z hz => h z (mem_meetF.2 hz)
  · exact fun h z hz => h z (mem_meetF.1 hz)
end Go.Um
namespace Go.Um
open Go.RowKit Go.Sort Go.Proofs

instance : Inhabited Span := ⟨⟨0, 0⟩⟩

theorem flatK_spans (xs : List Span) : flatK Span.cells 2 xs.toArray = (xs.flatMap Span.cells).toArray := by
  have hlen : (xs.flatMap Span.cells).length = xs.length * 2 := by
    induction xs with
    | nil => rfl
    | cons x r ih => rw [List.flatMap_cons, List.length_append, ih, List.length_cons, Nat.add_mul]; simp [Span.cells]; omega
  refine ext_get! (by simp [hlen]) fun t ht => ?_
  have ht' : t < xs.toArray.size * 2 := by simpa using ht
  rw [get_flatK _ _ _ _ ht']
  simp only [List.size_toArray] at ht'
  clear ht hlen
  induction xs generalizing t with
  | nil => simp at ht'
  | cons x r ih =>
    rw [List.flatMap_cons]
    match t with
    | 0 => rfl
    | 1 => rfl
    | t + 2 =>
      have h1 := ih t (by simp at ht'; omega)
      have e1 : (t + 2) / 2 = t / 2 + 1 := by omega
      have e2 : (t + 2) % 2 = t % 2 := by omega
      rw [e1, e2]
      simpa [Span.cells] using h1

theorem holds_flat {w : World} {g : Nat} {cur : Array Value} {e : TypeId} {F : List Value} (hb : w.heap[g]? = some (.cells cur e (0, 0))) (ht : cur.toList.take F.length = F) : Holds id w g 0 F.toArray := by
  intro j hj
  have hj' : j < F.length := by simpa using hj
  refine ⟨?_, by simp [World.frozen?, hb]⟩
  have h1 : (cur.toList.take F.length)[j]? = F[j]? := by rw [ht]
  rw [List.getElem?_take_of_lt hj'] at h1
  simp only [World.cell?, hb, Nat.zero_add]
  simp only [Option.isSome_none, Bool.false_eq_true, if_false]
  rw [← Array.getElem?_toList, h1]
  simp [hj']
theorem heap_flat {w : World} {g n : Nat} {os : Array Obj} {cur : Array Value} {e : TypeId} {fr : Nat × Nat} (d : Array Value) (hb : w.heap[g]? = some (.cells cur e fr)) :
    (grow (putRow id (Sort.ahead w n) g 0 d) os).heap[g]? = some (.cells (putCells id 0 d cur) e fr) := by
  have hg : g < w.heap.size := (Array.getElem?_eq_some_iff.1 hb).1
  rw [heap_grow_old _ _ (by simpa using hg)]
  simp [putRow, mapBlock, Sort.ahead, Array.getElem?_modify, hb, onCells]
theorem grown_flat {w : World} {g n : Nat} {os : Array Obj} (d : Array Value) : w.grownBy (grow (putRow id (Sort.ahead w n) g 0 d) os) (some g) := by
  refine ⟨rfl, rfl, rfl, by simp, fun k hk hne => ?_⟩
  rw [heap_grow_old _ _ (by simpa using hk)]
  have : g ≠ k := fun e => hne (by rw [e])
  simp [putRow, mapBlock, Sort.ahead, Array.getElem?_modify, this]
theorem take_flat (cur : Array Value) (F : List Value) (h : F.length ≤ cur.size) : (putCells id 0 F.toArray cur).toList.take F.length = F := by
  apply List.ext_getElem?
  intro j
  by_cases hj : j < F.length
  · rw [List.getElem?_take_of_lt hj, Array.getElem?_toList]
    simp [putCells, hj, show j < cur.size by omega]
  · rw [List.getElem?_take_eq_none (by omega), List.getElem?_eq_none (by omega)]

/-- cmp.Compare of the Los, less. -/
theorem ltLo (x y : Span) : ltOf (fun x y : Span => Lib.compareInt x.lo y.lo) x y = decide (x.lo < y.lo) := by
  unfold ltOf Lib.compareInt
  by_cases h1 : x.lo < y.lo
  · simp [h1]
  · by_cases h2 : y.lo < x.lo <;> simp [h1, h2]
theorem swoLo : SWO (ltOf fun x y : Span => Lib.compareInt x.lo y.lo) where
  irrefl x := by rw [ltLo]; simp
  trans x y z h1 h2 := by rw [ltLo] at *; simp at *; omega
  ntrans x y z h1 h2 := by rw [ltLo] at *; simp at *; omega

theorem sortedLo_of {d : Array Span} (h : SortedIn (ltOf fun x y : Span => Lib.compareInt x.lo y.lo) 0 d.size d) : SortedLo d.toList := by
  unfold SortedLo
  rw [List.pairwise_iff_getElem]
  intro i j hi hj hij
  have h1 := h i j (Nat.zero_le _) hij (by simpa using hj)
  rw [ltLo] at h1
  simp only [Array.length_toList] at hi hj
  rw [getElem!_pos d i hi, getElem!_pos d j hj] at h1
  simp at h1
  simpa using h1
theorem perm_of {d d' : Array Span} (h : PermIn 0 d.size d d') : d'.toList.Perm d.toList := by
  obtain ⟨h1, _, h3⟩ := h
  have e1 : d'.extract 0 d.size = d' := by rw [← h1]; simp
  have e2 : d.extract 0 d.size = d := by simp
  rwa [e1, e2] at h3

theorem length_cells (xs : List Span) : (xs.flatMap Span.cells).length = xs.length * 2 := by
  induction xs with
  | nil => rfl
  | cons x r ih => rw [List.flatMap_cons, List.length_append, ih, List.length_cons, Nat.add_mul]; simp [Span.cells]; omega

theorem OwnS.holds {e : TypeId} {w : World} {base g cap : Nat} {xs : List Span} (h : OwnS e w base (.slice (some ⟨g, 0, none⟩) xs.length cap) xs) : HoldsK Span.cells 2 w g 0 xs.toArray := by
  rcases h.1.2 with ⟨h0, _⟩ | ⟨g', cap', cur, hv, hb, hg, hn, hc, hs, ht⟩
  · cases h0
  · cases hv
    unfold HoldsK
    rw [flatK_spans]
    exact holds_flat hg (by rw [length_cells]; exact ht)
/-- behind the sort. -/
theorem OwnS.sorted {e : TypeId} {w : World} {base g cap n : Nat} {os : Array Obj} {xs ys : List Span} (h : OwnS e w base (.slice (some ⟨g, 0, none⟩) xs.length cap) xs) (hp : ys.Perm xs) :
    OwnS e (sortWorldK Span.cells 2 w g 0 n ys.toArray os) base (.slice (some ⟨g, 0, none⟩) xs.length cap) ys ∧ w.grownBy (sortWorldK Span.cells 2 w g 0 n ys.toArray os) (some g) := by
  have hl := hp.length_eq
  refine ⟨⟨?_, fun y hy => h.2 y (hp.mem_iff.1 hy)⟩, ?_⟩
  · rcases h.1.2 with ⟨h0, _⟩ | ⟨g', cap', cur, hv, hb, hg, hn, hc, hs, ht⟩
    · cases h0
    · cases hv
      rw [← hl]
      refine ⟨length_cells ys, .inr ⟨g, cap, putCells id 0 (ys.flatMap Span.cells).toArray cur, rfl, hb, ?_, by omega, hc, by simp [putCells, hs], ?_⟩⟩
      · unfold sortWorldK putRowK
        rw [flatK_spans]
        exact heap_flat _ hg
      · have := take_flat cur (ys.flatMap Span.cells) (by rw [length_cells, hs]; exact Nat.mul_le_mul_right 2 (by omega))
        rwa [length_cells] at this
  · unfold sortWorldK putRowK
    exact grown_flat _
end Go.Um
namespace Go.Um
open Go.RowKit

/-- outs lies at the row's beginning, ys from place i on where it lay. -/
def RowG (w : World) (e : TypeId) (g cap : Nat) (outs ys : List Span) (i : Nat) : Prop :=
  ∃ cur : Array Value, w.heap[g]? = some (.cells cur e (0, 0)) ∧ cur.size = cap * 2 ∧ outs.length ≤ i ∧ (∀ (j : Nat) (x : Span), outs[j]? = some x → cur[j * 2]? = some (.int .i64 x.lo) ∧ cur[j * 2 + 1]? = some (.int .i64 x.hi)) ∧
    ∀ (j : Nat) (x : Span), i ≤ j → ys[j]? = some x → cur[j * 2]? = some (.int .i64 x.lo) ∧ cur[j * 2 + 1]? = some (.int .i64 x.hi)

section
variable {w w' : World} {e : TypeId} {g cap : Nat} {outs ys : List Span} {i : Nat}
theorem RowG.keep (h : RowG w e g cap outs ys i) (hw : w'.heap[g]? = w.heap[g]?) : RowG w' e g cap outs ys i := by
  obtain ⟨cur, h1, h2⟩ := h
  exact ⟨cur, hw.trans h1, h2⟩
theorem RowG.lt (h : RowG w e g cap outs ys i) : g < w.heap.size := by
  obtain ⟨cur, h1, _⟩ := h
  exact (Array.getElem?_eq_some_iff.1 h1).1
theorem RowG.alloc (h : RowG w e g cap outs ys i) (o : Obj) : RowG (w.alloc o) e g cap outs ys i := h.keep (Below.heap_alloc w o g h.lt)
theorem RowG.out_cell (h : RowG w e g cap outs ys i) {j : Nat} {x : Span} (hx : outs[j]? = some x) : w.cell? ⟨g, j * 2, none⟩ = some (.int .i64 x.lo) ∧ w.cell? ⟨g, j * 2 + 1, none⟩ = some (.int .i64 x.hi) := by
  obtain ⟨cur, h1, h2, h3, h4, h5⟩ := h
  have := h4 j x hx
  exact ⟨(cell_of_row w g _ cur e (0, 0) h1).trans this.1, (cell_of_row w g _ cur e (0, 0) h1).trans this.2⟩
theorem RowG.in_cell (h : RowG w e g cap outs ys i) {j : Nat} {x : Span} (hj : i ≤ j) (hx : ys[j]? = some x) : w.cell? ⟨g, j * 2, none⟩ = some (.int .i64 x.lo) ∧ w.cell? ⟨g, j * 2 + 1, none⟩ = some (.int .i64 x.hi) := by
  obtain ⟨cur, h1, h2, h3, h4, h5⟩ := h
  have := h5 j x hj hx
  exact ⟨(cell_of_row w g _ cur e (0, 0) h1).trans this.1, (cell_of_row w g _ cur e (0, 0) h1).trans this.2⟩
theorem RowG.frozen (h : RowG w e g cap outs ys i) (j : Nat) : w.frozen? ⟨g, j, none⟩ = false := by
  obtain ⟨cur, h1, _⟩ := h
  simp [World.frozen?, h1]
theorem RowG.next (h : RowG w e g cap outs ys i) : RowG w e g cap outs ys (i + 1) := by
  obtain ⟨cur, h1, h2, h3, h4, h5⟩ := h
  exact ⟨cur, h1, h2, by omega, h4, fun j x hj hx => h5 j x (by omega) hx⟩
/-- the last one's Hi is written. -/
theorem RowG.store {ini : List Span} {t : Span} (h : RowG w e g cap (ini ++ [t]) ys i) (hi : Int) : RowG (w.setCell ⟨g, ini.length * 2 + 1, none⟩ (.int .i64 hi)) e g cap (ini ++ [⟨t.lo, hi⟩]) ys i := by
  obtain ⟨cur, h1, h2, h3, h4, h5⟩ := h
  refine ⟨cur.setIfInBounds (ini.length * 2 + 1) (.int .i64 hi), ?_, by simpa using h2, by simpa using h3, fun j x hx => ?_, fun j x hj hx => ?_⟩
  · simp [World.setCell, Array.getElem?_modify, h1]
  · by_cases hj : j = ini.length
    · subst hj
      simp at hx
      subst hx
      have h6 := h4 ini.length t (by simp)
      refine ⟨by rw [Array.getElem?_setIfInBounds_ne (by omega)]; exact h6.1, ?_⟩
      have hlt : ini.length * 2 + 1 < cur.size := (Array.getElem?_eq_some_iff.1 h6.2).1
      simp [hlt]
    · have hlt : j < ini.length := by
        have := (List.getElem?_eq_some_iff.1 hx).1
        simp at this
        omega
      have h6 := h4 j x (by rw [List.getElem?_append_left hlt] at hx ⊢; exact hx)
      exact ⟨by rw [Array.getElem?_setIfInBounds_ne (by omega)]; exact h6.1, by rw [Array.getElem?_setIfInBounds_ne (by omega)]; exact h6.2⟩
  · have h6 := h5 j x hj hx
    simp at h3
    exact ⟨by rw [Array.getElem?_setIfInBounds_ne (by omega)]; exact h6.1, by rw [Array.getElem?_setIfInBounds_ne (by omega)]; exact h6.2⟩
/-- one more lies behind the last one. -/
theorem RowG.push (h : RowG w e g cap outs ys i) (x : Span) {cur : Array Value} (hc : w.heap[g]? = some (.cells cur e (0, 0))) (hl : outs.length < cap)
    (hw : w'.heap[g]? = some (.cells (cur.toList.take (outs.length * 2) ++ [Value.int .i64 x.lo, Value.int .i64 x.hi] ++ cur.toList.drop (outs.length * 2 + 2)).toArray e (0, 0))) : RowG w' e g cap (outs ++ [x]) ys (i + 1) := by
  obtain ⟨cur', h1, h2, h3, h4, h5⟩ := h
  rw [hc] at h1
  obtain rfl : cur = cur' := by injection h1 with h1; injection h1
  have hsz : outs.length * 2 + 2 ≤ cur.size := by omega
  have hin : ∀ k, k < outs.length * 2 → (cur.toList.take (outs.length * 2) ++ [Value.int .i64 x.lo, Value.int .i64 x.hi] ++ cur.toList.drop (outs.length * 2 + 2)).toArray[k]? = cur[k]? := by
    intro k hk
    rw [List.getElem?_toArray, List.append_assoc, List.getElem?_append_left (by simp; omega), List.getElem?_take_of_lt hk, Array.getElem?_toList]
  have hout : ∀ k, outs.length * 2 + 2 ≤ k → (cur.toList.take (outs.length * 2) ++ [Value.int .i64 x.lo, Value.int .i64 x.hi] ++ cur.toList.drop (outs.length * 2 + 2)).toArray[k]? = cur[k]? := by
    intro k hk
    have hlen : (cur.toList.take (outs.length * 2) ++ [Value.int .i64 x.lo, Value.int .i64 x.hi]).length = outs.length * 2 + 2 := by simp; omega
    rw [List.getElem?_toArray, List.getElem?_append_right (by omega), hlen, List.getElem?_drop, Array.getElem?_toList]
    congr 1
    omega
  have hmid : ∀ k u, [Value.int .i64 x.lo, Value.int .i64 x.hi][k]? = some u → (cur.toList.take (outs.length * 2) ++ [Value.int .i64 x.lo, Value.int .i64 x.hi] ++ cur.toList.drop (outs.length * 2 + 2)).toArray[outs.length * 2 + k]? = some u := by
    intro k u hk
    have hlen : (cur.toList.take (outs.length * 2)).length = outs.length * 2 := by simp; omega
    have hk2 := (List.getElem?_eq_some_iff.1 hk).1
    rw [List.getElem?_toArray, List.append_assoc, List.getElem?_append_right (by omega), hlen, List.getElem?_append_left (by omega), Nat.add_sub_cancel_left]
    exact hk
  refine ⟨_, hw, ?_, by simp; omega, fun j y hy => ?_, fun j y hj hy => ?_⟩
  · simp; omega
  · by_cases hj : j = outs.length
    · subst hj
      simp at hy
      subst hy
      exact ⟨by have := hmid 0 _ rfl; simpa using this, hmid 1 _ rfl⟩
    · have hlt : j < outs.length := by
        have := (List.getElem?_eq_some_iff.1 hy).1
        simp at this
        omega
      have h6 := h4 j y (by rw [List.getElem?_append_left hlt] at hy; exact hy)
      exact ⟨(hin _ (by omega)).trans h6.1, (hin _ (by omega)).trans h6.2⟩
  · have h6 := h5 j y (by omega) hy
    exact ⟨(hout _ (by omega)).trans h6.1, (hout _ (by omega)).trans h6.2⟩
theorem RowG.own {base : Nat} (h : RowG w e g cap outs ys i) (hb : base ≤ g) (hl : outs.length ≤ cap) (hm : cap ≤ maxLen) (hx : ∀ x ∈ outs, x.ok) : OwnS e w base (.slice (some ⟨g, 0, none⟩) outs.length cap) outs := by
  obtain ⟨cur, h1, h2, h3, h4, h5⟩ := h
  refine ⟨⟨length_cells outs, .inr ⟨g, cap, cur, rfl, hb, h1, hl, hm, h2, ?_⟩⟩, hx⟩
  clear h1 h3 h5 hx
  have hle : outs.length * 2 ≤ cur.toList.length := by simp only [Array.length_toList, h2]; exact Nat.mul_le_mul_right 2 hl
  refine List.ext_getElem (by rw [List.length_take, length_cells]; omega) fun k k1 k2 => ?_
  rw [length_cells] at k2
  have hj : k / 2 < outs.length := by omega
  obtain ⟨x, hx⟩ := at_lt hj
  have h6 := h4 (k / 2) x hx
  have key : ∀ (l : List Span) (q : Nat) (y : Span), l[q]? = some y → (l.flatMap Span.cells)[q * 2]? = some (.int .i64 y.lo) ∧ (l.flatMap Span.cells)[q * 2 + 1]? = some (.int .i64 y.hi) := by
    intro l
    induction l with
    | nil => intro q y hq; simp at hq
    | cons a r ih =>
      intro q y hq
      rw [List.flatMap_cons]
      cases q with
      | zero => simp at hq; subst hq; exact ⟨rfl, rfl⟩
      | succ q =>
        have := ih q y (by simpa using hq)
        have e1 : (q + 1) * 2 = q * 2 + 2 := by omega
        rw [e1]
        simpa [Span.cells] using this
  have h7 := key outs (k / 2) x hx
  apply Option.some.inj
  rw [← List.getElem?_eq_getElem, ← List.getElem?_eq_getElem, List.getElem?_take_of_lt k2, Array.getElem?_toList]
  rcases Nat.mod_two_eq_zero_or_one k with hk | hk
  · have e1 : k / 2 * 2 = k := by omega
    rw [e1] at h6 h7
    rw [h6.1, h7.1]
  · have e1 : k / 2 * 2 + 1 = k := by omega
    rw [e1] at h6 h7
    rw [h6.2, h7.2]
theorem RowG.start {base : Nat} (h : OwnS e w base (.slice (some ⟨g, 0, none⟩) ys.length cap) ys) : RowG w e g cap [] ys 0 := by
  rcases h.1.2 with ⟨h0, _⟩ | ⟨g', cap', cur, hv, hb, hg, hn, hc, hs, ht⟩
  · cases h0
  · cases hv
    refine ⟨cur, hg, hs, Nat.le_refl _, fun j x hx => by simp at hx, fun j x _ hx => ?_⟩
    have hj := (List.getElem?_eq_some_iff.1 hx).1
    have key := list_at (r := spanR) h.rel hx
    obtain ⟨b, o, ds, h1, h2, ⟨rfl, h4, h5⟩, h7⟩ := key
    cases h1
    have k0 := h7 0 _ rfl
    have k1 := h7 1 _ rfl
    have hw2 : spanR.width = 2 := rfl
    rw [hw2, cell_of_row w g _ cur e (0, 0) hg] at k0 k1
    simp only [Nat.zero_add, Nat.add_zero] at k0 k1
    exact ⟨k0, k1⟩
end

theorem RowG.row {w : World} {e : TypeId} {g cap i : Nat} {outs ys : List Span} (h : RowG w e g cap outs ys i) : ∃ cur : Array Value, w.heap[g]? = some (.cells cur e (0, 0)) ∧ cur.size = cap * 2 := by
  obtain ⟨cur, h1, h2, _⟩ := h
  exact ⟨cur, h1, h2⟩
theorem okS_snoc {l : List Span} {x : Span} (h : ∀ y ∈ l, okS y) (hx : okS x) : ∀ y ∈ l ++ [x], okS y := by
  intro y hy
  rcases List.mem_append.1 hy with hy | hy
  · exact h y hy
  · simp at hy; subst hy; exact hx
theorem joinStep_nil (x : Span) : joinStep [] x = [x] := rfl
theorem joinStep_yes {ini : List Span} {t x : Span} (h : x.lo ≤ t.hi + 1) : joinStep (ini ++ [t]) x = ini ++ [⟨t.lo, max t.hi x.hi⟩] := by simp [joinStep, h]
theorem joinStep_no {ini : List Span} {t x : Span} (h : ¬ x.lo ≤ t.hi + 1) : joinStep (ini ++ [t]) x = (ini ++ [t]) ++ [x] := by simp [joinStep, h]
/-- an append for which there is room, to the cell. -/
theorem wpList_append_here {P : Program} (w : World) {ops : Array Oper} {rest : List Oper} {o : Oper} {a : Act} {Q : Exit → Act → World → Prop} (hgd : o.guard = none) (s x : Operand) (t : TypeId)
    (ho : o.op = .call { callee := .builtin .append, args := #[s, x], argTypes := #[t, t] }) (e : TypeId) (i : TypeInfo) (ht : P.underlying t = some (.slice e)) (hi : P.info? e = some i)
    (g n cap : Nat) (cur : Array Value) (hs : a.eval s = .slice (some ⟨g, 0, none⟩) n cap) (hg : w.heap[g]? = some (.cells cur e (0, 0)))
    (ad : Addr) (m c : Nat) (news : List Value) (hx : a.eval x = .slice (some ad) m c) (hl : news.length = m * i.size) (hnews : ∀ j u, news[j]? = some u → w.cell? (ad.add j) = some u) (h1 : ∀ u ∈ news, u.oneCell' = true)
    (hroom : n + m ≤ cap) (hfit : n * i.size + news.length ≤ cur.size)
    (h : ∀ w', w'.heap[g]? = some (.cells (cur.toList.take (n * i.size) ++ news ++ cur.toList.drop (n * i.size + news.length)).toArray e (0, 0)) → w.grownBy w' (some g) → wpList P ops Q rest (a.put o.dst (.slice (some ⟨g, 0, none⟩) (n + m) cap)) w') : wpList P ops Q (o :: rest) a w := by
  refine wpList_plain hgd fun K hK => ?_
  have hrun := run_append_room (P := P) w t o.type e i ht hi g n cap cur hg ad m c news hl hnews h1 hroom hfit
  unfold Oper.wp
  simp only [execOp, ho, resolve, invoke, builtin, Sem.run_bind, Sem.run_pure, Result.andThen_ok, List.map_toArray, List.map_cons, List.map_nil, hs, hx, hrun]
  exact hK _ _ (h _ (setRow_heap w g cur _ e _ hg) ⟨rfl, rfl, rfl, by simp, fun k _ hk => setRow_other w g k _ (fun e => hk (by simp [e]))⟩)
end Go.Um
namespace Go.Um
open Go.RowKit

section
variable {P : Program} {md : Region.Mode} {ops : Array Oper} {Q : Exit → Act → World → Prop} {S : World → Prop} {last : Nat}

/-- Whatever order is picked from here on; S holds behind each operation, but perhaps behind the one that is last. -/
def anyL (P : Program) (md : Region.Mode) (ops : Array Oper) (Q : Exit → Act → World → Prop) (S : World → Prop) (last : Nat) : Nat → Array Bool → Act → World → Prop
  | 0, listed, a, w => Region.ready md ops listed = [] ∧ Q .normal a w
  | f + 1, listed, a, w => (Region.ready md ops listed = [] → Q .normal a w) ∧
      ∀ i ∈ Region.ready md ops listed, wpOp P ops Q i (fun a' w' => (i ≠ last → S w') ∧ anyL P md ops Q S last f (listed.setIfInBounds i true) a' w') a w

theorem any_of_anyL : ∀ (f : Nat) (listed : Array Bool) (a : Act) (w : World), anyL P md ops Q S last f listed a w → wpAny P md ops Q f listed a w
  | 0, _, _, _, h => h
  | f + 1, _, _, _, h => ⟨h.1, fun i hi => wpOp_mono (fun a' w' h' => any_of_anyL f _ a' w' h'.2) (h.2 i hi)⟩

/-- what is last waits for number i: by itself, or for one that has not come up and waits for it. -/
def LastWaits (md : Region.Mode) (ops : Array Oper) (last i : Nat) (listed : Array Bool) : Prop :=
  ∀ ol, ops[last]? = some ol → ∃ e ∈ ol.after, Region.binds md e = true ∧ (e.on = i ∨ (listed.getD e.on false = false ∧ ∃ ok, ops[e.on]? = some ok ∧ ∃ e' ∈ ok.after, Region.binds md e' = true ∧ e'.on = i))

theorem anyL_first {i : Nat} {oi : Oper} {v : Value} (hi : ops[i]? = some oi) (hsel : ∀ (j : Nat) (o : Oper) (cs : Array SelectCase) (b : Bool), ops[j]? = some o → o.op ≠ .select cs b)
    (hQ : ∀ c a w, Q (.panic c) (a.put oi.dst v) w → Q (.panic c) a w) (hil : i ≠ last) :
    ∀ (f : Nat) (listed : Array Bool) (a : Act) (w : World),
      (∀ j oj, ops[j]? = some oj → j ≠ i → listed.getD j true = false → (∀ e ∈ oj.after, Region.binds md e = true → e.on ≠ i) → oi.apart ops oj = true) →
      LastWaits md ops last i listed → i ∈ Region.ready md ops listed → YieldsIf P ops S oi v a → S w →
      anyL P md ops Q S last f (listed.setIfInBounds i true) (a.put oi.dst v) w → anyL P md ops Q S last (f + 1) listed a w := by
  intro f
  induction f with
  | zero =>
    intro listed a w _ _ hr hy hS H
    refine ⟨fun h => (by rw [h] at hr; cases hr), fun j hj => ?_⟩
    by_cases hji : j = i
    · subst hji; exact hy.wpOp hi hS ⟨fun _ => hS, H⟩
    · have := ready_mono hj hji
      rw [H.1] at this
      cases this
  | succ f ih =>
    intro listed a w hfree hlw hr hy hS H
    refine ⟨fun h => (by rw [h] at hr; cases hr), fun j hj => ?_⟩
    by_cases hji : j = i
    · subst hji; exact hy.wpOp hi hS ⟨fun _ => hS, H⟩
    · have h1 := H.2 j (ready_mono hj hji)
      obtain ⟨hjun, oj, hoj, hall⟩ := mem_ready.1 hj
      have hnot : ∀ e ∈ oj.after, Region.binds md e = true → e.on ≠ i := fun e he hb heq => by
        have g1 := hall e he hb
        have g0 := (mem_ready.1 hr).1
        rw [heq] at g1
        rcases Nat.lt_or_ge i listed.size with h' | h'
        · simp [h'] at g0 g1; rw [g0] at g1; cases g1
        · simp [Array.getElem?_eq_none h'] at g1
      have hjl : j ≠ last := fun hjl => by
        subst hjl
        obtain ⟨e, he, hb, hon | ⟨hun, _⟩⟩ := hlw oj hoj
        · exact hnot e he hb hon
        · rw [hall e he hb] at hun; cases hun
      have hlw' : LastWaits md ops last i (listed.setIfInBounds j true) := fun ol hol => by
        obtain ⟨e, he, hb, hon | ⟨hun, ok, hok, e', he', hb', hon'⟩⟩ := hlw ol hol
        · exact ⟨e, he, hb, .inl hon⟩
        · refine ⟨e, he, hb, .inr ⟨?_, ok, hok, e', he', hb', hon'⟩⟩
          have hne : j ≠ e.on := fun hje => by
            subst hje
            rw [hoj] at hok
            cases hok
            exact hnot e' he' hb' hon'
          rw [getD_set_ne false hne]; exact hun
      have h2 := wpOp_putIf hoj (hfree j oj hoj hji hjun hnot) (fun cs b => hsel i oi cs b hi) (fun cs b => hsel j oj cs b hoj) hQ hy h1
      have hfree' : ∀ k ok, ops[k]? = some ok → k ≠ i → (listed.setIfInBounds j true).getD k true = false →
          (∀ e ∈ ok.after, Region.binds md e = true → e.on ≠ i) → oi.apart ops ok = true := fun k ok hk hki hun hno => by
        refine hfree k ok hk hki ?_ hno
        by_cases hjk : j = k
        · subst hjk; exact hjun
        · rw [getD_set_ne true hjk] at hun; exact hun
      refine wpOp_mono (fun a' w' h3 => ⟨h3.2.1, ih (listed.setIfInBounds j true) a' w' hfree' hlw' (ready_mono hr (Ne.symm hji)) h3.1 (h3.2.1 hjl) ?_⟩) h2
      rw [Array.setIfInBounds_comm _ _ hji]
      exact h3.2.2

/-- an operation that hands back a value, or does not run. -/
def plainOp : Op → Bool
  | .move _ | .assign _ | .pick .. | .build .. | .load .. | .binOp .. | .unOp .. | .convert .. | .slice .. | .fieldAddr .. | .field .. | .indexAddr .. | .index .. | .extract .. | .lookup .. | .nilCheck _ => true
  | .call { callee := .builtin .len, .. } | .call { callee := .builtin .cap, .. } | .call { callee := .builtin .max, .. } | .call { callee := .builtin .min, .. } => true
  | _ => false

theorem value_of_bind {s : Sem Value} {w w' : World} {n : Next} (h : (do pure (Next.value (← s)) : Sem Next).run P w = .ok n w') : ∃ u, n = .value u := by
  rw [Sem.run_bind] at h
  cases hs : s.run P w with
  | ok u w'' =>
    rw [hs] at h
    simp only [Result.andThen_ok, Sem.run_pure] at h
    injection h with h1 h2
    exact ⟨u, h1.symm⟩
  | halt x w'' =>
    rw [hs] at h
    cases h

theorem value_of_then {α : Type} {s : Sem α} {f : α → Value} {w w' : World} {n : Next} (h : (s >>= fun a => pure (Next.value (f a))).run P w = .ok n w') : ∃ u, n = .value u := by
  rw [Sem.run_bind] at h
  cases hs : s.run P w with
  | ok u w'' =>
    rw [hs] at h
    simp only [Result.andThen_ok, Sem.run_pure] at h
    injection h with h1 h2
    exact ⟨_, h1.symm⟩
  | halt x w'' =>
    rw [hs] at h
    cases h
theorem nilCheck_value {x : Operand} {ρ : Operand → Value} {w w' : World} {n : Next} {d ty pos after guard} (h : (execOp ρ ⟨d, .nilCheck x, ty, pos, after, guard⟩).run P w = .ok n w') : ∃ u, n = .value u := by
  simp only [execOp] at h
  split at h
  · simp [runtimePanic] at h
  · simp [runtimePanic] at h
  · simp [runtimePanic] at h
  · split at h
    · simp [runtimePanic] at h
    · rename_i t v _
      rw [Sem.run_bind] at h
      cases hs : Sem.run P program w with
      | halt x w1 => rw [hs] at h; cases h
      | ok a w1 =>
        rw [hs] at h
        simp only [Result.andThen_ok] at h
        rw [Sem.run_bind] at h
        generalize hq : Sem.run P (nilAhead _ _ _ _) w1 = q at h
        cases q with
        | halt x w2 => cases h
        | ok b w2 =>
          simp only [Result.andThen_ok] at h
          split at h
          · exact value_of_then h
          · simp only [Sem.run_pure] at h
            injection h with h1 h2
            exact ⟨_, h1.symm⟩
    · simp only [Sem.run_pure] at h
      injection h with h1 h2
      exact ⟨_, h1.symm⟩
  · simp only [Sem.run_pure] at h
    injection h with h1 h2
    exact ⟨_, h1.symm⟩
theorem plainOp_value {o : Oper} {ρ : Operand → Value} {w w' : World} {n : Next} (hp : plainOp o.op = true) (h : (execOp ρ o).run P w = .ok n w') : ∃ u, n = .value u := by
  obtain ⟨dst, op, ty, pos, after, guard⟩ := o
  cases op <;> simp only [plainOp, Bool.false_eq_true] at hp
  case call c =>
    obtain ⟨callee, args, argTypes⟩ := c
    cases callee with
    | builtin b =>
      cases b <;> simp only [Bool.false_eq_true] at hp <;>
        (simp only [execOp, resolve, Sem.run_bind, Sem.run_pure, Result.andThen_ok, invoke, builtin] at h
         exact value_of_bind (P := P) (w := w) (w' := w') (by rw [Sem.run_bind]; exact h))
    | value f => simp at hp
    | invoke r m => simp at hp
  case move x => simp only [execOp, Sem.run_pure] at h; injection h with h1 h2; exact ⟨_, h1.symm⟩
  case assign x => simp only [execOp, Sem.run_pure] at h; injection h with h1 h2; exact ⟨_, h1.symm⟩
  case pick c x y => exact value_of_bind (s := do pure (if ← asBool (ρ c) then ρ x else ρ y)) (by simpa [execOp, Sem.run_bind] using h)
  case nilCheck x => exact nilCheck_value h
  all_goals exact value_of_bind h

/-- may these be taken first, one behind the other, in this order? -/
def batchB (md : Region.Mode) (ops : Array Oper) (last : Nat) (listed : Array Bool) : List Nat → Bool
  | [] => true
  | i :: r => (Region.ready md ops listed).contains i && Region.free md ops listed i && i != last &&
      (match ops[last]? with | some ol => ol.after.any (fun e => Region.binds md e && (e.on == i || (!listed.getD e.on false && (match ops[e.on]? with | some ok => ok.after.any (fun e' => Region.binds md e' && e'.on == i) | none => false)))) | none => true) &&
      (match ops[i]? with | some o => plainOp o.op | none => false) && batchB md ops last (listed.setIfInBounds i true) r
def marked (listed : Array Bool) (l : List Nat) : Array Bool := l.foldl (fun s i => s.setIfInBounds i true) listed

theorem put_panic (hQ : ∀ c (t u : Array Value) ds w, Q (.panic c) ⟨t, ds⟩ w → Q (.panic c) ⟨u, ds⟩ w) {c : List PanicEntry} {a : Act} {d : Option Tmp} {v : Value} {w : World} (h : Q (.panic c) (a.put d v) w) : Q (.panic c) a w := by
  cases d with
  | none => exact h
  | some d => exact hQ c _ _ _ w h
theorem anyL_batch (hs : Region.noSelect ops = true) (hQ : ∀ c (t u : Array Value) ds w, Q (.panic c) ⟨t, ds⟩ w → Q (.panic c) ⟨u, ds⟩ w) {w : World} (hS : S w) {f : Nat} :
    ∀ (l : List Nat) (lo : List Oper) (listed : Array Bool) (a : Act), l.map (ops[·]?) = lo.map some → batchB md ops last listed l = true →
      wpQuiet P ops S (fun a' => anyL P md ops Q S last f (marked listed l) a' w) lo a → anyL P md ops Q S last (f + l.length) listed a w := by
  intro l
  induction l with
  | nil =>
    intro lo listed a hlo _ h
    have : lo = [] := by cases lo <;> simp_all
    subst this
    exact h
  | cons i r ih =>
    intro lo listed a hlo hB h
    cases lo with
    | nil => simp at hlo
    | cons o lo =>
      simp only [List.map_cons, List.cons.injEq] at hlo
      obtain ⟨ho, hlo⟩ := hlo
      simp only [batchB, Bool.and_eq_true, bne_iff_ne] at hB
      obtain ⟨⟨⟨⟨⟨hr, hf⟩, hne⟩, hl⟩, hp⟩, hB⟩ := hB
      rw [ho] at hp
      simp only at hp
      have hl' : LastWaits md ops last i listed := by
        intro ol hol
        rw [hol] at hl
        obtain ⟨e, he, hb⟩ := Array.any_eq_true'.1 hl
        simp only [Bool.and_eq_true, Bool.or_eq_true, beq_iff_eq, Bool.not_eq_true'] at hb
        obtain ⟨hb1, hb2⟩ := hb
        refine ⟨e, he, hb1, ?_⟩
        rcases hb2 with hb2 | ⟨hb2, hb3⟩
        · exact .inl hb2
        · right
          refine ⟨hb2, ?_⟩
          cases hk : ops[e.on]? with
          | none => rw [hk] at hb3; cases hb3
          | some ok =>
            rw [hk] at hb3
            obtain ⟨e', he', hb'⟩ := Array.any_eq_true'.1 hb3
            simp only [Bool.and_eq_true, beq_iff_eq] at hb'
            exact ⟨ok, rfl, e', he', hb'⟩
      have key : ∃ v, YieldsIf P ops S o v a ∧ wpQuiet P ops S (fun a' => anyL P md ops Q S last f (marked listed (i :: r)) a' w) lo (a.put o.dst v) := by
        simp only [wpQuiet] at h
        split at h
        · rename_i hw
          obtain ⟨v, h1, h2⟩ := h
          refine ⟨v, .inl ⟨hw, fun w' hw' => ?_⟩, h2⟩
          have h3 := h1 w' hw'
          unfold Oper.quietAt at h3
          cases hrun : (execOp a.eval o).run P w' with
          | ok n w'' =>
            obtain ⟨u, rfl⟩ := plainOp_value hp hrun
            rw [hrun] at h3
            obtain ⟨rfl, rfl⟩ := h3
            rfl
          | halt x w'' =>
            rw [hrun] at h3
            exact h3.elim
        · rename_i hw
          exact ⟨undef, .inr ⟨by simpa using hw, rfl⟩, h⟩
      obtain ⟨v, hy, hrest⟩ := key
      have h4 := ih lo (listed.setIfInBounds i true) (a.put o.dst v) hlo hB hrest
      exact anyL_first ho (Region.noSelect_spec hs) (fun c a w h => put_panic hQ h) hne _ listed a w (Region.free_spec ho hf) hl' (by simpa using hr) hy hS h4

theorem range_picks (lo : List Oper) : ∀ (n k : Nat), k + n ≤ lo.length → (List.range' k n).map (lo.toArray[·]?) = ((lo.drop k).take n).map some := by
  intro n
  induction n with
  | zero => intro k _; simp
  | succ n ih =>
    intro k hk
    rw [List.range'_succ, List.map_cons, ih (k + 1) (by omega)]
    have hlt : k < lo.length := by omega
    rw [List.drop_eq_getElem_cons hlt, List.take_succ_cons, List.map_cons]
    congr 1
    simp [hlt]
/-- so many, one behind the other in the text, from number k on. -/
theorem anyL_seg {lo : List Oper} (k n : Nat) (hs : Region.noSelect lo.toArray = true) (hQ : ∀ c (t u : Array Value) ds w, Q (.panic c) ⟨t, ds⟩ w → Q (.panic c) ⟨u, ds⟩ w) {w : World} (hS : S w) {f F : Nat} {listed : Array Bool} {a : Act}
    (hF : F = f + n) (hk : Nat.ble (k + n) lo.length = true) (hB : batchB md lo.toArray last listed (List.range' k n) = true)
    (h : wpQuiet P lo.toArray S (fun a' => anyL P md lo.toArray Q S last f (marked listed (List.range' k n)) a' w) ((lo.drop k).take n) a) : anyL P md lo.toArray Q S last F listed a w := by
  subst hF
  have := anyL_batch (P := P) (md := md) (ops := lo.toArray) (Q := Q) (S := S) (last := last) hs hQ hS (f := f) (List.range' k n) ((lo.drop k).take n) listed a (range_picks lo n k (Nat.le_of_ble_eq_true hk)) hB h
  simpa using this

/-- the beginning. -/
theorem region_anyL {id : Nat} {a : Act} {w : World} (hm : P.follows .mixedOrders = true) (h : anyL P .any ops Q S last ops.size (Array.replicate ops.size false) a w.drew) : (Code.region id ops true).wp P Q a w :=
  wp_region_any hm (any_of_anyL _ _ _ _ h)

/-- what alone may come up now. -/
theorem anyL_act {i f : Nat} {o : Oper} {listed : Array Bool} {a : Act} {w : World} (hr : Region.ready md ops listed = [i]) (ho : ops[i]? = some o) (hg : o.guard = none)
    (h : ∀ K : Act → World → Prop, Hid (∀ a' w', (i ≠ last → S w') → anyL P md ops Q S last f (listed.setIfInBounds i true) a' w' → K a' w') → o.wp P a w K Q) : anyL P md ops Q S last (f + 1) listed a w := by
  refine ⟨fun h0 => (by rw [hr] at h0; cases h0), fun j hj => ?_⟩
  rw [hr] at hj
  obtain rfl : j = i := by simpa using hj
  unfold wpOp
  simp only [ho]
  rw [if_pos (by simp [Region.wanted, hg])]
  exact .inl (h _ (fun a' w' h1 h2 => ⟨h1, h2⟩))

/-- all have come up. -/
theorem anyL_done {listed : Array Bool} {a : Act} {w : World} (hr : Region.ready md ops listed = []) (h : Q .normal a w) : ∀ f, anyL P md ops Q S last f listed a w
  | 0 => ⟨hr, h⟩
  | _ + 1 => ⟨fun _ => h, by rw [hr]; simp⟩
end

/-- the worlds that go on from one, by a name that the walk does not look behind. -/
theorem ext_class (w : World) : ∃ (ι : Type) (W : ι → World), (∃ i, W i = w) ∧ (∀ i, Below w.heap.size w (W i)) ∧ ∀ i w', Below (W i).heap.size (W i) w' → ∃ j, w' = W j := by
  refine ⟨{ w' : World // Below w.heap.size w w' }, fun i => i.1, ⟨⟨w, Below.refl _ _⟩, rfl⟩, fun i => i.2, fun i w' h => ⟨⟨w', ?_⟩, rfl⟩⟩
  exact i.2.trans (h.mono i.2.size)
end Go.Um
