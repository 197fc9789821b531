/-
  Words for memory: how cells read as plain data, and what keeps such a reading. No program is named here.
-/
import Derived.WalkKit
import Derived.WalkSpells
import Derived.WalkLawsBesides
import Derived.Deep.QuietTactic
import Derived.BigQuiet
import Derived.Deep.RegionHeld3
namespace Go.Um
open Go.RowKit

/-- a number of Go's int. -/
def I64 (x : Int) : Prop := -9223372036854775808 ≤ x ∧ x ≤ 9223372036854775807
theorem I64.lo {x : Int} (h : I64 x) : -9223372036854775808 ≤ x := h.1
theorem I64.hi {x : Int} (h : I64 x) : x ≤ 9223372036854775807 := h.2
theorem I64.of {x : Int} (h : -1000000000000000000 ≤ x) (h' : x ≤ 1000000000000000000) : I64 x := ⟨by omega, by omega⟩

/-- How so many cells read as one thing; the blocks that are reached lie in S. -/
structure RepOf (α : Type) where
  width : Nat
  rel : World → (Nat → Prop) → List Value → α → Prop
  len : ∀ {w : World} {S : Nat → Prop} {cs : List Value} {x : α}, rel w S cs x → cs.length = width
  mono : ∀ {w w' : World} {S S' : Nat → Prop} {cs : List Value} {x : α}, (∀ p : Addr, S p.block → w'.cell? p = w.cell? p) → (∀ b, S b → S' b) → rel w S cs x → rel w' S' cs x

/-- one int. -/
def intR : RepOf Int where
  width := 1
  rel := fun _ _ cs x => cs = [.int .i64 x] ∧ I64 x
  len := by rintro w S cs x ⟨rfl, _⟩; rfl
  mono := by intro w w' S S' cs x _ _ h; exact h

/-- a bool. -/
def boolR : RepOf Bool where
  width := 1
  rel := fun _ _ cs x => cs = [.bool x]
  len := by rintro w S cs x rfl; rfl
  mono := by intro w w' S S' cs x _ _ h; exact h

/-- so many elements from a place on, each by its own cells. -/
def rowAt {α : Type} (r : RepOf α) (w : World) (S : Nat → Prop) (b o : Nat) (xs : List α) : Prop :=
  ∀ (i : Nat) (x : α), xs[i]? = some x → ∃ ds, r.rel w S ds x ∧ ∀ (j : Nat) (v : Value), ds[j]? = some v → w.cell? ⟨b, o + i * r.width + j, none⟩ = some v

/-- a slice that reads as a list; nil let in. -/
def listRel {α : Type} (r : RepOf α) (w : World) (S : Nat → Prop) (cs : List Value) (xs : List α) : Prop :=
  ∃ A n cap, cs = [.slice A n cap] ∧ n = xs.length ∧ n ≤ cap ∧ cap ≤ maxLen ∧ (n = 0 ∨ ∃ b o, A = some ⟨b, o, none⟩ ∧ S b ∧ rowAt r w S b o xs)

theorem rowAt_mono {α : Type} {r : RepOf α} {w w' : World} {S S' : Nat → Prop} {b o : Nat} {xs : List α} (hw : ∀ p : Addr, S p.block → w'.cell? p = w.cell? p) (hS : ∀ b, S b → S' b)
    (hb : S b) (h : rowAt r w S b o xs) : rowAt r w' S' b o xs := fun i x hx => by
  obtain ⟨ds, h1, h2⟩ := h i x hx
  exact ⟨ds, r.mono hw hS h1, fun j v hv => (hw _ hb).trans (h2 j v hv)⟩

def listR {α : Type} (r : RepOf α) : RepOf (List α) where
  width := 1
  rel := listRel r
  len := by rintro w S cs x ⟨A, n, cap, rfl, _⟩; rfl
  mono := by
    rintro w w' S S' cs x hw hS ⟨A, n, cap, h1, h2, h3, h4, h5⟩
    refine ⟨A, n, cap, h1, h2, h3, h4, ?_⟩
    rcases h5 with h5 | ⟨b, o, h5, h6, h7⟩
    · exact .inl h5
    · exact .inr ⟨b, o, h5, hS b h6, rowAt_mono hw hS h6 h7⟩

/-- All blocks that are there. -/
abbrev upto (B : Nat) : Nat → Prop := fun b => b < B

theorem below_cells {B : Nat} {w w' : World} (hb : Below B w w') : ∀ p : Addr, upto B p.block → w'.cell? p = w.cell? p := fun _ hp => hb.cell hp

theorem RepOf.below {α : Type} (r : RepOf α) {B B' : Nat} {w w' : World} {cs : List Value} {x : α} (h : r.rel w (upto B) cs x) (hb : Below B w w') (hB : B ≤ B') : r.rel w' (upto B') cs x :=
  r.mono (below_cells hb) (fun _ h => Nat.lt_of_lt_of_le h hB) h

theorem RepOf.later {α : Type} (r : RepOf α) {w w' : World} {cs : List Value} {x : α} (h : r.rel w (upto w.heap.size) cs x) (hb : Below w.heap.size w w') : r.rel w' (upto w'.heap.size) cs x :=
  r.below h hb hb.size

/-- a slice's shape. -/
theorem list_form {α : Type} {r : RepOf α} {w : World} {S : Nat → Prop} {v : Value} {xs : List α} (h : (listR r).rel w S [v] xs) :
    ∃ A cap, v = .slice A xs.length cap ∧ xs.length ≤ cap ∧ cap ≤ maxLen := by
  obtain ⟨A, n, cap, h1, h2, h3, h4, _⟩ := h
  simp at h1
  subst h2
  exact ⟨A, cap, h1, h3, h4⟩

theorem list_len {α : Type} {r : RepOf α} {w : World} {S : Nat → Prop} {A : Option Addr} {n cap : Nat} {xs : List α} (h : (listR r).rel w S [.slice A n cap] xs) : n = xs.length ∧ n ≤ cap ∧ cap ≤ maxLen := by
  obtain ⟨A, n', cap, h1, h2, h3, h4, _⟩ := h
  simp at h1
  obtain ⟨rfl, rfl, rfl⟩ := h1
  exact ⟨h2, h3, h4⟩

/-- an element, by its place. -/
theorem list_at {α : Type} {r : RepOf α} {w : World} {S : Nat → Prop} {A : Option Addr} {n cap : Nat} {xs : List α} (h : (listR r).rel w S [.slice A n cap] xs) {i : Nat} {x : α} (hx : xs[i]? = some x) :
    ∃ b o ds, A = some ⟨b, o, none⟩ ∧ S b ∧ r.rel w S ds x ∧ ∀ (j : Nat) (v : Value), ds[j]? = some v → w.cell? ⟨b, o + i * r.width + j, none⟩ = some v := by
  obtain ⟨A, n', cap, h1, h2, h3, h4, h5⟩ := h
  simp at h1
  obtain ⟨rfl, rfl, rfl⟩ := h1
  rcases h5 with h5 | ⟨b, o, h5, h6, h7⟩
  · have : xs = [] := List.eq_nil_of_length_eq_zero (by omega)
    subst this
    simp at hx
  · obtain ⟨ds, h8, h9⟩ := h7 i x hx
    exact ⟨b, o, ds, h5, h6, h8, h9⟩

/-- an element of one cell. -/
theorem list_at1 {α : Type} {r : RepOf α} (hr : r.width = 1) {w : World} {S : Nat → Prop} {A : Option Addr} {n cap : Nat} {xs : List α} (h : (listR r).rel w S [.slice A n cap] xs) {i : Nat} {x : α} (hx : xs[i]? = some x) :
    ∃ b o v, A = some ⟨b, o, none⟩ ∧ S b ∧ r.rel w S [v] x ∧ w.cell? ⟨b, o + i, none⟩ = some v := by
  obtain ⟨b, o, ds, h1, h2, h3, h4⟩ := list_at h hx
  have hl := r.len h3
  rw [hr] at hl h4
  match ds, hl with
  | [v], _ => exact ⟨b, o, v, h1, h2, h3, by simpa using h4 0 v rfl⟩

/-- a slice's own shape, with its row's address where there is something. -/
theorem list_open {α : Type} {r : RepOf α} {w : World} {S : Nat → Prop} {v : Value} {xs : List α} (h : (listR r).rel w S [v] xs) :
    ∃ A n cap, v = .slice A n cap ∧ n = xs.length ∧ n ≤ cap ∧ cap ≤ maxLen ∧ (n = 0 ∨ ∃ b o, A = some ⟨b, o, none⟩ ∧ S b ∧ rowAt r w S b o xs) := by
  obtain ⟨A, n, cap, h1, h2⟩ := h
  simp at h1
  exact ⟨A, n, cap, h1, h2⟩

/-- nil. -/
theorem list_nil {α : Type} (r : RepOf α) (w : World) (S : Nat → Prop) : (listR r).rel w S [.slice none 0 0] [] := ⟨none, 0, 0, rfl, rfl, Nat.le_refl _, Nat.zero_le _, .inl rfl⟩

/-- what is left of a slice behind its first so many. -/
theorem list_cut {α : Type} {r : RepOf α} {w : World} {S : Nat → Prop} {A : Option Addr} {n cap k : Nat} {xs : List α} (h : (listR r).rel w S [.slice A n cap] xs) (hk : k ≤ n) :
    (listR r).rel w S [.slice (if cap = k then A else A.map (·.add (k * r.width))) (n - k) (cap - k)] (xs.drop k) := by
  obtain ⟨A, n', cap, h1, h2, h3, h4, h5⟩ := h
  simp at h1
  obtain ⟨rfl, rfl, rfl⟩ := h1
  refine ⟨_, _, _, rfl, by rw [List.length_drop, h2], by omega, by omega, ?_⟩
  by_cases hn : n - k = 0
  · exact .inl hn
  · right
    rcases h5 with h5 | ⟨b, o, rfl, h6, h7⟩
    · omega
    · rw [if_neg (by omega)]
      refine ⟨b, o + k * r.width, ?_, h6, fun i x hx => ?_⟩
      · simp only [Option.map_some, Addr.add]
        split
        · rename_i h0; rw [h0]; simp
        · rfl
      · obtain ⟨ds, h8, h9⟩ := h7 (k + i) x (by rw [← hx, List.getElem?_drop])
        refine ⟨ds, h8, fun j v hv => ?_⟩
        rw [show o + k * r.width + i * r.width + j = o + (k + i) * r.width + j by rw [Nat.add_mul]; omega]
        exact h9 j v hv

/-- a row that the call owns reads as a list, whose elements need no memory. -/
theorem own_list {α : Type} {r : RepOf α} {enc : α → List Value} {w : World} {S : Nat → Prop} {base : Nat} {e : TypeId} {v : Value} {xs : List α} (h : w.ownsRow base e r.width v xs.length (xs.flatMap enc))
    (hS : ∀ g, v.ownBlock = some g → S g) (hx : ∀ x ∈ xs, (enc x).length = r.width ∧ r.rel w S (enc x) x) : (listR r).rel w S [v] xs := by
  rcases h.2 with ⟨rfl, hn⟩ | ⟨g, cap, cur, rfl, hb, hg, hnc, hcm, hcs, htake⟩
  · have : xs = [] := List.eq_nil_of_length_eq_zero hn
    subst this
    exact list_nil r w S
  · refine ⟨_, _, _, rfl, rfl, hnc, hcm, .inr ⟨g, 0, rfl, hS g rfl, fun i x hi => ⟨enc x, (hx x (List.mem_of_getElem? hi)).2, fun j u hu => ?_⟩⟩⟩
    have hseg : (xs.flatMap enc)[i * r.width + j]? = some u := by
      clear h hg hnc hcm hcs htake hS
      induction xs generalizing i with
      | nil => simp at hi
      | cons y ys ih =>
        rw [List.flatMap_cons]
        cases i with
        | zero =>
          simp at hi
          subst hi
          rw [Nat.zero_mul, Nat.zero_add, List.getElem?_append_left (List.getElem?_eq_some_iff.1 hu).1]
          exact hu
        | succ i =>
          have hl := (hx y (List.mem_cons_self ..)).1
          rw [List.getElem?_append_right (by rw [hl, Nat.add_mul]; omega), hl]
          rw [show (i + 1) * r.width + j - r.width = i * r.width + j by rw [Nat.add_mul]; omega]
          exact ih (fun x hx' => hx x (List.mem_cons_of_mem _ hx')) i (by simpa using hi)
    have hc := h.cells (g := g) rfl (i * r.width + j) u hseg
    rw [show 0 + i * r.width + j = i * r.width + j by omega]
    have ha : (⟨g, 0, none⟩ : Addr).add (i * r.width + j) = ⟨g, i * r.width + j, none⟩ := by unfold Addr.add; split <;> simp_all
    rwa [ha] at hc

/-! ### The things of umlaut -/
structure Span where
  lo : Int
  hi : Int
  deriving DecidableEq
structure Part where
  at_ : Int
  drop : Int
  take : Int
  up : Int
  deriving DecidableEq
structure Term where
  base : Int
  drop : Int
  take : Int
  up : Int
  sum : Int
  parts : List Part
  deriving DecidableEq
structure Rule where
  src : Int
  dst : Int
  guards : List (List Span)
  eat : Int
  out : List Term
  deriving DecidableEq
structure Final where
  src : Int
  guards : List (List Span)
  out : List Term
  deriving DecidableEq
structure Desc where
  inn : Int
  out : Int
  states : Int
  start : Int
  rules : List Rule
  finals : List Final
  deriving DecidableEq

def Span.cells (x : Span) : List Value := [.int .i64 x.lo, .int .i64 x.hi]
def Span.ok (x : Span) : Prop := I64 x.lo ∧ I64 x.hi
def spanR : RepOf Span where
  width := 2
  rel := fun _ _ cs x => cs = x.cells ∧ x.ok
  len := by rintro w S cs x ⟨rfl, _⟩; rfl
  mono := by intro w w' S S' cs x _ _ h; exact h
def Part.cells (x : Part) : List Value := [.int .i64 x.at_, .int .i64 x.drop, .int .i64 x.take, .int .i64 x.up]
def Part.ok (x : Part) : Prop := I64 x.at_ ∧ I64 x.drop ∧ I64 x.take ∧ I64 x.up
def partR : RepOf Part where
  width := 4
  rel := fun _ _ cs x => cs = x.cells ∧ x.ok
  len := by rintro w S cs x ⟨rfl, _⟩; rfl
  mono := by intro w w' S S' cs x _ _ h; exact h
def termR : RepOf Term where
  width := 6
  rel := fun w S cs x => ∃ v, cs = [.int .i64 x.base, .int .i64 x.drop, .int .i64 x.take, .int .i64 x.up, .int .i64 x.sum, v] ∧ (I64 x.base ∧ I64 x.drop ∧ I64 x.take ∧ I64 x.up ∧ I64 x.sum) ∧ (listR partR).rel w S [v] x.parts
  len := by rintro w S cs x ⟨v, rfl, _⟩; rfl
  mono := by
    rintro w w' S S' cs x hw hS ⟨v, h1, h2, h3⟩
    exact ⟨v, h1, h2, (listR partR).mono hw hS h3⟩
def spansR : RepOf (List Span) := listR spanR
def ruleR : RepOf Rule where
  width := 5
  rel := fun w S cs x => ∃ v u, cs = [.int .i64 x.src, .int .i64 x.dst, v, .int .i64 x.eat, u] ∧ (I64 x.src ∧ I64 x.dst ∧ I64 x.eat) ∧ (listR spansR).rel w S [v] x.guards ∧ (listR termR).rel w S [u] x.out
  len := by rintro w S cs x ⟨v, u, rfl, _⟩; rfl
  mono := by
    rintro w w' S S' cs x hw hS ⟨v, u, h1, h2, h3, h4⟩
    exact ⟨v, u, h1, h2, (listR spansR).mono hw hS h3, (listR termR).mono hw hS h4⟩
def finalR : RepOf Final where
  width := 3
  rel := fun w S cs x => ∃ v u, cs = [.int .i64 x.src, v, u] ∧ I64 x.src ∧ (listR spansR).rel w S [v] x.guards ∧ (listR termR).rel w S [u] x.out
  len := by rintro w S cs x ⟨v, u, rfl, _⟩; rfl
  mono := by
    rintro w w' S S' cs x hw hS ⟨v, u, h1, h2, h3, h4⟩
    exact ⟨v, u, h1, h2, (listR spansR).mono hw hS h3, (listR termR).mono hw hS h4⟩
def descR : RepOf Desc where
  width := 6
  rel := fun w S cs x => ∃ v u, cs = [.int .i64 x.inn, .int .i64 x.out, .int .i64 x.states, .int .i64 x.start, v, u] ∧ (I64 x.inn ∧ I64 x.out ∧ I64 x.states ∧ I64 x.start) ∧ (listR ruleR).rel w S [v] x.rules ∧ (listR finalR).rel w S [u] x.finals
  len := by rintro w S cs x ⟨v, u, rfl, _⟩; rfl
  mono := by
    rintro w w' S S' cs x hw hS ⟨v, u, h1, h2, h3, h4⟩
    exact ⟨v, u, h1, h2, (listR ruleR).mono hw hS h3, (listR finalR).mono hw hS h4⟩

section
variable {w : World} {S : Nat → Prop} {A : Option Addr} {n cap i : Nat}
/-- a rule's cells, by its place. -/
theorem rule_at {xs : List Rule} {x : Rule} (h : (listR ruleR).rel w S [.slice A n cap] xs) (hx : xs[i]? = some x) :
    ∃ b o v u, A = some ⟨b, o, none⟩ ∧ S b ∧ w.cell? ⟨b, o + i * 5, none⟩ = some (.int .i64 x.src) ∧ w.cell? ⟨b, o + i * 5 + 1, none⟩ = some (.int .i64 x.dst) ∧ w.cell? ⟨b, o + i * 5 + 2, none⟩ = some v ∧
      w.cell? ⟨b, o + i * 5 + 3, none⟩ = some (.int .i64 x.eat) ∧ w.cell? ⟨b, o + i * 5 + 4, none⟩ = some u ∧ (I64 x.src ∧ I64 x.dst ∧ I64 x.eat) ∧ (listR spansR).rel w S [v] x.guards ∧ (listR termR).rel w S [u] x.out := by
  obtain ⟨b, o, ds, h1, h2, ⟨v, u, rfl, h4, h5, h6⟩, h7⟩ := list_at h hx
  exact ⟨b, o, v, u, h1, h2, h7 0 _ rfl, h7 1 _ rfl, h7 2 _ rfl, h7 3 _ rfl, h7 4 _ rfl, h4, h5, h6⟩
theorem final_at {xs : List Final} {x : Final} (h : (listR finalR).rel w S [.slice A n cap] xs) (hx : xs[i]? = some x) :
    ∃ b o v u, A = some ⟨b, o, none⟩ ∧ S b ∧ w.cell? ⟨b, o + i * 3, none⟩ = some (.int .i64 x.src) ∧ w.cell? ⟨b, o + i * 3 + 1, none⟩ = some v ∧ w.cell? ⟨b, o + i * 3 + 2, none⟩ = some u ∧
      I64 x.src ∧ (listR spansR).rel w S [v] x.guards ∧ (listR termR).rel w S [u] x.out := by
  obtain ⟨b, o, ds, h1, h2, ⟨v, u, rfl, h4, h5, h6⟩, h7⟩ := list_at h hx
  exact ⟨b, o, v, u, h1, h2, h7 0 _ rfl, h7 1 _ rfl, h7 2 _ rfl, h4, h5, h6⟩
theorem span_at {xs : List Span} {x : Span} (h : (listR spanR).rel w S [.slice A n cap] xs) (hx : xs[i]? = some x) :
    ∃ b o, A = some ⟨b, o, none⟩ ∧ S b ∧ w.cell? ⟨b, o + i * 2, none⟩ = some (.int .i64 x.lo) ∧ w.cell? ⟨b, o + i * 2 + 1, none⟩ = some (.int .i64 x.hi) ∧ I64 x.lo ∧ I64 x.hi := by
  obtain ⟨b, o, ds, h1, h2, ⟨rfl, h4, h5⟩, h7⟩ := list_at h hx
  exact ⟨b, o, h1, h2, h7 0 _ rfl, h7 1 _ rfl, h4, h5⟩
theorem part_at {xs : List Part} {x : Part} (h : (listR partR).rel w S [.slice A n cap] xs) (hx : xs[i]? = some x) :
    ∃ b o, A = some ⟨b, o, none⟩ ∧ S b ∧ w.cell? ⟨b, o + i * 4, none⟩ = some (.int .i64 x.at_) ∧ w.cell? ⟨b, o + i * 4 + 1, none⟩ = some (.int .i64 x.drop) ∧ w.cell? ⟨b, o + i * 4 + 2, none⟩ = some (.int .i64 x.take) ∧
      w.cell? ⟨b, o + i * 4 + 3, none⟩ = some (.int .i64 x.up) ∧ x.ok := by
  obtain ⟨b, o, ds, h1, h2, ⟨rfl, h4⟩, h7⟩ := list_at h hx
  exact ⟨b, o, h1, h2, h7 0 _ rfl, h7 1 _ rfl, h7 2 _ rfl, h7 3 _ rfl, h4⟩
theorem term_at {xs : List Term} {x : Term} (h : (listR termR).rel w S [.slice A n cap] xs) (hx : xs[i]? = some x) :
    ∃ b o v, A = some ⟨b, o, none⟩ ∧ S b ∧ w.cell? ⟨b, o + i * 6, none⟩ = some (.int .i64 x.base) ∧ w.cell? ⟨b, o + i * 6 + 1, none⟩ = some (.int .i64 x.drop) ∧ w.cell? ⟨b, o + i * 6 + 2, none⟩ = some (.int .i64 x.take) ∧
      w.cell? ⟨b, o + i * 6 + 3, none⟩ = some (.int .i64 x.up) ∧ w.cell? ⟨b, o + i * 6 + 4, none⟩ = some (.int .i64 x.sum) ∧ w.cell? ⟨b, o + i * 6 + 5, none⟩ = some v ∧
      (I64 x.base ∧ I64 x.drop ∧ I64 x.take ∧ I64 x.up ∧ I64 x.sum) ∧ (listR partR).rel w S [v] x.parts := by
  obtain ⟨b, o, ds, h1, h2, ⟨v, rfl, h4, h5⟩, h7⟩ := list_at h hx
  exact ⟨b, o, v, h1, h2, h7 0 _ rfl, h7 1 _ rfl, h7 2 _ rfl, h7 3 _ rfl, h7 4 _ rfl, h7 5 _ rfl, h4, h5⟩
end

/-- a quiet callee in a region that draws its order. -/
theorem quiet_left {P : Program} {f : FuncId} {args : Array Value} {w : World} {n : Nat} {v : Value}
    (h : Calls P f args (w.drewN n) fun e w' => e = .returned v ∧ w.drewN n = w') : Calls P f args (w.drewN n) fun e w'' => e = .returned v ∧ ∃ m, w'' = w.drewN m :=
  h.mono fun _ _ ⟨he, hm⟩ => ⟨he, n, hm.symm⟩
theorem below_drewN {B : Nat} {a w : World} (h : Below B a w) (n : Nat) : Below B a (w.drewN n) := ⟨h.os, h.tape, h.output, h.size, h.block⟩
theorem hid {p : Prop} (h : p) : Hid p := h
/-- a row of spans that the call owns. -/
def OwnS (e : TypeId) (w : World) (base : Nat) (v : Value) (xs : List Span) : Prop := w.ownsRow base e 2 v xs.length (xs.flatMap Span.cells) ∧ ∀ x ∈ xs, x.ok
theorem OwnS.rel {e : TypeId} {w : World} {base : Nat} {v : Value} {xs : List Span} (h : OwnS e w base v xs) : spansR.rel w (upto w.heap.size) [v] xs :=
  own_list (r := spanR) (enc := Span.cells) h.1 (fun g hg => (h.1.lt g hg).2) fun x hx => ⟨rfl, rfl, h.2 x hx⟩
theorem OwnS.rel_in {e : TypeId} {w : World} {base : Nat} {v : Value} {xs : List Span} (h : OwnS e w base v xs) {S : Nat → Prop} (hS : ∀ g, v.ownBlock = some g → S g) : spansR.rel w S [v] xs :=
  own_list (r := spanR) (enc := Span.cells) h.1 hS fun x hx => ⟨rfl, rfl, h.2 x hx⟩
theorem ownsRow_base {w : World} {base base' : Nat} {e : TypeId} {size n : Nat} {v : Value} {xs : List Value} (h : w.ownsRow base e size v n xs) (hb : base' ≤ base) : w.ownsRow base' e size v n xs := by
  refine ⟨h.1, ?_⟩
  rcases h.2 with h2 | ⟨g, cap, cur, h1, h2, h3⟩
  · exact .inl h2
  · exact .inr ⟨g, cap, cur, h1, Nat.le_trans hb h2, h3⟩
theorem OwnS.base {e : TypeId} {w : World} {base base' : Nat} {v : Value} {xs : List Span} (h : OwnS e w base v xs) (hb : base' ≤ base) : OwnS e w base' v xs := ⟨ownsRow_base h.1 hb, h.2⟩
/-- what lies in a block that was just made. -/
theorem news_at {w : World} {g : Nat} {cs : Array Value} {t : TypeId} (hg : g = w.heap.size) : ∀ (j : Nat) (u : Value), cs.toList[j]? = some u → (w.alloc (.cells cs t)).cell? ((⟨g, 0, none⟩ : Addr).add j) = some u := by
  subst hg
  intro j u hu
  have hadd : (⟨w.heap.size, 0, none⟩ : Addr).add j = ⟨w.heap.size, j, none⟩ := by unfold Addr.add; split <;> simp_all
  rw [hadd, cell_of_row _ _ j cs t (0, 0) (heap_alloc_new w _)]
  simpa using hu
theorem ownsRow_drew {w : World} {base : Nat} {e : TypeId} {size n : Nat} {v : Value} {xs : List Value} (h : w.ownsRow base e size v n xs) : w.drew.ownsRow base e size v n xs := h
theorem OwnS.push {e : TypeId} {w : World} {base : Nat} {v : Value} {xs : List Span} {x : Span} (h : w.ownsRow base e 2 v (xs.length + 1) (xs.flatMap Span.cells ++ [.int .i64 x.lo, .int .i64 x.hi])) (hx : ∀ y ∈ xs, y.ok) (ho : x.ok) : OwnS e w base v (xs ++ [x]) := by
  refine ⟨by simpa [Span.cells] using h, fun y hy => ?_⟩
  rcases List.mem_append.1 hy with hy | hy
  · exact hx y hy
  · simp at hy; subst hy; exact ho
/-- behind an append to a row of the call's own, made from block B on. -/
theorem below_grown {B : Nat} {w w' : World} {v : Value} {base : Nat} {e : TypeId} {size n : Nat} {xs : List Value} (ho : w.ownsRow base e size v n xs) (hg : w.grownBy w' v.ownBlock) (hB : B ≤ base) (hw : B ≤ w.heap.size) : Below B w w' :=
  (Below.refl B w).grown hg hw fun k hk => Nat.le_trans hB (ho.lt k hk).1
theorem OwnS.drewN {e : TypeId} {w : World} {base : Nat} {v : Value} {xs : List Span} (h : OwnS e w base v xs) (n : Nat) : OwnS e (w.drewN n) base v xs := h
/-- all but the first span, as the walk writes it. -/
theorem spans_tail {w : World} {S : Nat → Prop} {b o n cap : Nat} {x : Span} {xs : List Span} (h : spansR.rel w S [.slice (some ⟨b, o, none⟩) (n + 1) cap] (x :: xs)) :
    spansR.rel w S [.slice (if cap = 1 then some ⟨b, o, none⟩ else some ⟨b, o + 2, none⟩) n (cap - 1)] xs := by
  have h1 := list_cut (k := 1) h (by omega)
  have hw : spanR.width = 2 := rfl
  rw [hw] at h1
  show (listR spanR).rel _ _ _ _
  simpa [Addr.add] using h1
theorem own_form {w : World} {base : Nat} {e : TypeId} {size n : Nat} {v : Value} {xs : List Value} (h : w.ownsRow base e size v n xs) (hn : 0 < n) : ∃ g cap, v = .slice (some ⟨g, 0, none⟩) n cap := by
  rcases h.2 with ⟨_, h0⟩ | ⟨g, cap, cur, h1, _⟩
  · omega
  · exact ⟨g, cap, h1⟩
theorem make_rowN {P : Program} (t e : TypeId) (i : TypeInfo) (z : Value) (ht : P.underlying t = some (.slice e)) (hi : P.info? e = some i) (hz : i.zero = some z)
    (kl kc : IntKind) (n c : Nat) (hnc : n ≤ c) (hbytes : i.bytes * c ≤ 281474976710656) (h63 : c ≤ 9223372036854775807) (w : World) :
    (Instr.makeSlice t (.int kl (n : Int)) (.int kc (c : Int))).run P w = .ok (.slice (some ⟨w.heap.size, 0, none⟩) n c) (w.alloc (.cells (madeCells z.cells (c * i.size)) e)) := by
  have hb : (i.bytes : Int) * (c : Int) ≤ 281474976710656 := by
    have h : ((i.bytes * c : Nat) : Int) ≤ 281474976710656 := by omega
    rwa [Int.natCast_mul] at h
  have hr := run_make (P := P) w t e i z ht hi hz kl kc n c (by omega) (by omega) hb (by omega)
  simp only [Int.toNat_natCast] at hr
  exact hr
/-- a slice's length: for a loop's measure. -/
def lenOf : Value → Nat | .slice _ n _ => n | _ => 0
theorem drop_cons {α : Type} {xs : List α} {i : Nat} {x : α} (h : xs[i]? = some x) : xs.drop i = x :: xs.drop (i + 1) := by
  obtain ⟨hl, rfl⟩ := List.getElem?_eq_some_iff.1 h
  exact List.drop_eq_getElem_cons hl
theorem at_lt {α : Type} {xs : List α} {i : Nat} (h : i < xs.length) : ∃ x, xs[i]? = some x := ⟨xs[i], List.getElem?_eq_getElem h⟩
end Go.Um
