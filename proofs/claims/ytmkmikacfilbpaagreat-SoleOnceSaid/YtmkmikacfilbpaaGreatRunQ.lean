/-
  How a transducer's places are gone through, plain Lean: which come, in which order, and what each is related to. No program is named here.
-/
import Derived.Test.YtmkmikacfilbpaaGreatRunP
import Derived.Test.YtmkmikacfilbpaaGreatRwB
namespace Go.Proofs.YtmkmikacfilbpaaGreat
open Go.Proofs Go.Um Go.RowKit
def fitsL : List (List Span) → List Int → Bool
  | [], _ => true
  | _ :: _, [] => false
  | g :: gs, z :: zs => hasI g z && fitsL gs zs
def fitsB (x : List Int) (gs : List (List Span)) (a : Nat) : Bool := fitsL gs (x.drop a)
theorem fitsL_iff : ∀ {gs : List (List Span)} {x : List Int}, fitsL gs x = true ↔ gs.length ≤ x.length ∧ ∀ (i : Nat) (g : List Span) (z : Int), gs[i]? = some g → x[i]? = some z → inSet g z
  | [], x => by simp [fitsL]
  | g :: gs, [] => by simp [fitsL]
  | g :: gs, z :: zs => by
    unfold fitsL
    rw [Bool.and_eq_true, hasI_iff, fitsL_iff (gs := gs) (x := zs)]
    simp only [List.length_cons, Nat.add_le_add_iff_right]
    constructor
    · rintro ⟨h1, h2, h3⟩
      refine ⟨h2, fun i g' z' hg hz => ?_⟩
      cases i with
      | zero => simp at hg hz; subst hg; subst hz; exact h1
      | succ i => exact h3 i g' z' (by simpa using hg) (by simpa using hz)
    · rintro ⟨h2, h3⟩
      exact ⟨h3 0 g z rfl rfl, h2, fun i g' z' hg hz => h3 (i + 1) g' z' (by simpa using hg) (by simpa using hz)⟩
theorem fitsB_iff {x : List Int} {gs : List (List Span)} {a : Nat} : fitsB x gs a = true ↔ fitsX x gs a := by
  unfold fitsB fitsX
  rw [fitsL_iff, List.length_drop]
  simp only [List.getElem?_drop]
theorem fitsL_cons {gs : List (List Span)} {x : List Int} {i j : Nat} {g : List Span} {z : Int} (hg : gs[i]? = some g) (hz : x[j]? = some z) : fitsL (gs.drop i) (x.drop j) = (hasI g z && fitsL (gs.drop (i + 1)) (x.drop (j + 1))) := by
  rw [drop_cons hg, drop_cons hz]
  rfl
/-- the places that come. -/
inductive Reach (d : Desc) (x : List Int) : Nat → Int → Prop
  | start : Reach d x 0 d.start
  | step {a : Nat} {s : Int} (r : Rule) (h : Reach d x a s) (hr : r ∈ d.rules) (hs : r.src = s) (hx : fitsX x r.guards a) : Reach d x (a + r.eat.toNat) r.dst
/-- the numbers, below k, of the options of a state. -/
def idxF (srcs : List Int) (k : Nat) (s : Int) : List Int := ((List.range k).filter fun i => srcs[i]? == some s).map Int.ofNat
theorem idxF_zero (srcs : List Int) (s : Int) : idxF srcs 0 s = [] := rfl
theorem idxF_succ {srcs : List Int} {k : Nat} {t : Int} (h : srcs[k]? = some t) (s : Int) : idxF srcs (k + 1) s = if s = t then idxF srcs k s ++ [(k : Int)] else idxF srcs k s := by
  unfold idxF
  rw [List.range_succ, List.filter_append, List.map_append]
  by_cases e : s = t
  · subst e
    rw [if_pos rfl]
    simp [h]
  · rw [if_neg e]
    have : ¬ t = s := fun h => e h.symm
    simp [h, this]
theorem idxF_len (srcs : List Int) (k : Nat) (s : Int) : (idxF srcs k s).length ≤ k := by
  unfold idxF
  rw [List.length_map]
  exact Nat.le_trans (List.length_filter_le _ _) (by simp)
theorem idxF_mem {srcs : List Int} {k : Nat} {s i : Int} : i ∈ idxF srcs k s ↔ ∃ j : Nat, i = j ∧ j < k ∧ srcs[j]? = some s := by
  unfold idxF
  rw [List.mem_map]
  constructor
  · rintro ⟨j, hj, rfl⟩
    rw [List.mem_filter, List.mem_range] at hj
    exact ⟨j, rfl, hj.1, by simpa using hj.2⟩
  · rintro ⟨j, rfl, h1, h2⟩
    exact ⟨j, List.mem_filter.2 ⟨List.mem_range.2 h1, by simpa using h2⟩, rfl⟩
def rulesOf (d : Desc) (s : Int) : List Int := idxF (d.rules.map (·.src)) d.rules.length s
def finalsOf (d : Desc) (s : Int) : List Int := idxF (d.finals.map (·.src)) d.finals.length s
theorem rulesOf_mem {d : Desc} {s i : Int} : i ∈ rulesOf d s ↔ ∃ (j : Nat) (r : Rule), i = j ∧ d.rules[j]? = some r ∧ r.src = s := by
  unfold rulesOf
  rw [idxF_mem]
  constructor
  · rintro ⟨j, rfl, h1, h2⟩
    rw [List.getElem?_map] at h2
    obtain ⟨r, h3, h4⟩ := Option.map_eq_some_iff.1 h2
    exact ⟨j, r, rfl, h3, h4⟩
  · rintro ⟨j, r, rfl, h1, h2⟩
    exact ⟨j, rfl, (List.getElem?_eq_some_iff.1 h1).1, by rw [List.getElem?_map, h1]; simp [h2]⟩
theorem finalsOf_mem {d : Desc} {s i : Int} : i ∈ finalsOf d s ↔ ∃ (j : Nat) (r : Final), i = j ∧ d.finals[j]? = some r ∧ r.src = s := by
  unfold finalsOf
  rw [idxF_mem]
  constructor
  · rintro ⟨j, rfl, h1, h2⟩
    rw [List.getElem?_map] at h2
    obtain ⟨r, h3, h4⟩ := Option.map_eq_some_iff.1 h2
    exact ⟨j, r, rfl, h3, h4⟩
  · rintro ⟨j, r, rfl, h1, h2⟩
    exact ⟨j, rfl, (List.getElem?_eq_some_iff.1 h1).1, by rw [List.getElem?_map, h1]; simp [h2]⟩
/-- epsilon rules, as pairs of states. -/
def Eps (d : Desc) (s t : Int) : Prop := ∃ r ∈ d.rules, r.guards = [] ∧ r.src = s ∧ r.dst = t
/-- each state once, each behind those that its epsilon rules lead to. -/
structure Ord (d : Desc) (ord : List Int) : Prop where
  nd : ord.Nodup
  eps : ∀ (k : Nat) (s t : Int), ord[k]? = some s → Eps d s t → ∃ j, j < k ∧ ord[j]? = some t
theorem Ord.snoc {d : Desc} {ord : List Int} (h : Ord d ord) {s : Int} (hs : s ∉ ord) (he : ∀ t, Eps d s t → t ∈ ord) : Ord d (ord ++ [s]) := by
  refine ⟨List.nodup_append.2 ⟨h.nd, by simp, fun a ha b hb => ?_⟩, fun k u t hk ht => ?_⟩
  · simp at hb
    subst hb
    exact fun e => hs (e ▸ ha)
  · by_cases hl : k < ord.length
    · rw [List.getElem?_append_left hl] at hk
      obtain ⟨j, h1, h2⟩ := h.eps k u t hk ht
      exact ⟨j, h1, by rw [List.getElem?_append_left (by omega)]; exact h2⟩
    · have hk' : k = ord.length := by have := (List.getElem?_eq_some_iff.1 hk).1; simp at this; omega
      subst hk'
      simp at hk
      subst hk
      obtain ⟨j, hj⟩ := List.mem_iff_getElem?.1 (he t ht)
      have := (List.getElem?_eq_some_iff.1 hj).1
      exact ⟨j, this, by rw [List.getElem?_append_left this]; exact hj⟩
end Go.Proofs.YtmkmikacfilbpaaGreat
