/-
  The law PageLines, walked.
-/
import Derived.Test.YtcdnkmefcldfmaaDoorPgAg
import Derived.Test.YtcdnkmefcldfmaaDoorPgSm
import Derived.IntWalk
namespace Go.Proofs.YtcdnkmefcldfmaaDoor
open Go.RowKit Go.Um

theorem line_char {ls : List By} {i : Nat} {li : By} (h : ls[i]? = some li) {q : Nat} (hq : q ≤ li.length) :
    (q < li.length → ∃ c, li[q]? = some c ∧ (ls.flatMap nl)[((ls.take i).flatMap nl).length + q]? = some c) ∧ (q = li.length → (ls.flatMap nl)[((ls.take i).flatMap nl).length + q]? = some 10) := by
  have hi := (List.getElem?_eq_some_iff.1 h).1
  have e : ls.flatMap nl = (ls.take i).flatMap nl ++ (nl li ++ (ls.drop (i + 1)).flatMap nl) := by
    conv => lhs; rw [← List.take_append_drop i ls]
    rw [List.flatMap_append, drop_cons h, List.flatMap_cons]
  have e2 : (ls.flatMap nl)[((ls.take i).flatMap nl).length + q]? = (nl li ++ (ls.drop (i + 1)).flatMap nl)[q]? := by
    rw [e, List.getElem?_append_right (by omega)]
    congr 1
    omega
  have e3 : (nl li ++ (ls.drop (i + 1)).flatMap nl)[q]? = (nl li)[q]? := List.getElem?_append_left (by simp [nl]; omega)
  rw [e2, e3]
  refine ⟨fun hlt => ?_, fun heq => ?_⟩
  · obtain ⟨c, hc⟩ := at_lt hlt
    exact ⟨c, hc, by unfold nl; rw [List.getElem?_append_left hlt]; exact hc⟩
  · subst heq
    unfold nl
    rw [List.getElem?_append_right (by omega)]
    simp
theorem pos_succ {ls : List By} {i : Nat} {li : By} (h : ls[i]? = some li) : ((ls.take (i + 1)).flatMap nl).length = ((ls.take i).flatMap nl).length + (li.length + 1) := by
  rw [List.take_add_one, h, Option.toList_some, List.flatMap_append]
  simp [nl]
theorem take_pos (ls : List By) (i : Nat) : (ls.flatMap nl).take ((ls.take i).flatMap nl).length = (ls.take i).flatMap nl := by
  conv => lhs; rw [show ls.flatMap nl = (ls.take i).flatMap nl ++ (ls.drop i).flatMap nl by rw [← List.flatMap_append, List.take_append_drop]]
  exact List.take_left
theorem pos_le (ls : List By) (i : Nat) : ((ls.take i).flatMap nl).length ≤ (ls.flatMap nl).length := by
  have : ls.flatMap nl = (ls.take i).flatMap nl ++ (ls.drop i).flatMap nl := by rw [← List.flatMap_append, List.take_append_drop]
  rw [this, List.length_append]
  omega

/-! ### what is in memory is right -/
theorem rel_all {α : Type} {r : RepOf α} {w : World} {S : Nat → Prop} {v : Value} {xs : List α} (h : (listR r).rel w S [v] xs) : ∀ x ∈ xs, ∃ ds, r.rel w S ds x := by
  intro x hx
  obtain ⟨i, hi, rfl⟩ := List.getElem_of_mem hx
  obtain ⟨A, c, rfl, _, _⟩ := list_form h
  obtain ⟨_, _, ds, _, _, hr, _⟩ := list_at h (List.getElem?_eq_getElem hi)
  exact ⟨ds, hr⟩
theorem spans_ok {w : World} {S : Nat → Prop} {v : Value} {xs : List Span} (h : spansR.rel w S [v] xs) : okSp xs := fun s hs => by
  obtain ⟨ds, hd⟩ := rel_all (r := spanR) h s hs
  exact hd.2
theorem guards_ok {w : World} {S : Nat → Prop} {v : Value} {xs : List (List Span)} (h : (listR spansR).rel w S [v] xs) : okGs xs := fun g hg => by
  obtain ⟨ds, hd⟩ := rel_all h g hg
  have hl := spansR.len hd
  match ds, hl with
  | [u], _ => exact spans_ok hd
theorem parts_ok {w : World} {S : Nat → Prop} {v : Value} {xs : List Part} (h : (listR partR).rel w S [v] xs) : okPs xs := fun s hs => by
  obtain ⟨ds, hd⟩ := rel_all h s hs
  exact hd.2
theorem terms_ok {w : World} {S : Nat → Prop} {v : Value} {xs : List Term} (h : (listR termR).rel w S [v] xs) : okTs xs := fun s hs => by
  obtain ⟨ds, u, _, hd, hp⟩ := rel_all h s hs
  exact ⟨hd, parts_ok hp⟩
theorem rules_ok {w : World} {S : Nat → Prop} {v : Value} {xs : List Rule} (h : (listR ruleR).rel w S [v] xs) : ∀ r ∈ xs, r.ok := fun s hs => by
  obtain ⟨ds, u, t, _, hd, hp, hq⟩ := rel_all h s hs
  exact ⟨hd, guards_ok hp, terms_ok hq⟩
theorem finals_ok {w : World} {S : Nat → Prop} {v : Value} {xs : List Final} (h : (listR finalR).rel w S [v] xs) : ∀ r ∈ xs, r.ok := fun s hs => by
  obtain ⟨ds, u, t, _, hd, hp, hq⟩ := rel_all h s hs
  exact ⟨hd, guards_ok hp, terms_ok hq⟩
theorem desc_ok {w : World} {S : Nat → Prop} {v u : Value} {d : Desc} (hr : (listR ruleR).rel w S [v] d.rules) (hf : (listR finalR).rel w S [u] d.finals) (hI : I64 d.inn ∧ I64 d.out ∧ I64 d.states ∧ I64 d.start) : d.ok := ⟨hI, rules_ok hr, finals_ok hf⟩
/-- what Print hands back, by its text. -/
theorem printV_ok {d : Desc} (h : ¬ 65536 < (printL d).length) : ∃ s : ByteArray, s.data.toList = printL d ∧ s.size = (printL d).length ∧ printV d = .tuple #[.string s, .int .i64 0] := by
  refine ⟨⟨(printL d).toArray⟩, rfl, by rw [← sizeL], ?_⟩
  unfold printV
  rw [if_neg h]
theorem line_no (a : Int) (r f : Nat) (hr : r ≤ 80) (hf : f ≤ 80) : ∃ k : Nat, k < 1 + r + f ∧ RowKit.wrap64 ((IntKind.u64.wrap a).tmod (1 + (r : Int) + (f : Int))) = k := by
  have h0 : 0 ≤ IntKind.u64.wrap a := by rw [IntKind.wrap_u64]; omega
  generalize IntKind.u64.wrap a = x at h0 ⊢
  have h1 := Int.emod_nonneg x (show (1 + (r : Int) + (f : Int)) ≠ 0 by omega)
  have h2 := Int.emod_lt_of_pos x (show 0 < 1 + (r : Int) + (f : Int) by omega)
  rw [Int.tmod_eq_emod_of_nonneg h0]
  generalize x % (1 + (r : Int) + (f : Int)) = y at h1 h2 ⊢
  refine ⟨y.toNat, by omega, ?_⟩
  rw [IntWalk.wrap64_in _ (by omega)]
  omega
theorem text_of (s line : ByteArray) (f t : Nat) : ((s.extract 0 f ++ line) ++ s.extract t s.size).data.toList = (s.data.toList.take f ++ line.data.toList) ++ s.data.toList.drop t := by
  simp only [ByteArray.data_append, Array.toList_append]
  rw [Lib.extract_to_end, Lib.extract_data, List.drop_zero, Nat.sub_zero]
theorem front_no (d : Desc) (h : d.ok) {k : Nat} (hk : k ≤ (linesOf d).length) (X : By) {n : Nat} (he : parseF ((((linesOf d).take k).flatMap nl ++ X).length + 1) 1 d0 (((linesOf d).take k).flatMap nl ++ X) = .inr n) : k + 1 ≤ n := by
  have h1 := lines_le ((linesOf d).take k)
  rw [List.length_take] at h1
  exact parse_front d h k _ hk X he (by rw [List.length_append]; omega)
end Go.Proofs.YtcdnkmefcldfmaaDoor
