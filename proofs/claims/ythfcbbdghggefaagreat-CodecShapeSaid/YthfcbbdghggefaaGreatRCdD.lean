/-
  What repairs relates any bytes to what they are repaired to; what encodes relates scalars to their bytes; plain Lean. No program is named here.
-/
import Derived.Test.YthfcbbdghggefaaGreatRCdC
namespace Go.Proofs.YthfcbbdghggefaaGreat
open Go.Proofs Go.Um Go.RowKit
theorem sole_outer {d : Desc} (h : soleS d = .tuple #[.bool true, .int .i64 0]) : outerS (optsD d) 0 (optsD d) = none := by
  unfold soleS at h
  split at h
  · injection h with h
    have h0 := congrArg (fun a : Array Value => a[0]?) h
    simp at h0
    cases he : outerS (optsD d) 0 (optsD d) with
    | none => rfl
    | some q => rw [he] at h0; simp at h0
  · injection h with h
    have h0 := congrArg (fun a : Array Value => a[0]?) h
    simp at h0
/-- the row of a first byte. -/
theorem row_first {a : Int} (ha : 0 ≤ a ∧ a ≤ 255) (h1 : ¬ (128 ≤ a ∧ a ≤ 193)) (h2 : ¬ 245 ≤ a) (t : List Int) (ht : byteL t) (hn : firstF (a :: t) = none) :
    ∃ g ∈ rowsP, 1 ≤ preF g (a :: t) ∧ preF g (a :: t) < g.length ∧ mostF (a :: t) = preF g (a :: t) := by
  have hlt : ∀ g ∈ rowsP, preF g (a :: t) < g.length := fun g hg => by
    obtain ⟨p1, p2, p3⟩ := pre_take g (a :: t)
    refine Nat.lt_of_le_of_ne p2 fun he => ?_
    rw [he, List.take_length] at p1
    rw [first_row g hg _ p1] at hn
    cases hn
  have hb : ∀ (lo hi l2 h2 : Int) (n : Nat), lo ≤ a ∧ a ≤ hi → 1 ≤ preF (rowP lo hi l2 h2 n) (a :: t) := fun lo hi l2 h2 n h => by
    unfold rowP preF
    rw [if_pos ((hasB_one _ _ _).2 h)]
    omega
  by_cases c1 : a ≤ 127
  · rw [first_1 ⟨ha.1, c1⟩] at hn
    cases hn
  by_cases c2 : a ≤ 223
  · refine ⟨_, row_mem 1 _ rfl, hb _ _ _ _ _ ⟨by omega, c2⟩, hlt _ (row_mem 1 _ rfl), ?_⟩
    rw [most_1 (by omega) ht]
    have p1 := hb 194 223 128 191 0 ⟨by omega, c2⟩
    have p2 := hlt _ (row_mem 1 _ rfl)
    have p3 : (rowP 194 223 128 191 0).length = 2 := rfl
    omega
  by_cases c3 : a ≤ 224
  · exact ⟨_, row_mem 2 _ rfl, hb _ _ _ _ _ ⟨by omega, by omega⟩, hlt _ (row_mem 2 _ rfl), most_3 (by omega) (by omega) (by omega) ⟨by omega, by omega⟩ ht (hlt _ (row_mem 2 _ rfl))⟩
  by_cases c4 : a ≤ 236
  · exact ⟨_, row_mem 3 _ rfl, hb _ _ _ _ _ ⟨by omega, by omega⟩, hlt _ (row_mem 3 _ rfl), most_3 (by omega) (by omega) (by omega) ⟨by omega, by omega⟩ ht (hlt _ (row_mem 3 _ rfl))⟩
  by_cases c5 : a ≤ 237
  · exact ⟨_, row_mem 4 _ rfl, hb _ _ _ _ _ ⟨by omega, by omega⟩, hlt _ (row_mem 4 _ rfl), most_3 (by omega) (by omega) (by omega) ⟨by omega, by omega⟩ ht (hlt _ (row_mem 4 _ rfl))⟩
  by_cases c6 : a ≤ 239
  · exact ⟨_, row_mem 5 _ rfl, hb _ _ _ _ _ ⟨by omega, by omega⟩, hlt _ (row_mem 5 _ rfl), most_3 (by omega) (by omega) (by omega) ⟨by omega, by omega⟩ ht (hlt _ (row_mem 5 _ rfl))⟩
  by_cases c7 : a ≤ 240
  · exact ⟨_, row_mem 6 _ rfl, hb _ _ _ _ _ ⟨by omega, by omega⟩, hlt _ (row_mem 6 _ rfl), most_4 (by omega) (by omega) (by omega) ⟨by omega, by omega⟩ ht (hlt _ (row_mem 6 _ rfl))⟩
  by_cases c8 : a ≤ 243
  · exact ⟨_, row_mem 7 _ rfl, hb _ _ _ _ _ ⟨by omega, by omega⟩, hlt _ (row_mem 7 _ rfl), most_4 (by omega) (by omega) (by omega) ⟨by omega, by omega⟩ ht (hlt _ (row_mem 7 _ rfl))⟩
  · exact ⟨_, row_mem 8 _ rfl, hb _ _ _ _ _ ⟨by omega, by omega⟩, hlt _ (row_mem 8 _ rfl), most_4 (by omega) (by omega) (by omega) ⟨by omega, by omega⟩ ht (hlt _ (row_mem 8 _ rfl))⟩
/-- where no scalar's bytes stand, a rule or a final writes FFFD. -/
theorem broke_opt {y : List Int} (hy : byteL y) (hne : y ≠ []) (hn : firstF y = none) :
    (∃ r ∈ repairD.rules, r.src = 0 ∧ r.dst = 0 ∧ fitL r.guards y = true ∧ r.eat = (mostF y : Int) ∧ mostF y ≤ y.length ∧ r.out = badT) ∨
    (∃ f ∈ repairD.finals, f.src = 0 ∧ fitL f.guards y = true ∧ f.guards.length = y.length ∧ mostF y = y.length ∧ f.out = badT) := by
  match y, hy, hne, hn with
  | a :: t, hy, _, hn =>
    have ha := hy a (by simp)
    have ht : byteL t := fun z hz => hy z (by simp [hz])
    by_cases c : (128 ≤ a ∧ a ≤ 193) ∨ 245 ≤ a
    · have hm : mostF (a :: t) = 1 := by
        rcases c with c | c
        · exact most_1 (by omega) ht
        · exact most_9 (by omega) ht
      refine .inl ⟨⟨0, 0, [firstP], 1, badT⟩, ?_, rfl, rfl, ?_, ?_, ?_, rfl⟩
      · unfold repairD
        exact List.mem_append.2 (.inr (by simp))
      · rw [firstP_eq]
        simp [fitL, hasB]
        omega
      · rw [hm]; rfl
      · rw [hm]; simp
    · obtain ⟨g, hg, h1, h2, h3⟩ := row_first ha (fun h => c (.inl h)) (fun h => c (.inr h)) t ht hn
      obtain ⟨p1, _, p3⟩ := pre_take g (a :: t)
      obtain ⟨k, hk⟩ : ∃ k, preF g (a :: t) = k + 1 := ⟨preF g (a :: t) - 1, by omega⟩
      rw [hk] at h2 p1 p3 h3
      by_cases hl : k + 1 = (a :: t).length
      · exact .inr ⟨_, final_broke hg h2, rfl, p1, by show (g.take (k + 1)).length = _; rw [List.length_take]; omega, by rw [h3]; exact hl, rfl⟩
      · have hlt : k + 1 < (a :: t).length := by omega
        refine .inl ⟨_, rule_broke hg h2, rfl, rfl, ?_, by rw [h3]; rfl, by omega, rfl⟩
        have hz := List.getElem?_eq_getElem hlt
        have hgk := List.getElem?_eq_getElem h2
        have hf := pre_more (gs := g) (y := a :: t) (by rw [hk]; exact hgk) (by rw [hk]; exact hz)
        have hzb := hy _ (List.getElem_mem hlt)
        refine fitL_snoc p1 (by rw [List.length_take, Nat.min_eq_left (by omega)]; exact hz) ?_
        rw [hasB_iff, mem_minusF, List.getD_eq_getElem?_getD, hgk, Option.getD_some]
        refine ⟨⟨by omega, ⟨⟨0, 255⟩, by simp [allB], hzb.1, hzb.2⟩⟩, fun h => ?_⟩
        have := (hasB_iff _ _).2 h.2
        rw [hf] at this
        cases this
theorem repair_of {x : List Int} (hx : byteL x) {y w : List Int} {h : Bool} (hr : Rep y w h) : ∀ a, y = x.drop a → a ≤ x.length → Run repairD x a 0 w := by
  induction hr with
  | nil =>
    intro a ha hal
    have hl : x.length - a = 0 := by rw [← List.length_drop, ← ha]; rfl
    exact .fin ⟨0, [], []⟩ (by simp [repairD, strictD]) rfl (by simpa using hl.symm) ⟨by simp, by simp⟩ rfl
  | @cons y w h hy hr ih =>
    intro a ha hal
    by_cases c : (scanF y).2.2 = true
    · obtain ⟨g, hg, hf⟩ := scan_true (ha ▸ hx.drop a) c
      have hn : g.length ≤ (x.drop a).length := ((fitL_iff (hx.drop a).sym).1 (ha ▸ hf)).1
      have e2 := scan_row hg hf
      have := ih (a + (scanF y).2.1) (by rw [ha, List.drop_drop]) (by rw [e2]; rw [List.length_drop] at hn; show a + g.length ≤ _; omega)
      subst ha
      exact run_row hx.sym hg (by unfold repairD; exact List.mem_append.2 (.inl (List.mem_append.2 (.inl (strict_rule.2 ⟨g, hg, rfl⟩))))) hf this
    · have hn : firstF y = none := by
        cases hh : firstF y with
        | none => rfl
        | some p => unfold scanF at c; rw [hh] at c; simp at c
      have e : scanF y = (65533, mostF y, false) := by unfold scanF; rw [hn]
      rw [e] at hr ih ⊢
      rcases broke_opt (ha ▸ hx.drop a) hy hn with ⟨r, h1, h2, h3, h4, h5, h6, h7⟩ | ⟨f, h1, h2, h3, h4, h5, h6⟩
      · rw [ha, List.length_drop] at h6
        have := ih (a + mostF y) (by rw [ha, List.drop_drop]) (by rw [ha]; omega)
        refine .step r h1 h2 ((fitsX_iff hx.sym _ a).2 (ha ▸ h4)) (u := w) ?_ ?_
        · rw [h3, h5, Int.toNat_natCast]
          exact this
        · rw [h7, bad_writes]
          rfl
      · have hd : y.drop (mostF y) = [] := by rw [h5]; exact List.drop_length
        have hw : w = [] := by
          rw [hd] at hr
          cases hr with
          | nil => rfl
          | cons hy' _ => exact absurd rfl hy'
        refine .fin f h1 h2 (by rw [h4, ha, List.length_drop]) ((fitsX_iff hx.sym _ a).2 (ha ▸ h3)) ?_
        rw [h6, bad_writes, hw]
/-- what repairs relates any bytes to what they are repaired to, and to nothing else. -/
theorem repair_run {x w : List Int} {h : Bool} (hx : byteL x) (hr : Rep x w h) : Run repairD x 0 0 w := repair_of hx hr 0 (by simp) (Nat.zero_le _)
end Go.Proofs.YthfcbbdghggefaaGreat
