/-
  All bytes repaired, as the reference does.
-/
import Derived.Test.YtmkmikacfilbpaaGreatQCdN
import Derived.Test.YtmkmikacfilbpaaGreatQCdE
namespace Go.Proofs.YtmkmikacfilbpaaGreat
open Go.RowKit Go.Um Go.Proofs
theorem scal_bd {l : List Int} {x : Int} (h : scalF l = some x) : 0 ≤ x ∧ x ≤ 1114111 := by
  unfold scalF at h
  split at h
  · cases h
  · rename_i hn
    injection h with h
    subst h
    constructor <;> (refine Int.not_lt.1 fun hh => hn ?_)
    · exact .inl hh
    · exact .inr (.inl hh)
theorem try_bd {y : List Int} {n : Nat} {p : Int × Nat} (hn : 1 ≤ n) (h : tryF y n = some p) : (0 ≤ p.1 ∧ p.1 ≤ 1114111) ∧ 1 ≤ p.2 ∧ p.2 ≤ y.length := by
  obtain ⟨h1, h2, h3⟩ := try_some h
  exact ⟨scal_bd h3, by omega, by omega⟩
theorem scan_bd {y : List Int} (hy : y ≠ []) : (0 ≤ (scanF y).1 ∧ (scanF y).1 ≤ 1114111) ∧ 1 ≤ (scanF y).2.1 ∧ (scanF y).2.1 ≤ y.length := by
  have hl : 1 ≤ y.length := List.length_pos_iff.2 hy
  unfold scanF
  cases h : firstF y with
  | some p =>
    unfold firstF at h
    rw [Option.or_eq_some_iff, Option.or_eq_some_iff, Option.or_eq_some_iff] at h
    rcases h with h | ⟨_, h | ⟨_, h | ⟨_, h⟩⟩⟩
    · exact try_bd (by omega) h
    · exact try_bd (by omega) h
    · exact try_bd (by omega) h
    · exact try_bd (by omega) h
  | none =>
    refine ⟨⟨(by decide : (0 : Int) ≤ 65533), (by decide : (65533 : Int) ≤ 1114111)⟩, ?_⟩
    show 1 ≤ mostF y ∧ mostF y ≤ y.length
    unfold mostF
    split
    · omega
    · split
      · omega
      · omega
def RepPost (b : List Int) (w : World) (e : Ending) (w' : World) : Prop := ∃ u ws whole, e = .returned (.tuple #[u, .bool whole]) ∧ OwnW 21 w' w.heap.size u ws ∧ Rep b ws whole ∧ Below w.heap.size w w'
set_option maxHeartbeats 1000000 in
set_option maxRecDepth 100000 in
theorem rrepair_calls (b : List Int) (hl : b.length ≤ 1000000) (v : Value) (w : World) (h : bytesR.rel w (upto w.heap.size) [v] b) :
    Calls Tryz.prog 19 #[v] w (RepPost b w) := by
  obtain ⟨inf, hi0, hz0, hz1, hz2⟩ := info_parts infoRn
  have HS := hid fun (k : Nat) (hk : k < b.length) W (hW : Below w.heap.size w W) => rscan_calls b k hk hl v W (bytesR.below h hW hW.size)
  obtain ⟨A, c, rfl, hc, hm⟩ := list_form h
  unfold maxLen at hm
  clear h
  go_enter Tryz.func19, Tryz.ntmps19
  go_wp2_with fail
  go_loopw [4, 5, 6, 7, 8, 9] (fun vo vw vi _ _ _ wr => ∃ (k : Nat) (whole : Bool), k ≤ b.length ∧ vi = .int .i64 k ∧ vw = .bool whole ∧ (∃ vo' acc, vo' = vo ∧ OwnW 21 wr w.heap.size vo' acc ∧ acc.length ≤ k ∧ ∀ u h, Rep (b.drop k) u h → Rep b (acc ++ u) (whole && h)) ∧ Below w.heap.size w wr) (fun _ _ vi _ _ _ _ => b.length - (intOf vi).toNat)
  case atStart => exact ⟨0, true, Nat.zero_le _, rfl, rfl, ⟨_, [], rfl, OwnW.nil, Nat.le_refl _, fun u h hr => by simpa using hr⟩, Below.refl _ _⟩
  case round =>
    obtain ⟨wo, hwo⟩ : ∃ wo, wo = wr := ⟨_, rfl⟩
    subst hwo
    obtain ⟨k, whole, hk, rfl, rfl, ⟨vo, acc, rfl, ho, hal, hrep⟩, hB⟩ := hrel
    obtain ⟨Ao, co, rfl, hco, hmo⟩ := list_form (ho.rel (S := fun _ => True) (fun _ _ => trivial)).1
    unfold maxLen at hmo
    have HO := hid ho
    have HB := hid hB
    have HRp := hid hrep
    clear ho hB hrep
    by_cases hlt : k < b.length
    · have hlt' : (k : Int) < b.length := by omega
      have hne : b.drop k ≠ [] := fun he => by have := List.drop_eq_nil_iff.1 he; omega
      obtain ⟨⟨x0, x1⟩, n1, n2⟩ := scan_bd hne
      have HC := hid fun u h => Rep.cons (y := b.drop k) (w := u) (h := h) hne
      obtain ⟨⟨x, n, ok⟩, hsc⟩ : ∃ p, p = scanF (b.drop k) := ⟨_, rfl⟩
      rw [← hsc] at x0 x1 n1 n2 HC
      dsimp only at x0 x1 n1 n2
      rw [List.length_drop] at n2
      have HSK := hid (HS.out k hlt)
      rw [← hsc] at HSK
      clear hsc hne
      go_wp2_with fail
      refine (HSK.out _ HB.out).mono ?_
      rintro e w5 ⟨rfl, hB5⟩
      have HB5 := hid (HB.out.trans (hB5.mono HB.out.size))
      have HO5 : Hid (OwnW 21 w5 w.heap.size (.slice Ao acc.length co) acc) := hid ⟨own_below' HO.out.1 hB5, HO.out.2⟩
      clear hB5
      go_wp2_with (at_builtin; refine Hid.out ?_)
      refine hid ?_
      have hs5 := HB5.out.size
      refine wpList_append_own _ rfl _ _ 27 rfl w.heap.size 21 inf _ 1 4 Tryz.underlying27 hi0 hz0 hz1 hz2 rfl (by decide) _ _ _ rfl (HO5.out.1.alloc _) ⟨w5.heap.size, 0, none⟩ 1 1 [.int .i32 x] rfl rfl (news_at (w := w5) (cs := #[_]) rfl) (by simp [Value.oneCell']) (by unfold maxLen; omega) (by omega) (by simp; omega) ?_
      intro v' w6 hown6 hg6 hn6
      have hbE : Below w.heap.size w w6 := (HB5.out.alloc hs5 _).grown hg6 (by simp; omega) (fun g hg' => (HO5.out.1.lt g hg').1)
      have HN : Hid (OwnW 21 w6 w.heap.size v' (acc ++ [x])) := hid ⟨by rw [List.length_append, encW_append]; exact hown6, fun y hy => by
        rcases List.mem_append.1 hy with hy | hy
        · exact HO5.out.2 y hy
        · simp at hy
          subst hy
          exact ⟨by omega, by omega⟩⟩
      have HBE := hid hbE
      have HR2 : Hid (∀ u h, Rep (b.drop (k + n)) u h → Rep b ((acc ++ [x]) ++ u) ((whole && ok) && h)) := hid fun u h hr => by
        have h1 := HC.out u h (by show Rep ((b.drop k).drop n) u h; rw [List.drop_drop]; exact hr)
        have h2 := HRp.out _ _ h1
        rw [List.append_assoc, Bool.and_assoc]
        exact h2
      clear hown6 hg6 hn6 hbE
      cases whole with
      | false =>
        go_wp2_with fail
        refine ⟨⟨k + n, false, by omega, by push_cast; rfl, rfl, ⟨v', _, rfl, HN.out, by simp; omega, HR2.out⟩, HBE.out⟩, ?_⟩
        simp [intOf]
        omega
      | true =>
        go_wp2_with fail
        refine ⟨⟨k + n, ok, by omega, by push_cast; rfl, rfl, ⟨v', _, rfl, HN.out, by simp; omega, by simpa using HR2.out⟩, HBE.out⟩, ?_⟩
        simp [intOf]
        omega
    · have hke : k = b.length := by omega
      subst hke
      have HF : Hid (Rep b acc whole) := hid (by have := HRp.out [] true (by rw [List.drop_length]; exact .nil); simpa using this)
      have hlt' : ¬ (b.length : Int) < b.length := by omega
      clear HRp
      go_wp2_with fail
      go_ret2
      exact ⟨_, acc, whole, rfl, HO.out, HF.out, HB.out⟩
end Go.Proofs.YtmkmikacfilbpaaGreat
