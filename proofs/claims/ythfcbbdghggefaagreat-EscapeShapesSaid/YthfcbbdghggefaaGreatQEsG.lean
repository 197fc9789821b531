/-
  What stands for a symbol, as the reference has it: Esc, Html.
-/
import Derived.Test.YthfcbbdghggefaaGreatQEsF
import Derived.Test.YthfcbbdghggefaaGreatPj
import Derived.Test.YthfcbbdghggefaaGreatPm
import Derived.Test.YthfcbbdghggefaaGreatPe
import Derived.Lib.SmallJoins
namespace Go.Proofs.YthfcbbdghggefaaGreat
open Go.RowKit Go.Um Go.Proofs
theorem heapLtM' {w : World} {G : Nat} {o : Obj} (h : w.heap[G]? = some o) : G < w.heap.size := (Array.getElem?_eq_some_iff.1 h).1
theorem own_le {w : World} {base base' size n : Nat} {e : TypeId} {v : Value} {xs : List Value} (h : w.ownsRow base e size v n xs) (hb : base' ≤ base) : w.ownsRow base' e size v n xs :=
  ⟨h.1, h.2.elim Or.inl (fun ⟨g, cap, cur, hv, hg, r⟩ => Or.inr ⟨g, cap, cur, hv, Nat.le_trans hb hg, r⟩)⟩
theorem ent_str {i : Nat} {y : Int} (h : fiveP[i]? = some y) : (entS y).size = (entF y).length ∧ ∀ k z, (entF y)[k]? = some z → lett (entS y) k = z ∧ 0 ≤ z ∧ z ≤ 255 := by
  have hm := List.mem_of_getElem? h
  have key : fiveP.all (fun y => (entS y).size == (entF y).length && (List.range (entF y).length).all fun k => (entF y)[k]? == some (lett (entS y) k) && decide (0 ≤ lett (entS y) k ∧ lett (entS y) k ≤ 255)) = true := by decide +kernel
  have := List.all_eq_true.1 key y hm
  rw [Bool.and_eq_true] at this
  refine ⟨by simpa using this.1, fun k z hz => ?_⟩
  have hk := (List.getElem?_eq_some_iff.1 hz).1
  have h2 := List.all_eq_true.1 this.2 k (List.mem_range.2 hk)
  rw [Bool.and_eq_true, hz] at h2
  have h3 : z = lett (entS y) k := by simpa using h2.1
  have h4 := of_decide_eq_true h2.2
  exact ⟨h3.symm, by rw [h3]; exact h4.1, by rw [h3]; exact h4.2⟩
theorem from_at {W : World} {FB i : Nat} {y : Int} (hW : W.heap[FB]? = some (.cells #[.int .i32 38, .int .i32 60, .int .i32 62, .int .i32 34, .int .i32 39] 21)) (h : fiveP[i]? = some y) : W.cell? ⟨FB, i, none⟩ = some (.int .i32 y) := by
  rw [cell_of_row _ _ _ _ _ _ hW]
  have hi := (List.getElem?_eq_some_iff.1 h).1
  have hl : fiveP.length = 5 := rfl
  obtain rfl | rfl | rfl | rfl | rfl : i = 0 ∨ i = 1 ∨ i = 2 ∨ i = 3 ∨ i = 4 := by omega
  all_goals
    cases h
    rfl
theorem to_at {W : World} {TB i : Nat} {y : Int} (hW : W.heap[TB]? = some (.cells #[.string ⟨#[38, 97, 109, 112, 59]⟩, .string ⟨#[38, 108, 116, 59]⟩, .string ⟨#[38, 103, 116, 59]⟩, .string ⟨#[38, 113, 117, 111, 116, 59]⟩, .string ⟨#[38, 35, 51, 57, 59]⟩] 9)) (h : fiveP[i]? = some y) : W.cell? ⟨TB, i, none⟩ = some (.string (entS y)) := by
  rw [cell_of_row _ _ _ _ _ _ hW]
  have hi := (List.getElem?_eq_some_iff.1 h).1
  have hl : fiveP.length = 5 := rfl
  obtain rfl | rfl | rfl | rfl | rfl : i = 0 ∨ i = 1 ∨ i = 2 ∨ i = 3 ∨ i = 4 := by omega
  all_goals
    cases h
    rfl
theorem esc_five {i : Nat} {y : Int} (h : fiveP[i]? = some y) : escF y = entF y := by
  have hm := List.mem_of_getElem? h
  simp only [fiveP, List.mem_cons, List.not_mem_nil, or_false] at hm
  rcases hm with rfl | rfl | rfl | rfl | rfl <;> decide
theorem esc_none {z : Int} (h : ∀ (i : Nat) (y : Int), fiveP[i]? = some y → z ≠ y) : escF z = [z] := by
  have h5 : z ≠ 38 ∧ z ≠ 60 ∧ z ≠ 62 ∧ z ≠ 34 ∧ z ≠ 39 := ⟨h 0 _ rfl, h 1 _ rfl, h 2 _ rfl, h 3 _ rfl, h 4 _ rfl⟩
  unfold escF entF
  rw [if_neg h5.1, if_neg h5.2.1, if_neg h5.2.2.1, if_neg h5.2.2.2.1, if_neg h5.2.2.2.2, if_pos rfl]
theorem esc_len (z : Int) : (escF z).length ≤ 6 := by
  unfold escF entF
  repeat' split
  all_goals simp at *
set_option maxHeartbeats 1000000 in
set_option maxRecDepth 100000 in
theorem resc_calls (z : Int) (hz : I32 z) (w : World) : Calls Tryz.prog 29 #[.int .i32 z] w fun e w' => ∃ u, e = .returned u ∧ OwnW 21 w' w.heap.size u (escF z) ∧ Below w.heap.size w w' := by
  obtain ⟨inf, hi0, hz0, hz1, hz2⟩ := info_parts infoRn
  have HZ := hid hz
  clear hz
  go_enter Tryz.func29, Tryz.ntmps29
  go_wp2_with fail
  obtain ⟨wl, hwl⟩ : ∃ wl, wl = (w.alloc (.cells #[.int .i32 38, .int .i32 60, .int .i32 62, .int .i32 34, .int .i32 39] 21)).alloc (.cells #[.string ⟨#[38, 97, 109, 112, 59]⟩, .string ⟨#[38, 108, 116, 59]⟩, .string ⟨#[38, 103, 116, 59]⟩, .string ⟨#[38, 113, 117, 111, 116, 59]⟩, .string ⟨#[38, 35, 51, 57, 59]⟩] 9) := ⟨_, rfl⟩
  rw [← hwl]
  have hFB : wl.heap[w.heap.size]? = some (.cells #[.int .i32 38, .int .i32 60, .int .i32 62, .int .i32 34, .int .i32 39] 21) := by rw [hwl, Below.heap_alloc _ _ _ (by simp)]; exact heap_alloc_new _ _
  have hTB : wl.heap[w.heap.size + 1]? = some (.cells #[.string ⟨#[38, 97, 109, 112, 59]⟩, .string ⟨#[38, 108, 116, 59]⟩, .string ⟨#[38, 103, 116, 59]⟩, .string ⟨#[38, 113, 117, 111, 116, 59]⟩, .string ⟨#[38, 35, 51, 57, 59]⟩] 9) := by
    have := heap_alloc_new (w.alloc (.cells #[.int .i32 38, .int .i32 60, .int .i32 62, .int .i32 34, .int .i32 39] 21)) (.cells #[.string ⟨#[38, 97, 109, 112, 59]⟩, .string ⟨#[38, 108, 116, 59]⟩, .string ⟨#[38, 103, 116, 59]⟩, .string ⟨#[38, 113, 117, 111, 116, 59]⟩, .string ⟨#[38, 35, 51, 57, 59]⟩] 9)
    rw [hwl]
    simpa using this
  have hBl : Below w.heap.size w wl := by rw [hwl]; exact ((Below.refl _ w).alloc (Nat.le_refl _) _).alloc (by simp) _
  have hFl := heapLtM' hFB
  have hTl := heapLtM' hTB
  have HFB := hid hFB
  have HTB := hid hTB
  have HBl := hid hBl
  clear hwl hFB hTB hBl
  go_loopw [5] (fun vi wr => ∃ i : Nat, i ≤ 5 ∧ vi = .int .i64 i ∧ wr = wl ∧ ∀ j y, j < i → fiveP[j]? = some y → z ≠ y) (fun vi _ => 5 - (intOf vi).toNat)
  case atStart => exact ⟨0, Nat.zero_le _, rfl, rfl, fun j y hj => absurd hj (Nat.not_lt_zero _)⟩
  case round =>
    obtain ⟨i, hi, rfl, rfl, hno⟩ := hrel
    have HNO := hid hno
    clear hno
    by_cases hlt : i < 5
    · obtain ⟨y, hy⟩ := at_lt (xs := fiveP) (i := i) hlt
      have hlt' : (i : Int) < 5 := by omega
      have cf := from_at HFB.out hy
      have ct := to_at HTB.out hy
      have HY := hid hy
      by_cases he : z = y
      · have he' := beq_t he
        have hst := ent_str hy
        have HSZ := hid hst.1
        have HST := hid hst.2
        have HE : Hid (escF z = entF y) := hid (by rw [he]; exact esc_five hy)
        obtain ⟨s, hs⟩ : ∃ s, s = entS y := ⟨_, rfl⟩
        rw [← hs] at ct HSZ HST
        obtain ⟨L, hL⟩ : ∃ L, L = entF y := ⟨_, rfl⟩
        rw [← hL] at HSZ HST HE
        have hsz : (s.size : Int) = L.length := by rw [HSZ.out]
        have hL6 : L.length ≤ 6 := by rw [← HE.out]; exact esc_len z
        clear hst hy he hs hL
        go_wp2_with fail
        obtain ⟨wm, hwm⟩ : ∃ wm, wm = wr := ⟨_, rfl⟩
        subst hwm
        go_loopw [6, 7] (fun vo vk wq => ∃ k : Nat, k ≤ L.length ∧ vk = .int .i64 k ∧ (∃ vo', vo' = vo ∧ OwnW 21 wq wm.heap.size vo' (L.take k)) ∧ Below wm.heap.size wm wq) (fun _ vk _ => L.length - (intOf vk).toNat)
        case atStart => exact ⟨0, Nat.zero_le _, rfl, ⟨_, rfl, OwnW.nil⟩, Below.refl _ _⟩
        case round =>
          obtain ⟨k, hk, rfl, ⟨vo, rfl, ho⟩, hB⟩ := hrel
          obtain ⟨Ao, co, rfl, hco, hmo⟩ := list_form (ho.rel (S := fun _ => True) (fun _ _ => trivial)).1
          unfold maxLen at hmo
          have hs1 := hB.size
          have ct2 := (hB.cell (p := ⟨w.heap.size + 1, i, none⟩) hTl).trans ct
          have hTl2 : w.heap.size + 1 < wr.heap.size := Nat.lt_of_lt_of_le hTl hs1
          by_cases hk6 : k < L.length
          · obtain ⟨x, hx⟩ := at_lt hk6
            have hk6' : (k : Int) < L.length := by omega
            obtain ⟨hx1, hx2, hx3⟩ := HST.out k x hx
            have hkS : k < s.size := by have := HSZ.out; omega
            have hkS' : (k : Int) < s.size := by omega
            have hcx := (lett_at s k hkS).trans hx1
            have HO := hid ho
            have HB := hid hB
            have HX := hid hx
            clear ho hB hx hx1
            go_wp2_with (at_builtin; refine Hid.out ?_)
            refine hid ?_
            refine wpList_append_own _ rfl _ _ 37 rfl wm.heap.size 21 inf _ 1 4 Tryz.underlying37 hi0 hz0 hz1 hz2 rfl (by decide) _ _ _ rfl (HO.out.1.alloc _) ⟨wr.heap.size, 0, none⟩ 1 1 [.int .i32 x] rfl rfl (news_at (w := wr) (cs := #[_]) rfl) (by simp [Value.oneCell']) (by unfold maxLen; rw [List.length_take]; omega) (by rw [List.length_take]; omega) (by simp; omega) ?_
            intro v' w6 hown6 hg6 hn6
            have hbE : Below wm.heap.size wm w6 := (HB.out.alloc hs1 _).trans (below_grown (HO.out.1.alloc _) hg6 (Nat.le_refl _) (by simp; omega))
            have hT : L.take (k + 1) = L.take k ++ [x] := by rw [List.take_add_one, HX.out]; rfl
            have HN : Hid (OwnW 21 w6 wm.heap.size v' (L.take (k + 1))) := hid ⟨by rw [hT, List.length_append, encW_append]; exact hown6, fun q hq => by
              rw [hT] at hq
              rcases List.mem_append.1 hq with hq | hq
              · exact HO.out.2 q hq
              · simp at hq
                subst hq
                exact ⟨by omega, by omega⟩⟩
            have HBE := hid hbE
            clear hown6 hg6 hn6 hbE hT
            go_wp2_with fail
            refine ⟨⟨k + 1, by omega, by push_cast; rfl, ⟨v', rfl, HN.out⟩, HBE.out⟩, ?_⟩
            simp [intOf]
            omega
          · have hke : k = L.length := by omega
            subst hke
            have HO : Hid (OwnW 21 wr wm.heap.size (.slice Ao L.length co) L) := hid (by simpa using ho)
            have HB := hid hB
            have hk6' : ¬ (L.length : Int) < L.length := by omega
            clear ho hB
            go_wp2_with fail
            go_ret
            exact ⟨_, rfl, by rw [HE.out]; exact ⟨own_le HO.out.1 HBl.out.size, HO.out.2⟩, HBl.out.trans (HB.out.mono HBl.out.size)⟩
      · have he' := beq_f he
        have HE := hid he
        clear hy he
        have HN : Hid (∃ i1 : Nat, i1 ≤ 5 ∧ Value.int .i64 ((i : Int) + 1) = .int .i64 i1 ∧ ∀ j y, j < i1 → fiveP[j]? = some y → z ≠ y) := hid ⟨i + 1, by omega, by push_cast; rfl, fun j y' hj hy' => by
          rcases Nat.lt_succ_iff_lt_or_eq.1 hj with h | rfl
          · exact HNO.out j y' h hy'
          · rw [HY.out] at hy'
            injection hy' with hy'
            rw [← hy']
            exact HE.out⟩
        go_wp2_with fail
        refine ⟨by simpa using HN.out, ?_⟩
        simp [intOf]
        omega
    · obtain rfl : i = 5 := by omega
      have HE : Hid (escF z = [z]) := hid (esc_none fun j y hy => HNO.out j y (by have := (List.getElem?_eq_some_iff.1 hy).1; have : fiveP.length = 5 := rfl; omega) hy)
      clear hlt
      go_wp2_with fail
      go_ret
      refine ⟨_, rfl, ⟨?_, ?_⟩, HBl.out.alloc HBl.out.size _⟩
      · rw [HE.out]
        exact World.ownsRow_lit wr #[.int .i32 z] 1 HBl.out.size (by decide) rfl
      · rw [HE.out]
        intro y hy
        simp at hy
        subst hy
        exact HZ.out
end Go.Proofs.YthfcbbdghggefaaGreat
