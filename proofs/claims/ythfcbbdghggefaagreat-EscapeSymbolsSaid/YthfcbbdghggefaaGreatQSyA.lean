/-
  What the program writes of a symbol: word.Of at a text of letters, escape.Esc.
-/
import Derived.Test.YthfcbbdghggefaaGreatQEsJ
import Derived.Test.YthfcbbdghggefaaGreatQEsI
import Derived.Test.YthfcbbdghggefaaGreatPi
import Derived.Test.YthfcbbdghggefaaGreatQEsB
import Derived.Test.YthfcbbdghggefaaGreatQEsO
namespace Go.Proofs.YthfcbbdghggefaaGreat
open Go.RowKit Go.Um Go.Proofs
theorem ownW_keep {e : TypeId} {w w' : World} {base : Nat} {v : Value} {xs : List Int} (h : OwnW e w base v xs) (hk : ∀ g cur, base ≤ g → w.heap[g]? = some (.cells cur e) → w'.heap[g]? = w.heap[g]?) : OwnW e w' base v xs := ⟨by
  refine ⟨h.1.1, ?_⟩
  rcases h.1.2 with h2 | ⟨g, cap, cur, h2, h3, h4, h5⟩
  · exact .inl h2
  · exact .inr ⟨g, cap, cur, h2, h3, (hk g cur h3 h4).trans h4, h5⟩, h.2⟩
set_option maxHeartbeats 1000000 in
set_option maxRecDepth 100000 in
theorem Of_calls (s : ByteArray) (L : List Int) (hl : s.size = L.length) (h6 : L.length ≤ 6) (hL : ∀ k z, L[k]? = some z → ∃ hk : k < s.size, ((s[k]'hk).toNat : Int) = z ∧ (s[k]'hk).toNat < 128) (w : World) :
    Calls Tryz.prog 67 #[.string s] w fun e w' => ∃ u, e = .returned u ∧ OwnW 21 w' w.heap.size u L ∧ Below w.heap.size w w' := by
  obtain ⟨inf, hi0, hz0, hz1, hz2⟩ := info_parts infoRn
  have HSL := hid hl
  have HL := hid hL
  clear hl hL
  go_enter Tryz.func67, Tryz.ntmps67
  go_wp2_with fail
  obtain ⟨wl, hwl⟩ : ∃ x, x = w.iter s 0 := ⟨_, rfl⟩
  rw [← hwl]
  have hIt : wl.heap[w.heap.size]? = some (.stringIter s 0) := by rw [hwl]; exact heap_alloc_new _ _
  have hBl : Below w.heap.size w wl := by rw [hwl]; exact (Below.refl _ w).alloc (Nat.le_refl _) _
  have hsl : wl.heap.size = w.heap.size + 1 := by rw [hwl]; show (w.alloc _).heap.size = _; simp
  have HI0 := hid hIt
  have HBl := hid hBl
  have HSl := hid hsl
  clear hwl hIt hBl hsl
  go_loopw [3] (fun v3 wr => ∃ k : Nat, k ≤ L.length ∧ wr.heap[w.heap.size]? = some (.stringIter s k) ∧ (∃ v', v' = v3 ∧ OwnW 21 wr (w.heap.size + 1) v' (L.take k)) ∧ Below w.heap.size w wr ∧ w.heap.size + 1 ≤ wr.heap.size) (fun _ wr => L.length - wr.iterPos w.heap.size)
  case atStart => exact ⟨0, Nat.zero_le _, HI0.out, ⟨_, rfl, OwnW.nil⟩, HBl.out, by rw [HSl.out]; exact Nat.le_refl _⟩
  case round =>
    obtain ⟨wo, hwo⟩ : ∃ wo, wo = wr := ⟨_, rfl⟩
    subst hwo
    obtain ⟨k, hk, hIk, ⟨vo, rfl, ho⟩, hB, hs1⟩ := hrel
    have HPk := hid (iter_pos hIk)
    obtain ⟨Ao, co, rfl, hco, hmo⟩ := list_form (ho.rel (S := fun _ => True) (fun _ _ => trivial)).1
    unfold maxLen at hmo
    by_cases hlt : k < L.length
    · obtain ⟨z, hz⟩ := at_lt hlt
      obtain ⟨hks, hsz, hs2⟩ := HL.out k z hz
      have hnx := fun ty => Lib.run_next_ascii_at (P := Tryz.prog) wo w.heap.size s k ty hIk hks hs2
      rw [hsz] at hnx
      have hzb : 0 ≤ z ∧ z ≤ 127 := by omega
      have hIT : w.heap.size < wo.heap.size := heapLtM hIk
      have HIk := hid hIk
      have HX := hid hz
      have HO := hid ho
      have HB := hid hB
      clear hsz hs2 hz hIk ho hB
      go_wp2_with (at_builtin; refine Hid.out ?_)
      refine hid ?_
      obtain ⟨wq, hwq⟩ : ∃ x, x = wo.iterAt w.heap.size s (k + 1) := ⟨_, rfl⟩
      rw [← hwq]
      have hIq : wq.heap[w.heap.size]? = some (.stringIter s (k + 1)) := by rw [hwq]; exact Lib.iterAt_heap wo w.heap.size s k (k + 1) HIk.out
      have hsq : wq.heap.size = wo.heap.size := by rw [hwq]; exact Lib.iterAt_size wo w.heap.size s (k + 1)
      have HOq := hid (ownW_keep (w' := wq) HO.out fun g _ hg _ => by rw [hwq]; exact Lib.iterAt_other wo w.heap.size g s (k + 1) (by omega))
      have HBq := hid (show Below w.heap.size w wq by rw [hwq]; exact Lib.below_iterAt HB.out (Nat.le_refl _) s (k + 1))
      have hs1q : w.heap.size + 1 ≤ wq.heap.size := by omega
      have HIq := hid hIq
      clear hwq hsq hnx hIq
      refine wpList_append_own _ rfl _ _ 37 rfl (w.heap.size + 1) 21 inf _ 1 4 Tryz.underlying37 hi0 hz0 hz1 hz2 rfl (by decide) _ _ _ rfl (HOq.out.1.alloc _) ⟨wq.heap.size, 0, none⟩ 1 1 [.int .i32 z] rfl rfl (news_at (w := wq) (cs := #[_]) rfl) (by simp [Value.oneCell']) (by unfold maxLen; rw [List.length_take]; omega) (by rw [List.length_take]; omega) (by simp; omega) ?_
      intro v' w6 hown6 hg6 hn6
      have hbE : Below (w.heap.size + 1) wq w6 := ((Below.refl _ wq).alloc (by omega) _).trans (below_grown (HOq.out.1.alloc _) hg6 (Nat.le_refl _) (by simp; omega))
      have hT : L.take (k + 1) = L.take k ++ [z] := by rw [List.take_add_one, HX.out]; rfl
      have HN : Hid (OwnW 21 w6 (w.heap.size + 1) v' (L.take (k + 1))) := hid ⟨by rw [hT, List.length_append, encW_append]; exact hown6, fun q hq => by
        rw [hT] at hq
        rcases List.mem_append.1 hq with hq | hq
        · exact HO.out.2 q hq
        · simp at hq
          subst hq
          exact ⟨by omega, by omega⟩⟩
      have HI6 := hid ((hbE.block _ (Nat.lt_succ_self _)).trans HIq.out)
      have HS6 := hid (Nat.le_trans hs1q hbE.size)
      have HBE := hid (HBq.out.trans (hbE.mono (Nat.le_succ _)))
      clear hown6 hg6 hn6 hbE hT
      go_wp2_with fail
      refine ⟨⟨k + 1, by omega, HI6.out, ⟨v', rfl, HN.out⟩, HBE.out, HS6.out⟩, ?_⟩
      rw [iter_pos HI6.out, HPk.out]
      omega
    · have hke : k = L.length := by omega
      subst hke
      rw [List.take_length] at ho
      have hnx := fun ty => Lib.run_next_end_at (P := Tryz.prog) wo w.heap.size s L.length ty hIk (by rw [HSL.out]; omega)
      have HO := hid ho
      have HB := hid hB
      clear ho hB
      go_wp2_with fail
      go_ret
      exact ⟨_, rfl, ⟨own_le (by simpa using HO.out.1) (Nat.le_succ _), HO.out.2⟩, HB.out⟩
theorem entS_nil {z : Int} (h : ∀ (i : Nat) (y : Int), fiveP[i]? = some y → z ≠ y) : entS z = ⟨#[]⟩ ∧ escF z = [z] := by
  refine ⟨?_, esc_none h⟩
  have h5 : z ≠ 38 ∧ z ≠ 60 ∧ z ≠ 62 ∧ z ≠ 34 ∧ z ≠ 39 := ⟨h 0 _ rfl, h 1 _ rfl, h 2 _ rfl, h 3 _ rfl, h 4 _ rfl⟩
  unfold entS
  rw [if_neg h5.1, if_neg h5.2.1, if_neg h5.2.2.1, if_neg h5.2.2.2.1, if_neg h5.2.2.2.2]
theorem entS_five {i : Nat} {z : Int} (h : fiveP[i]? = some z) : (entS z).toList.isEmpty = false := by
  have hm := List.mem_of_getElem? h
  simp only [fiveP, List.mem_cons, List.not_mem_nil, or_false] at hm
  rcases hm with rfl | rfl | rfl | rfl | rfl <;> decide +kernel
set_option maxHeartbeats 1000000 in
set_option maxRecDepth 100000 in
theorem Esc_calls (z : Int) (hz : I32 z) (w : World) : Calls Tryz.prog 28 #[.int .i32 z] w fun e w' => ∃ u, e = .returned u ∧ OwnW 21 w' w.heap.size u (escF z) ∧ Below w.heap.size w w' := by
  have HE := hid fun W => entity_calls z W
  by_cases h5 : ∃ i : Nat, fiveP[i]? = some z
  · obtain ⟨i, hi⟩ := h5
    have hs := ent_str hi
    have he := esc_five hi
    have hb := entS_five hi
    have h6 : (entF z).length ≤ 6 := by rw [← he]; exact esc_len z
    have HOF := hid fun W => Of_calls (entS z) (entF z) hs.1 h6 (fun k y hy => ent_at hi hy) W
    have HES := hid he
    obtain ⟨s, hs⟩ : ∃ s, s = entS z := ⟨_, rfl⟩
    rw [← hs] at HE HOF hb
    clear hs he hi hz h6
    go_enter Tryz.func28, Tryz.ntmps28
    go_wp2_with fail
    refine (HE.out _).mono ?_
    rintro e w1 ⟨rfl, hw1⟩
    rw [hw1]
    clear hw1 w1
    go_wp2_with fail
    refine (HOF.out _).mono ?_
    rintro e w2 ⟨u, rfl, ho, hB⟩
    have HO := hid ho
    have HB := hid hB
    clear ho hB
    go_wp2_with fail
    go_ret
    exact ⟨_, rfl, by rw [HES.out]; exact HO.out, HB.out⟩
  · have hn := entS_nil (z := z) fun i y hy he => h5 ⟨i, by rw [hy, he]⟩
    have HES := hid hn.2
    rw [hn.1] at HE
    have HZ := hid hz
    clear hn h5 hz
    go_enter Tryz.func28, Tryz.ntmps28
    go_wp2_with fail
    refine (HE.out _).mono ?_
    rintro e w1 ⟨rfl, hw1⟩
    rw [hw1]
    clear hw1 w1
    go_wp2_with fail
    go_ret
    refine ⟨_, rfl, ?_, (Below.refl _ w).alloc (Nat.le_refl _) _⟩
    rw [HES.out]
    exact ⟨World.ownsRow_lit w #[.int .i32 z] 1 (Nat.le_refl _) (by decide) rfl, fun y hy => by simp at hy; subst hy; exact HZ.out⟩
set_option maxHeartbeats 1000000 in
set_option maxRecDepth 100000 in
theorem Unres_calls (b : Int) (hb : 0 ≤ b ∧ b ≤ 255) (w : World) : Calls Tryz.prog 30 #[.int .u8 b] w fun e w' => e = .returned (.bool (plainB b)) ∧ Below w.heap.size w w' := by
  have HP := hid (eplain_calls w)
  have HH := hid fun v W h => Has_calls plainP b v W h
  have HE : Hid (hasI plainP b = plainB b) := hid (by unfold hasI; rw [decide_eq_true (by omega), decide_eq_true (by omega)]; rfl)
  go_enter Tryz.func30, Tryz.ntmps30
  go_wp2_with fail
  refine HP.out.mono ?_
  rintro e w1 ⟨u, rfl, ho, hB⟩
  have HO := hid ho
  have HB := hid hB
  clear ho hB
  go_wp2_with fail
  refine (HH.out _ _ HO.out.rel).mono ?_
  rintro e w2 ⟨rfl, hB2⟩
  have HB2 := hid (HB.out.trans (hB2.mono HB.out.size))
  clear hB2
  go_wp2_with fail
  go_ret
  exact ⟨by rw [← HE.out]; rfl, HB2.out⟩
set_option maxHeartbeats 1000000 in
set_option maxRecDepth 100000 in
theorem digit_calls (n : Int) (hn : 0 ≤ n ∧ n ≤ 15) (w : World) : Calls Tryz.prog 69 #[.int .u8 n] w fun e w' => e = .returned (.int .u8 (digF n)) ∧ w' = w := by
  have HD : Hid (digF n = if n < 10 then 48 + n else 55 + n) := hid rfl
  by_cases h : n < 10
  · rw [if_pos h] at HD
    go_enter Tryz.func69, Tryz.ntmps69
    go_wp2_with fail
    go_ret
    exact ⟨by rw [HD.out]; rfl, rfl⟩
  · rw [if_neg h] at HD
    go_enter Tryz.func69, Tryz.ntmps69
    go_wp2_with fail
    go_ret
    exact ⟨by rw [HD.out, show 55 + n = 65 + n - 10 by omega]; rfl, rfl⟩
set_option maxHeartbeats 1000000 in
set_option maxRecDepth 100000 in
theorem Percent_calls (b : Int) (hb : 0 ≤ b ∧ b ≤ 255) (w : World) : Calls Tryz.prog 32 #[.int .u8 b] w fun e w' => ∃ u, e = .returned u ∧ OwnB 5 w' w.heap.size u (urlB b) ∧ Below w.heap.size w w' := by
  have HU := hid (Unres_calls b hb w)
  have HDG := hid fun n hn W => digit_calls n hn W
  by_cases hp : plainB b = true
  · rw [hp] at HU
    have HE : Hid (urlB b = [b]) := hid (by unfold urlB; rw [if_pos hp])
    clear hp
    go_enter Tryz.func32, Tryz.ntmps32
    go_wp2_with fail
    refine HU.out.mono ?_
    rintro e w1 ⟨rfl, hB⟩
    have HB := hid hB
    have hs1 := hB.size
    clear hB
    go_wp2_with fail
    go_ret
    refine ⟨_, rfl, ?_, HB.out.alloc hs1 _⟩
    rw [HE.out]
    exact ⟨World.ownsRow_lit w1 #[.int .u8 b] 1 hs1 (by decide) rfl, fun y hy => by simp at hy; subst hy; exact hb⟩
  · have hp := Bool.eq_false_iff.2 hp
    rw [hp] at HU
    have HE : Hid (urlB b = [37, digF (b / 16), digF (b % 16)]) := hid (by unfold urlB; rw [hp]; rfl)
    clear hp
    go_enter Tryz.func32, Tryz.ntmps32
    go_wp2_with fail
    refine HU.out.mono ?_
    rintro e w1 ⟨rfl, hB⟩
    have HB := hid hB
    have hs1 := hB.size
    clear hB
    go_wp2_with fail
    refine (HDG.out (b / 16) (by omega) _).mono ?_
    rintro e w2 ⟨rfl, rfl⟩
    go_wp2_with fail
    refine (HDG.out (b % 16) (by omega) _).mono ?_
    rintro e w3 ⟨rfl, rfl⟩
    go_wp2_with fail
    go_ret
    refine ⟨_, rfl, ?_, HB.out.alloc hs1 _⟩
    rw [HE.out]
    exact ⟨World.ownsRow_lit w3 #[.int .u8 37, .int .u8 (digF (b / 16)), .int .u8 (digF (b % 16))] 3 hs1 (by decide) rfl, fun y hy => by
      have h1 : ∀ m : Int, 0 ≤ m ∧ m ≤ 15 → 0 ≤ digF m ∧ digF m ≤ 255 := fun m hm => by unfold digF; split <;> omega
      simp only [List.mem_cons, List.not_mem_nil, or_false] at hy
      rcases hy with rfl | rfl | rfl
      · omega
      · exact h1 _ (by omega)
      · exact h1 _ (by omega)⟩
end Go.Proofs.YthfcbbdghggefaaGreat
