/-
  The reference's meet and Norm; which options clash, from one on to the next: the program's search and the reference's come to the same. The reference's meet and Clash.
-/
import Derived.Test.YtflllgbjlfpgcaaKMakeW
import Derived.Test.YtflllgbjlfpgcaaKClash
import Derived.Test.YtflllgbjlfpgcaaKWhere
namespace Go.Proofs.Ytflllgbjlfpgcaa
open Go.RowKit Go.Um Go.Proofs
def innerR (o : Opt) : Nat → List Opt → Option Int
  | _, [] => none
  | k, p :: r => if clashF o p then some k else innerR o (k + 1) r
def outerR : Nat → List Opt → Option (Int × Int)
  | _, [] => none
  | i, o :: r => match innerR o (i + 1) r with
    | some k => some (i, k)
    | none => outerR (i + 1) r
theorem innerS_find (os : List Opt) (i : Nat) (o : Opt) (ks : List Int) : innerS os i o ks = ks.find? (pairF os i o) := by
  induction ks with
  | nil => rfl
  | cons k r ih =>
    unfold innerS
    rw [List.find?_cons]
    cases h : pairF os i o k
    · simpa [h] using ih
    · simp
theorem clash_src {a b : Opt} (h : a.src ≠ b.src) : clashF a b = false := by unfold clashF; rw [if_pos h]
theorem idx_find (os : List Opt) (i : Nat) (o : Opt) : ((List.range os.length).filter (fun k => (os[k]?.map Opt.src) == some o.src)).find? (fun k : Nat => pairF os i o k) = (List.range os.length).find? (fun k : Nat => decide (i < k) && (match os[k]? with | some p => clashF o p | none => false)) := by
  rw [List.find?_filter]
  congr 1
  funext k
  unfold pairF
  rw [Int.toNat_natCast]
  cases hk : os[k]? with
  | none => simp
  | some p =>
    by_cases hs : p.src = o.src
    · simp [hs]
    · have hc : clashF o p = false := clash_src (fun e => hs e.symm)
      simp [hs, hc]
theorem innerR_find (os : List Opt) (o : Opt) : ∀ (r pre : List Opt), os = pre ++ r → ((List.range' pre.length r.length).find? (fun k : Nat => match os[k]? with | some p => clashF o p | none => false)).map (fun k : Nat => (k : Int)) = innerR o pre.length r := by
  intro r
  induction r with
  | nil => intro pre _; rfl
  | cons p r ih =>
    intro pre hos
    have hp : os[pre.length]? = some p := by rw [hos]; simp
    have hi := ih (pre ++ [p]) (by rw [hos]; simp)
    rw [List.length_append, List.length_singleton] at hi
    rw [List.length_cons, List.range'_succ, List.find?_cons, hp]
    unfold innerR
    cases hc : clashF o p
    · simp only [hc]
      simpa using hi
    · simp only [hc]
      simp
theorem find_congr {α : Type} {p q : α → Bool} {l : List α} (h : ∀ x ∈ l, p x = q x) : l.find? p = l.find? q := by
  induction l with
  | nil => rfl
  | cons x r ih => rw [List.find?_cons, List.find?_cons, h x (by simp), ih (fun y hy => h y (by simp [hy]))]
theorem innerS_eq {os pre r : List Opt} {o : Opt} (h : os = pre ++ o :: r) : innerS os pre.length o (idxO os os.length o.src) = innerR o (pre.length + 1) r := by
  rw [innerS_find]
  unfold idxO
  rw [List.find?_map]
  have e1 : (pairF os pre.length o ∘ fun i : Nat => (i : Int)) = fun k : Nat => pairF os pre.length o k := rfl
  rw [e1, idx_find]
  have hlen : os.length = (pre.length + 1) + r.length := by rw [h]; simp; omega
  rw [hlen, List.range_eq_range', ← List.range'_append_1, List.find?_append, Nat.zero_add]
  have h0 : (List.range' 0 (pre.length + 1)).find? (fun k : Nat => decide (pre.length < k) && (match os[k]? with | some p => clashF o p | none => false)) = none := by
    rw [List.find?_eq_none]
    intro k hk
    have := (List.mem_range'_1.1 hk)
    simp; intro hk2; omega
  rw [h0, Option.none_or]
  have h1 := innerR_find os o r (pre ++ [o]) (by rw [h]; simp)
  rw [List.length_append, List.length_singleton] at h1
  rw [← h1]
  congr 1
  refine find_congr fun k hk => ?_
  have := List.mem_range'_1.1 hk
  rw [decide_eq_true (by omega)]
  simp
theorem outerS_eq {os : List Opt} : ∀ (r pre : List Opt), os = pre ++ r → outerS os pre.length r = outerR pre.length r := by
  intro r
  induction r with
  | nil => intro pre _; rfl
  | cons o r ih =>
    intro pre h
    have hi := ih (pre ++ [o]) (by rw [h]; simp)
    rw [List.length_append, List.length_singleton] at hi
    unfold outerS outerR
    rw [innerS_eq h, hi]
    rfl
theorem clash_same (os : List Opt) : outerS os 0 os = outerR 0 os := outerS_eq os [] rfl
end Go.Proofs.Ytflllgbjlfpgcaa
namespace Go.Proofs.Ytflllgbjlfpgcaa
open Go.RowKit Go.Um Go.Proofs
set_option maxHeartbeats 1000000 in
set_option maxRecDepth 100000 in
theorem Rmeet_calls (a b : List (List Span)) (v u : Value) (n : Int) (w : World) (ha : (listR spansR).rel w (upto w.heap.size) [v] a) (hb : (listR spansR).rel w (upto w.heap.size) [u] b)
    (hla : ∀ g ∈ a, g.length ≤ 100000) (hlb : ∀ g ∈ b, g.length ≤ 100000) (hn : n = min (a.length : Int) b.length) :
    Calls Try.prog 15 #[v, u, .int .i64 n] w fun e w' => e = .returned (.bool (meetG a b)) ∧ Below w.heap.size w w' := by
  obtain ⟨A1, c1, rfl, hc1, hm1⟩ := list_form ha
  obtain ⟨A2, c2, rfl, hc2, hm2⟩ := list_form hb
  unfold maxLen at hm1 hm2
  obtain ⟨m, hm⟩ : ∃ m : Nat, m = min a.length b.length := ⟨_, rfl⟩
  obtain rfl : n = m := by omega
  have hma : m ≤ a.length := by omega
  have hmb : m ≤ b.length := by omega
  have Hm := hid hm
  clear hm hn
  go_enter Try.func15, Try.ntmps15
  go_wp2_with fail
  go_loopw [7] (fun vi wr => ∃ k : Nat, k ≤ m ∧ vi = .int .i64 k ∧ meetG (a.drop k) (b.drop k) = meetG a b ∧ Below w.heap.size w wr) (fun vi _ => m - (intOf vi).toNat)
  case atStart => exact ⟨0, Nat.zero_le _, rfl, rfl, Below.refl _ _⟩
  case round =>
    obtain ⟨k, hk, rfl, hp, hB⟩ := hrel
    obtain ⟨wo, hwo⟩ : ∃ wo, wo = wr := ⟨_, rfl⟩
    subst hwo
    have HP := hid hp; clear hp
    have har := (listR spansR).mono (below_cells hB) (fun _ h => h) ha
    have hbr := (listR spansR).mono (below_cells hB) (fun _ h => h) hb
    by_cases hlt : k < m
    · obtain ⟨x, hx⟩ := at_lt (xs := a) (i := k) (by omega)
      obtain ⟨y, hy⟩ := at_lt (xs := b) (i := k) (by omega)
      obtain ⟨b1, o1, y1, rfl, hb1, hy1, h1⟩ := list_at1 rfl har hx
      obtain ⟨b2, o2, y2, rfl, hb2, hy2, h2⟩ := list_at1 rfl hbr hy
      have hlt' : (k : Int) < m := by omega
      have hka : (k : Int) < a.length := by omega
      have hkb : (k : Int) < b.length := by omega
      have HP2 : Hid ((!(meetF x y).isEmpty && meetG (a.drop (k + 1)) (b.drop (k + 1))) = meetG a b) := hid (by have := HP.out; rw [drop_cons hx, drop_cons hy] at this; exact this)
      have hxl := hla x (List.mem_of_getElem? hx)
      have hyl := hlb y (List.mem_of_getElem? hy)
      have hyw1 : spansR.rel wo.drew (upto wo.drew.heap.size) [y1] x := spansR.mono (fun _ _ => rfl) (fun b hb => Nat.lt_of_lt_of_le hb hB.size) hy1
      have hyw2 : spansR.rel wo.drew (upto wo.drew.heap.size) [y2] y := spansR.mono (fun _ _ => rfl) (fun b hb => Nat.lt_of_lt_of_le hb hB.size) hy2
      have hc := RMake1_calls 1 rfl x y y1 y2 wo.drew hyw1 hyw2 (by omega)
      have hgm : refMake (gOf 1) x y = meetF x y := by rw [← refMake_meet]; rfl
      rw [hgm] at hc
      have HC := hid hc
      have lb1 : b1 < wo.heap.size := Nat.lt_of_lt_of_le hb1 hB.size
      have lb2 : b2 < wo.heap.size := Nat.lt_of_lt_of_le hb2 hB.size
      obtain ⟨A5, c5, rfl, hc5, _⟩ := list_form hy1
      obtain ⟨A6, c6, rfl, hc6, _⟩ := list_form hy2
      clear hyw1 hyw2 hy1 hy2 hx hy har hbr HP hc hgm
      obtain ⟨M, hM⟩ : ∃ M, M = meetF x y := ⟨_, rfl⟩
      rw [← hM] at HC HP2
      clear hM
      have hMe : M.isEmpty = decide (M.length = 0) := by cases M <;> rfl
      have HB := hid hB
      go_wp2_with fail
      obtain ⟨ι, W, ⟨i0, hi0⟩, hW, Wsur⟩ := ext_class wo.drew
      have hne : Nonempty ι := ⟨i0⟩
      have g1 : ∀ i, (W i).cell? ⟨b1, o1 + k, none⟩ = some _ := fun i => ((hW i).cell lb1).trans h1
      have g2 : ∀ i, (W i).cell? ⟨b2, o2 + k, none⟩ = some _ := fun i => ((hW i).cell lb2).trans h2
      have WS := hid Wsur; clear Wsur
      have HW := hid hW; clear hW
      have Hi0 := hid hi0; clear hi0
      refine region_anyL (S := fun w' => ∃ i, w' = W i) (last := 11) (by kernel_rfl) ?_
      refine anyL_seg 0 8 (by kernel_rfl) (fun _ _ _ _ _ h => h) ⟨i0, Hi0.out.symm⟩ (f := 3) rfl (by kernel_rfl) (by kernel_rfl) ?_
      simp only [List.drop_zero, List.take_succ_cons, List.take_zero]
      repeat go_big_quiet_step (fail)
      refine wpQuiet_nil ?_
      refine anyL_act (i := 8) (by kernel_rfl) rfl rfl ?_
      intro K hK
      go_wp2_with fail
      refine HC.out.mono ?_
      rintro e w2 ⟨z2, rfl, ho2, hB2⟩
      have hS2 := WS.out i0 w2 (by rw [Hi0.out]; exact hB2)
      have hBo2 : Below wo.heap.size wo w2 := ⟨hB2.os, hB2.tape, hB2.output, hB2.size, hB2.block⟩
      obtain ⟨A7, c7, rfl, hc7, _⟩ := list_form ho2.rel
      clear ho2 hB2
      go_wp2_with fail
      refine hK.out _ _ (fun _ => hS2) ?_
      clear hK K
      by_cases hM0 : M.length = 0
      · have hF : Hid (meetG a b = false) := hid (by rw [← HP2.out, hMe, hM0]; rfl)
        have hM1 : ((M.length : Int) == 0) = true := beq_t (by omega)
        clear hMe
        refine anyL_seg 9 2 (by kernel_rfl) (fun _ _ _ _ _ h => h) hS2 (f := 0) rfl (by kernel_rfl) (by kernel_rfl) ?_
        simp only [List.drop_succ_cons, List.drop_zero, List.take_succ_cons, List.take_zero]
        repeat go_big_quiet_step (fail)
        refine wpQuiet_nil ?_
        refine anyL_done (by kernel_rfl) ?_ 0
        clear g1 g2 hS2 WS HW Hi0 hne i0 W ι
        go_wp2_with fail
        go_ret
        exact ⟨by rw [hF.out]; rfl, HB.out.trans (hBo2.mono HB.out.size)⟩
      · have hF : Hid (meetG (a.drop (k + 1)) (b.drop (k + 1)) = meetG a b) := hid (by rw [← HP2.out, hMe, decide_eq_false hM0]; simp)
        have hM1 : ((M.length : Int) == 0) = false := beq_f (by omega)
        clear hMe
        refine anyL_seg 9 2 (by kernel_rfl) (fun _ _ _ _ _ h => h) hS2 (f := 0) rfl (by kernel_rfl) (by kernel_rfl) ?_
        simp only [List.drop_succ_cons, List.drop_zero, List.take_succ_cons, List.take_zero]
        repeat go_big_quiet_step (fail)
        refine wpQuiet_nil ?_
        refine anyL_done (by kernel_rfl) ?_ 0
        clear g1 g2 hS2 WS HW Hi0 hne i0 W ι
        go_wp2_with fail
        refine ⟨⟨k + 1, by omega, by go_num, hF.out, HB.out.trans (hBo2.mono HB.out.size)⟩, ?_⟩
        simp [intOf]; omega
    · have hF : Hid (true = meetG a b) := hid (by rw [← HP.out]; exact (meetG_end _ _ (by
        rcases Nat.le_total a.length b.length with h | h
        · left; rw [List.drop_eq_nil_of_le]; have := Hm.out; omega
        · right; rw [List.drop_eq_nil_of_le]; have := Hm.out; omega)).symm)
      clear har hbr HP
      go_wp2_with fail
      go_ret
      exact ⟨by rw [← hF.out]; rfl, hB⟩
theorem outerR_cons {i : Nat} {os : List Opt} {o : Opt} (h : os[i]? = some o) : outerR i (os.drop i) = match innerR o (i + 1) (os.drop (i + 1)) with | some k => some ((i : Int), k) | none => outerR (i + 1) (os.drop (i + 1)) := by
  rw [drop_cons h]; rfl
theorem innerR_cons {i : Nat} {os : List Opt} {o p : Opt} (h : os[i]? = some p) : innerR o i (os.drop i) = if clashF o p then some (i : Int) else innerR o (i + 1) (os.drop (i + 1)) := by
  rw [drop_cons h]; rfl
theorem five {W : World} {b : Nat} {x0 x1 x2 x3 x4 : Value} {t : TypeId} (h : W.heap[b]? = some (.cells #[x0, x1, x2, x3, x4] t)) :
    W.cell? ⟨b, 0, none⟩ = some x0 ∧ W.cell? ⟨b, 1, none⟩ = some x1 ∧ W.cell? ⟨b, 2, none⟩ = some x2 ∧ W.cell? ⟨b, 3, none⟩ = some x3 ∧ W.cell? ⟨b, 4, none⟩ = some x4 :=
  ⟨cell_of_row _ _ 0 _ _ _ h, cell_of_row _ _ 1 _ _ _ h, cell_of_row _ _ 2 _ _ _ h, cell_of_row _ _ 3 _ _ _ h, cell_of_row _ _ 4 _ _ _ h⟩
def clashT (d : Desc) : Value := match outerR 0 (optsD d) with
  | some (i, k) => .tuple #[.int .i64 i, .int .i64 k, .bool true]
  | none => .tuple #[.int .i64 0, .int .i64 0, .bool false]
theorem clashT_eq (d : Desc) : clashS (optsD d) = clashT d := by unfold clashS clashT; rw [clash_same]; rfl
theorem optsD_rule {d : Desc} {i : Nat} {r : Rule} (h : d.rules[i]? = some r) : (optsD d)[i]? = some (ruleOpt r) := by
  have := (List.getElem?_eq_some_iff.1 h).1
  unfold optsD
  rw [List.getElem?_append_left (by simpa using this), List.getElem?_map, h]; rfl
theorem optsD_final {d : Desc} {i : Nat} {r : Final} (h : d.finals[i]? = some r) : (optsD d)[d.rules.length + i]? = some (finalOpt r) := by
  unfold optsD
  rw [List.getElem?_append_right (by simp), List.length_map, Nat.add_sub_cancel_left, List.getElem?_map, h]; rfl
theorem optsD_len (d : Desc) : (optsD d).length = d.rules.length + d.finals.length := by unfold optsD; simp
theorem clash_rr (r p : Rule) : clashF (ruleOpt r) (ruleOpt p) = (decide (r.src = p.src) && meetG r.guards p.guards) := by
  unfold clashF ruleOpt
  by_cases h : r.src = p.src <;> simp [h]
theorem clash_rf (r : Rule) (p : Final) : clashF (ruleOpt r) (finalOpt p) = (decide (r.src = p.src) && decide (r.guards.length ≤ p.guards.length) && meetG r.guards p.guards) := by
  unfold clashF ruleOpt finalOpt
  by_cases h : r.src = p.src
  · by_cases h2 : r.guards.length ≤ p.guards.length
    · have : ¬ p.guards.length < r.guards.length := by omega
      simp [h, h2, this]
    · have : p.guards.length < r.guards.length := by omega
      simp [h, h2, this]
  · simp [h]
theorem clash_ff (r p : Final) : clashF (finalOpt r) (finalOpt p) = (decide (r.src = p.src) && decide (r.guards.length = p.guards.length) && meetG r.guards p.guards) := by
  unfold clashF finalOpt
  by_cases h : r.src = p.src
  · by_cases h2 : r.guards.length = p.guards.length <;> simp [h, h2]
  · simp [h]
set_option maxHeartbeats 8000000 in
set_option maxRecDepth 100000 in
theorem RClash_calls (d : Desc) (v u : Value) (w : World) (hv : (listR ruleR).rel w (upto w.heap.size) [v] d.rules) (hu : (listR finalR).rel w (upto w.heap.size) [u] d.finals)
    (hl1 : d.rules.length ≤ 1000000) (hl2 : d.finals.length ≤ 1000000) (hgl : ∀ o ∈ optsD d, ∀ g ∈ o.guards, g.length ≤ 100000) :
    Calls Try.prog 8 #[.agg #[.int .i64 d.inn, .int .i64 d.out, .int .i64 d.states, .int .i64 d.start, v, u]] w fun e w' => e = .returned (clashT d) ∧ Below w.heap.size w w' := by
  obtain ⟨A1, c1, rfl, hc1, hm1⟩ := list_form hv
  obtain ⟨A2, c2, rfl, hc2, hm2⟩ := list_form hu
  unfold maxLen at hm1 hm2
  have HGR : Hid (∀ r ∈ d.rules, ∀ g ∈ r.guards, g.length ≤ 100000) := hid fun r hr => hgl (ruleOpt r) (by unfold optsD; exact List.mem_append.2 (.inl (List.mem_map.2 ⟨r, hr, rfl⟩)))
  have HGF : Hid (∀ r ∈ d.finals, ∀ g ∈ r.guards, g.length ≤ 100000) := hid fun r hr => hgl (finalOpt r) (by unfold optsD; exact List.mem_append.2 (.inr (List.mem_map.2 ⟨r, hr, rfl⟩)))
  clear hgl
  obtain ⟨os, hos⟩ : ∃ os, os = optsD d := ⟨_, rfl⟩
  have HT : Hid (clashT d = match outerR 0 os with | some (i, k) => .tuple #[.int .i64 i, .int .i64 k, .bool true] | none => .tuple #[.int .i64 0, .int .i64 0, .bool false]) := hid (by rw [hos]; rfl)
  have HOR : Hid (∀ i r, d.rules[i]? = some r → os[i]? = some (ruleOpt r)) := hid fun i r h => by rw [hos]; exact optsD_rule h
  have HOF : Hid (∀ i r, d.finals[i]? = some r → os[d.rules.length + i]? = some (finalOpt r)) := hid fun i r h => by rw [hos]; exact optsD_final h
  have HLN : Hid (os.length = d.rules.length + d.finals.length) := hid (by rw [hos]; exact optsD_len d)
  clear hos
  have HMT := hid fun W (hW : Below w.heap.size w W) a b v u n (ha : (listR spansR).rel w (upto w.heap.size) [v] a) (hb : (listR spansR).rel w (upto w.heap.size) [u] b) hla hlb (hn : n = min (a.length : Int) b.length) => Rmeet_calls a b v u n W ((listR spansR).below ha hW hW.size) ((listR spansR).below hb hW hW.size) hla hlb hn
  have hX0 := heap_alloc_new w (.cells #[.int .i64 d.inn, .int .i64 d.out, .int .i64 d.states, .int .i64 d.start, .slice A1 d.rules.length c1, .slice A2 d.finals.length c2] 26)
  have hB0 : Below w.heap.size w (w.alloc (.cells #[.int .i64 d.inn, .int .i64 d.out, .int .i64 d.states, .int .i64 d.start, .slice A1 d.rules.length c1, .slice A2 d.finals.length c2] 26)) := (Below.refl _ w).alloc (Nat.le_refl _) _
  go_enter Try.func8, Try.ntmps8
  go_wp2_with fail
  go_loopw [6] (fun vi wr => ∃ i : Nat, i ≤ d.rules.length ∧ vi = .int .i64 i ∧ outerR i (os.drop i) = outerR 0 os ∧ Below w.heap.size w wr ∧ wr.heap[w.heap.size]? = some (.cells #[.int .i64 d.inn, .int .i64 d.out, .int .i64 d.states, .int .i64 d.start, .slice A1 d.rules.length c1, .slice A2 d.finals.length c2] 26)) (fun vi _ => d.rules.length - (intOf vi).toNat)
  case atStart => exact ⟨0, Nat.zero_le _, rfl, rfl, hB0, hX0⟩
  case round =>
    clear hB0 hX0
    obtain ⟨i, hi, rfl, hout, hB, hX⟩ := hrel
    obtain ⟨wo, hwo⟩ : ∃ wo, wo = wr := ⟨_, rfl⟩
    subst hwo
    have HB := hid hB
    have HX := hid hX
    have HOUT := hid hout
    have hs0 : w.heap.size < wo.heap.size := heap_lt hX
    obtain ⟨p0, p1, p2, p3, p4, p5⟩ := six hX
    by_cases hlt : i < d.rules.length
    · obtain ⟨⟨sx, dx, gx, ex, ox⟩, hx⟩ := at_lt hlt
      have HOI := hid (HOR.out _ _ hx)
      have HGX := hid (HGR.out _ (List.mem_of_getElem? hx))
      obtain ⟨b, o, y, z, rfl, hb, q1, q2, q3, q4, q5, _, hy, hz⟩ := rule_at hv hx
      have HY := hid hy
      obtain ⟨A3, c3, rfl, hc3, hm3⟩ := list_form hy
      obtain ⟨A4, c4, rfl, _, _⟩ := list_form hz
      unfold maxLen at hm3
      replace q1 := (hB.cell (p := ⟨b, o + i * 5, none⟩) hb).trans q1
      replace q2 := (hB.cell (p := ⟨b, o + i * 5 + 1, none⟩) hb).trans q2
      replace q3 := (hB.cell (p := ⟨b, o + i * 5 + 2, none⟩) hb).trans q3
      replace q4 := (hB.cell (p := ⟨b, o + i * 5 + 3, none⟩) hb).trans q4
      replace q5 := (hB.cell (p := ⟨b, o + i * 5 + 4, none⟩) hb).trans q5
      dsimp only at q1 q2 q3 q4 q5
      have hlt' : (i : Int) < d.rules.length := by omega
      have hbs : b < wo.heap.size := Nat.lt_of_lt_of_le hb hB.size
      have hR0 := heap_alloc_new wo (.cells #[.int .i64 sx, .int .i64 dx, .slice A3 gx.length c3, .int .i64 ex, .slice A4 ox.length c4] 42)
      have hBa : Below wo.heap.size wo (wo.alloc (.cells #[.int .i64 sx, .int .i64 dx, .slice A3 gx.length c3, .int .i64 ex, .slice A4 ox.length c4] 42)) := (Below.refl _ wo).alloc (Nat.le_refl _) _
      have HXA := hid ((hBa.block _ hs0).trans hX)
      have HBA := hid (hB.trans (hBa.mono hB.size))
      have HR0 := hid hR0
      have HOC := hid (outerR_cons HOI.out)
      have hszA : (wo.alloc (.cells #[.int .i64 sx, .int .i64 dx, .slice A3 gx.length c3, .int .i64 ex, .slice A4 ox.length c4] 42)).heap.size = wo.heap.size + 1 := by simp
      clear hx hy hz hout hB hX hR0 hBa hb
      go_wp2_with fail
      clear p0 p1 p2 p3 p4 p5 q1 q2 q3 q4 q5
      generalize wo.alloc (.cells #[.int .i64 sx, .int .i64 dx, .slice A3 gx.length c3, .int .i64 ex, .slice A4 ox.length c4] 42) = wa at *
      go_loopw [8] (fun vj wr => ∃ j : Nat, i + 1 ≤ j ∧ j ≤ d.rules.length ∧ vj = .int .i64 j ∧ innerR (ruleOpt ⟨sx, dx, gx, ex, ox⟩) j (os.drop j) = innerR (ruleOpt ⟨sx, dx, gx, ex, ox⟩) (i + 1) (os.drop (i + 1)) ∧ Below w.heap.size w wr ∧ wr.heap[w.heap.size]? = some (.cells #[.int .i64 d.inn, .int .i64 d.out, .int .i64 d.states, .int .i64 d.start, .slice (some ⟨b, o, none⟩) d.rules.length c1, .slice A2 d.finals.length c2] 26) ∧ wr.heap[wo.heap.size]? = some (.cells #[.int .i64 sx, .int .i64 dx, .slice A3 gx.length c3, .int .i64 ex, .slice A4 ox.length c4] 42)) (fun vj _ => d.rules.length - (intOf vj).toNat)
      case atStart => exact ⟨i + 1, Nat.le_refl _, by omega, by push_cast; rfl, rfl, HBA.out, HXA.out, HR0.out⟩
      case round =>
        clear HXA HBA HR0
        obtain ⟨j, hij, hj, rfl, hinn, hB, hX, hR⟩ := hrel
        obtain ⟨w4, hw4⟩ : ∃ w4, w4 = wr := ⟨_, rfl⟩
        subst hw4
        have HB4 := hid hB
        have HX4 := hid hX
        have HR4 := hid hR
        have HINN := hid hinn
        have hs4 : w.heap.size < w4.heap.size := heap_lt hX
        have hs5 : wo.heap.size < w4.heap.size := heap_lt hR
        obtain ⟨p0, p1, p2, p3, p4, p5⟩ := six hX
        obtain ⟨r0, r1, r2, r3, r4⟩ := five hR
        by_cases hlt2 : j < d.rules.length
        · obtain ⟨⟨sy, dy, gy, ey, oy⟩, hx⟩ := at_lt hlt2
          have HOJ := hid (innerR_cons (o := ruleOpt ⟨sx, dx, gx, ex, ox⟩) (HOR.out _ _ hx))
          have HGY := hid (HGR.out _ (List.mem_of_getElem? hx))
          obtain ⟨b', o', y, z, hbo, hb, q1, q2, q3, q4, q5, _, hy, hz⟩ := rule_at hv hx
          cases hbo
          have HZ := hid hy
          obtain ⟨A5, c5, rfl, hc5, hm5⟩ := list_form hy
          obtain ⟨A6, c6, rfl, _, _⟩ := list_form hz
          unfold maxLen at hm5
          replace q1 := (hB.cell (p := ⟨b, o + j * 5, none⟩) hb).trans q1
          replace q2 := (hB.cell (p := ⟨b, o + j * 5 + 1, none⟩) hb).trans q2
          replace q3 := (hB.cell (p := ⟨b, o + j * 5 + 2, none⟩) hb).trans q3
          replace q4 := (hB.cell (p := ⟨b, o + j * 5 + 3, none⟩) hb).trans q4
          replace q5 := (hB.cell (p := ⟨b, o + j * 5 + 4, none⟩) hb).trans q5
          dsimp only at q1 q2 q3 q4 q5
          have hlt2' : (j : Int) < d.rules.length := by omega
          have hbs4 : b < w4.heap.size := Nat.lt_of_lt_of_le hb hB.size
          have hBa : Below w4.heap.size w4 (w4.alloc (.cells #[.int .i64 sy, .int .i64 dy, .slice A5 gy.length c5, .int .i64 ey, .slice A6 oy.length c6] 42)) := (Below.refl _ w4).alloc (Nat.le_refl _) _
          have HXA := hid ((hBa.block _ hs4).trans hX)
          have HRA := hid ((hBa.block _ hs5).trans hR)
          have HBA := hid (hB.trans (hBa.mono hB.size))
          obtain ⟨m, hm⟩ : ∃ m : Nat, m = min gx.length gy.length := ⟨_, rfl⟩
          have HM := hid (HMT.out _ HBA.out gx gy _ _ (m : Int) HY.out HZ.out HGX.out HGY.out (by omega))
          have e1 : min (gx.length : Int) (gy.length : Int) = m := by omega
          have e2 : (if (gy.length : Int) < gx.length then (gy.length : Int) else gx.length) = m := by omega
          have e3 : (if (gx.length : Int) < gy.length then (gx.length : Int) else gy.length) = m := by omega
          clear hx hy hz hinn hB hX hR hBa hb hm
          rw [clash_rr] at HOJ
          dsimp only at HOJ
          by_cases hs : sx = sy
          · have hs' : (sx == sy) = true := beq_t hs
            cases hmg : meetG gx gy
            · have HOJ2 : Hid (innerR (ruleOpt ⟨sx, dx, gx, ex, ox⟩) (j + 1) (os.drop (j + 1)) = innerR (ruleOpt ⟨sx, dx, gx, ex, ox⟩) (i + 1) (os.drop (i + 1))) := hid (by rw [← HINN.out, HOJ.out, hmg]; simp)
              rw [hmg] at HM
              clear hmg hs HOJ
              go_wp2_with fail
              refine HM.out.mono ?_
              rintro e w6 ⟨rfl, hB6⟩
              go_wp2_with fail
              refine ⟨⟨j + 1, by omega, by omega, by push_cast; rfl, HOJ2.out, HBA.out.trans (hB6.mono HBA.out.size), (hB6.block _ (by simp; omega)).trans HXA.out, (hB6.block _ (by simp; omega)).trans HRA.out⟩, ?_⟩
              simp [intOf]; omega
            · have HF : Hid (outerR 0 os = some ((i : Int), (j : Int))) := hid (by
                rw [← HOUT.out, HOC.out, ← HINN.out, HOJ.out, hmg, decide_eq_true hs]; rfl)
              rw [hmg] at HM
              clear hmg hs HOJ
              go_wp2_with fail
              refine HM.out.mono ?_
              rintro e w6 ⟨rfl, hB6⟩
              go_wp2_with fail
              go_ret3
              exact ⟨by rw [HT.out, HF.out]; rfl, HBA.out.trans (hB6.mono HBA.out.size)⟩
          · have hs' : (sx == sy) = false := beq_f hs
            have HOJ2 : Hid (innerR (ruleOpt ⟨sx, dx, gx, ex, ox⟩) (j + 1) (os.drop (j + 1)) = innerR (ruleOpt ⟨sx, dx, gx, ex, ox⟩) (i + 1) (os.drop (i + 1))) := hid (by rw [← HINN.out, HOJ.out, decide_eq_false hs]; rfl)
            clear hs HOJ HM e1 e2 e3
            go_wp2_with fail
            refine ⟨⟨j + 1, by omega, by omega, by push_cast; rfl, HOJ2.out, HBA.out, HXA.out, HRA.out⟩, ?_⟩
            simp [intOf]; omega
        · obtain rfl : j = d.rules.length := by omega
          clear hinn hlt2
          clear hB hX hR
          go_wp2_with fail
          clear p0 p1 p2 p3 p4 p5 r0 r1 r2 r3 r4
          go_loopw [10] (fun vj wr => ∃ j : Nat, j ≤ d.finals.length ∧ vj = .int .i64 j ∧ innerR (ruleOpt ⟨sx, dx, gx, ex, ox⟩) (d.rules.length + j) (os.drop (d.rules.length + j)) = innerR (ruleOpt ⟨sx, dx, gx, ex, ox⟩) (i + 1) (os.drop (i + 1)) ∧ Below w.heap.size w wr ∧ wr.heap[w.heap.size]? = some (.cells #[.int .i64 d.inn, .int .i64 d.out, .int .i64 d.states, .int .i64 d.start, .slice (some ⟨b, o, none⟩) d.rules.length c1, .slice A2 d.finals.length c2] 26) ∧ wr.heap[wo.heap.size]? = some (.cells #[.int .i64 sx, .int .i64 dx, .slice A3 gx.length c3, .int .i64 ex, .slice A4 ox.length c4] 42)) (fun vj _ => d.finals.length - (intOf vj).toNat)
          case atStart => exact ⟨0, Nat.zero_le _, rfl, HINN.out, HB4.out, HX4.out, HR4.out⟩
          case round =>
            clear HB4 HX4 HR4 HINN hs4 hs5
            obtain ⟨j, hj, rfl, hinn, hB, hX, hR⟩ := hrel
            obtain ⟨w4, hw4⟩ : ∃ w4, w4 = wr := ⟨_, rfl⟩
            subst hw4
            have HB4 := hid hB
            have HX4 := hid hX
            have HR4 := hid hR
            have HINN := hid hinn
            have hs4 : w.heap.size < w4.heap.size := heap_lt hX
            have hs5 : wo.heap.size < w4.heap.size := heap_lt hR
            obtain ⟨p0, p1, p2, p3, p4, p5⟩ := six hX
            obtain ⟨r0, r1, r2, r3, r4⟩ := five hR
            by_cases hlt2 : j < d.finals.length
            · obtain ⟨⟨sy, gy, oy⟩, hx⟩ := at_lt hlt2
              have HOJ := hid (innerR_cons (o := ruleOpt ⟨sx, dx, gx, ex, ox⟩) (HOF.out _ _ hx))
              have HGY := hid (HGF.out _ (List.mem_of_getElem? hx))
              obtain ⟨b', o', y, z, rfl, hb, q1, q2, q3, _, hy, hz⟩ := final_at hu hx
              have HZ := hid hy
              obtain ⟨A5, c5, rfl, hc5, hm5⟩ := list_form hy
              obtain ⟨A6, c6, rfl, _, _⟩ := list_form hz
              unfold maxLen at hm5
              replace q1 := (hB.cell (p := ⟨b', o' + j * 3, none⟩) hb).trans q1
              replace q2 := (hB.cell (p := ⟨b', o' + j * 3 + 1, none⟩) hb).trans q2
              replace q3 := (hB.cell (p := ⟨b', o' + j * 3 + 2, none⟩) hb).trans q3
              dsimp only at q1 q2 q3
              have hlt2' : (j : Int) < d.finals.length := by omega
              have hbs4 : b' < w4.heap.size := Nat.lt_of_lt_of_le hb hB.size
              have hBa : Below w4.heap.size w4 (w4.alloc (.cells #[.int .i64 sy, .slice A5 gy.length c5, .slice A6 oy.length c6] 44)) := (Below.refl _ w4).alloc (Nat.le_refl _) _
              have HXA := hid ((hBa.block _ hs4).trans hX)
              have HRA := hid ((hBa.block _ hs5).trans hR)
              have HBA := hid (hB.trans (hBa.mono hB.size))
              have HM0 := hid fun (hle : gx.length ≤ gy.length) => HMT.out _ HBA.out gx gy _ _ (gx.length : Int) HY.out HZ.out HGX.out HGY.out (by omega)
              clear hx hy hz hinn hB hX hR hBa hb
              rw [clash_rf] at HOJ
              dsimp only at HOJ
              have SKIP : Hid ((decide (sx = sy) && decide (gx.length ≤ gy.length) && meetG gx gy) = false → innerR (ruleOpt ⟨sx, dx, gx, ex, ox⟩) (d.rules.length + (j + 1)) (os.drop (d.rules.length + (j + 1))) = innerR (ruleOpt ⟨sx, dx, gx, ex, ox⟩) (i + 1) (os.drop (i + 1))) := hid fun h => by rw [← HINN.out, HOJ.out, h]; rfl
              by_cases hs : sx = sy
              · have hs' : (sx == sy) = true := beq_t hs
                by_cases hle : gx.length ≤ gy.length
                · have hle' : (gx.length : Int) ≤ gy.length := by omega
                  have HM := hid (HM0.out hle)
                  cases hmg : meetG gx gy
                  · have HS := hid (SKIP.out (by rw [hmg]; simp))
                    rw [hmg] at HM
                    clear hmg hs HOJ HM0 SKIP hle
                    go_wp2_with fail
                    refine HM.out.mono ?_
                    rintro e w6 ⟨rfl, hB6⟩
                    go_wp2_with fail
                    refine ⟨⟨j + 1, by omega, by push_cast; rfl, HS.out, HBA.out.trans (hB6.mono HBA.out.size), (hB6.block _ (by simp; omega)).trans HXA.out, (hB6.block _ (by simp; omega)).trans HRA.out⟩, ?_⟩
                    simp [intOf]; omega
                  · have HF : Hid (outerR 0 os = some ((i : Int), ((d.rules.length : Int) + (j : Int)))) := hid (by
                      rw [← HOUT.out, HOC.out, ← HINN.out, HOJ.out, hmg, decide_eq_true hs, decide_eq_true hle]; simp)
                    rw [hmg] at HM
                    clear hmg hs HOJ HM0 SKIP hle
                    go_wp2_with fail
                    refine HM.out.mono ?_
                    rintro e w6 ⟨rfl, hB6⟩
                    go_wp2_with fail
                    go_ret3
                    exact ⟨by rw [HT.out, HF.out]; rfl, HBA.out.trans (hB6.mono HBA.out.size)⟩
                · have hle' : ¬ (gx.length : Int) ≤ gy.length := by omega
                  have HS := hid (SKIP.out (by rw [decide_eq_false hle]; simp))
                  clear hs HOJ HM0 SKIP hle
                  go_wp2_with fail
                  refine ⟨⟨j + 1, by omega, by push_cast; rfl, HS.out, HBA.out, HXA.out, HRA.out⟩, ?_⟩
                  simp [intOf]; omega
              · have hs' : (sx == sy) = false := beq_f hs
                have HS := hid (SKIP.out (by rw [decide_eq_false hs]; rfl))
                clear hs HOJ HM0 SKIP
                go_wp2_with fail
                refine ⟨⟨j + 1, by omega, by push_cast; rfl, HS.out, HBA.out, HXA.out, HRA.out⟩, ?_⟩
                simp [intOf]; omega
            · obtain rfl : j = d.finals.length := by omega
              have HNX : Hid (outerR (i + 1) (os.drop (i + 1)) = outerR 0 os) := hid (by
                rw [← HOUT.out, HOC.out, ← hinn, show os.drop (d.rules.length + d.finals.length) = [] from List.drop_eq_nil_of_le (Nat.le_of_eq HLN.out)]; rfl)
              clear hinn hlt2 hB hX hR
              go_wp2_with fail
              refine ⟨⟨i + 1, by omega, by push_cast; rfl, HNX.out, HB4.out, HX4.out⟩, ?_⟩
              simp [intOf]; omega
    · obtain rfl : i = d.rules.length := by omega
      clear hout hlt hB hX
      go_wp2_with fail
      clear p0 p1 p2 p3 p4 p5
      go_loopw [12] (fun vi wr => ∃ i : Nat, i ≤ d.finals.length ∧ vi = .int .i64 i ∧ outerR (d.rules.length + i) (os.drop (d.rules.length + i)) = outerR 0 os ∧ Below w.heap.size w wr ∧ wr.heap[w.heap.size]? = some (.cells #[.int .i64 d.inn, .int .i64 d.out, .int .i64 d.states, .int .i64 d.start, .slice A1 d.rules.length c1, .slice A2 d.finals.length c2] 26)) (fun vi _ => d.finals.length - (intOf vi).toNat)
      case atStart => exact ⟨0, Nat.zero_le _, rfl, HOUT.out, HB.out, HX.out⟩
      case round =>
        clear HB HX HOUT hs0
        obtain ⟨i, hi, rfl, hout, hB, hX⟩ := hrel
        obtain ⟨wo, hwo⟩ : ∃ wo, wo = wr := ⟨_, rfl⟩
        subst hwo
        have HB := hid hB
        have HX := hid hX
        have HOUT := hid hout
        have hs0 : w.heap.size < wo.heap.size := heap_lt hX
        obtain ⟨p0, p1, p2, p3, p4, p5⟩ := six hX
        by_cases hlt : i < d.finals.length
        · obtain ⟨⟨sx, gx, ox⟩, hx⟩ := at_lt hlt
          have HXI := hid hx
          have HOI := hid (HOF.out _ _ hx)
          have HGX := hid (HGF.out _ (List.mem_of_getElem? hx))
          have HOC := hid (outerR_cons HOI.out)
          have hlt' : (i : Int) < d.finals.length := by omega
          clear hx hout hB hX
          go_wp2_with fail
          clear p0 p1 p2 p3 p4 p5
          go_loopw [13] (fun vj wr => ∃ j : Nat, i + 1 ≤ j ∧ j ≤ d.finals.length ∧ vj = .int .i64 j ∧ innerR (finalOpt ⟨sx, gx, ox⟩) (d.rules.length + j) (os.drop (d.rules.length + j)) = innerR (finalOpt ⟨sx, gx, ox⟩) (d.rules.length + i + 1) (os.drop (d.rules.length + i + 1)) ∧ Below w.heap.size w wr ∧ wr.heap[w.heap.size]? = some (.cells #[.int .i64 d.inn, .int .i64 d.out, .int .i64 d.states, .int .i64 d.start, .slice A1 d.rules.length c1, .slice A2 d.finals.length c2] 26)) (fun vj _ => d.finals.length - (intOf vj).toNat)
          case atStart => exact ⟨i + 1, Nat.le_refl _, by omega, by push_cast; rfl, rfl, HB.out, HX.out⟩
          case round =>
            clear HB HX hs0
            obtain ⟨j, hij, hj, rfl, hinn, hB, hX⟩ := hrel
            obtain ⟨w4, hw4⟩ : ∃ w4, w4 = wr := ⟨_, rfl⟩
            subst hw4
            have HB := hid hB
            have HX := hid hX
            have HINN := hid hinn
            have hs0 : w.heap.size < w4.heap.size := heap_lt hX
            obtain ⟨p0, p1, p2, p3, p4, p5⟩ := six hX
            by_cases hlt2 : j < d.finals.length
            · obtain ⟨⟨sy, gy, oy⟩, hx⟩ := at_lt hlt2
              have HOJ := hid (innerR_cons (o := finalOpt ⟨sx, gx, ox⟩) (HOF.out _ _ hx))
              have HGY := hid (HGF.out _ (List.mem_of_getElem? hx))
              obtain ⟨b, o, y1, z1, rfl, hb, q1, q2, q3, _, hy1, hz1⟩ := final_at hu HXI.out
              obtain ⟨b', o', y, z, hbo, _, t1, t2, t3, _, hy, hz⟩ := final_at hu hx
              cases hbo
              have HY := hid hy1
              have HZ := hid hy
              obtain ⟨A3, c3, rfl, hc3, hm3⟩ := list_form hy1
              obtain ⟨A4, c4, rfl, _, _⟩ := list_form hz1
              obtain ⟨A5, c5, rfl, hc5, hm5⟩ := list_form hy
              obtain ⟨A6, c6, rfl, _, _⟩ := list_form hz
              unfold maxLen at hm3 hm5
              dsimp only at q1 q2 q3 t1 t2 t3
              have hlt2' : (j : Int) < d.finals.length := by omega
              have hbs : b < w4.heap.size := Nat.lt_of_lt_of_le hb hB.size
              replace q1 := (hB.cell (p := ⟨b, o + i * 3, none⟩) hb).trans q1
              replace q2 := (hB.cell (p := ⟨b, o + i * 3 + 1, none⟩) hb).trans q2
              replace q3 := (hB.cell (p := ⟨b, o + i * 3 + 2, none⟩) hb).trans q3
              replace t1 := (hB.cell (p := ⟨b, o + j * 3, none⟩) hb).trans t1
              replace t2 := (hB.cell (p := ⟨b, o + j * 3 + 1, none⟩) hb).trans t2
              replace t3 := (hB.cell (p := ⟨b, o + j * 3 + 2, none⟩) hb).trans t3
              clear hx hy1 hz1 hy hz hinn hB hX hb
              rw [clash_ff] at HOJ
              dsimp only at HOJ
              go_wp2_with fail
              obtain ⟨ι, W, ⟨i0, hi0⟩, hW, Wsur⟩ := ext_class w4.drew
              have hne : Nonempty ι := ⟨i0⟩
              have u0 : ∀ k, (W k).cell? ⟨w.heap.size, 5, none⟩ = some _ := fun k => ((hW k).cell (p := ⟨w.heap.size, 5, none⟩) hs0).trans p5
              have u1 : ∀ k, (W k).cell? ⟨b, o + i * 3, none⟩ = some _ := fun k => ((hW k).cell (p := ⟨b, o + i * 3, none⟩) hbs).trans q1
              have u2 : ∀ k, (W k).cell? ⟨b, o + i * 3 + 1, none⟩ = some _ := fun k => ((hW k).cell (p := ⟨b, o + i * 3 + 1, none⟩) hbs).trans q2
              have u3 : ∀ k, (W k).cell? ⟨b, o + i * 3 + 2, none⟩ = some _ := fun k => ((hW k).cell (p := ⟨b, o + i * 3 + 2, none⟩) hbs).trans q3
              have u4 : ∀ k, (W k).cell? ⟨b, o + j * 3, none⟩ = some _ := fun k => ((hW k).cell (p := ⟨b, o + j * 3, none⟩) hbs).trans t1
              have u5 : ∀ k, (W k).cell? ⟨b, o + j * 3 + 1, none⟩ = some _ := fun k => ((hW k).cell (p := ⟨b, o + j * 3 + 1, none⟩) hbs).trans t2
              have u6 : ∀ k, (W k).cell? ⟨b, o + j * 3 + 2, none⟩ = some _ := fun k => ((hW k).cell (p := ⟨b, o + j * 3 + 2, none⟩) hbs).trans t3
              have WS := hid Wsur; clear Wsur
              have HW := hid hW; clear hW
              have Hi0 := hid hi0; clear hi0
              refine region_anyL (S := fun w' => ∃ i, w' = W i) (last := 14) (by kernel_rfl) ?_
              refine anyL_seg 0 10 (by kernel_rfl) (fun _ _ _ _ _ h => h) ⟨i0, Hi0.out.symm⟩ (f := 4) rfl (by kernel_rfl) (by kernel_rfl) ?_
              simp only [List.drop_zero, List.take_succ_cons, List.take_zero]
              repeat go_big_quiet_step (fail)
              refine wpQuiet_nil ?_
              refine anyL_two (i := 10) (j := 11) (by kernel_rfl) rfl rfl rfl rfl ?_ ?_
              · intro K hK
                go_wp2_with fail
                have hS1 := WS.out i0 ((w4.alloc (.cells #[.int .i64 0, .slice none 0 0, .slice none 0 0] 44)).drew) (by
                  rw [Hi0.out]
                  have h := (((Below.refl w4.heap.size w4).alloc (Nat.le_refl _) (.cells #[.int .i64 0, .slice none 0 0, .slice none 0 0] 44)))
                  exact ⟨h.os, h.tape, h.output, h.size, h.block⟩)
                refine hK.out _ _ (fun _ => hS1) ?_
                clear hK K
                refine anyL_act (i := 11) (by kernel_rfl) rfl rfl ?_
                intro K hK
                go_wp2_with fail
                have hS2 := WS.out i0 (((w4.alloc (.cells #[.int .i64 0, .slice none 0 0, .slice none 0 0] 44)).alloc (.cells #[.int .i64 0, .slice none 0 0, .slice none 0 0] 44)).drew) (by
                  rw [Hi0.out]
                  have h := (((Below.refl w4.heap.size w4).alloc (Nat.le_refl _) (.cells #[.int .i64 0, .slice none 0 0, .slice none 0 0] 44)).alloc (by simp) (.cells #[.int .i64 0, .slice none 0 0, .slice none 0 0] 44))
                  exact ⟨h.os, h.tape, h.output, h.size, h.block⟩)
                refine hK.out _ _ (fun _ => hS2) ?_
                clear hK K
                refine anyL_act (i := 12) (by kernel_rfl) rfl rfl ?_
                intro K hK
                go_wp2_with fail
                have hS3 := WS.out i0 (((w4.alloc (.cells #[.int .i64 sx, .slice A3 gx.length c3, .slice A4 ox.length c4] 44)).alloc (.cells #[.int .i64 0, .slice none 0 0, .slice none 0 0] 44)).drew) (by
                  rw [Hi0.out]
                  have h := (((Below.refl w4.heap.size w4).alloc (Nat.le_refl _) (.cells #[.int .i64 sx, .slice A3 gx.length c3, .slice A4 ox.length c4] 44)).alloc (by simp) (.cells #[.int .i64 0, .slice none 0 0, .slice none 0 0] 44))
                  exact ⟨h.os, h.tape, h.output, h.size, h.block⟩)
                refine hK.out _ _ (fun _ => hS3) ?_
                clear hK K
                refine anyL_act (i := 13) (by kernel_rfl) rfl rfl ?_
                intro K hK
                go_wp2_with fail
                have hS4 := WS.out i0 (((w4.alloc (.cells #[.int .i64 sx, .slice A3 gx.length c3, .slice A4 ox.length c4] 44)).alloc (.cells #[.int .i64 sy, .slice A5 gy.length c5, .slice A6 oy.length c6] 44)).drew) (by
                  rw [Hi0.out]
                  have h := (((Below.refl w4.heap.size w4).alloc (Nat.le_refl _) (.cells #[.int .i64 sx, .slice A3 gx.length c3, .slice A4 ox.length c4] 44)).alloc (by simp) (.cells #[.int .i64 sy, .slice A5 gy.length c5, .slice A6 oy.length c6] 44))
                  exact ⟨h.os, h.tape, h.output, h.size, h.block⟩)
                refine hK.out _ _ (fun _ => hS4) ?_
                clear hK K
                refine anyL_done (by kernel_rfl) ?_ _
                clear u0 u1 u2 u3 u4 u5 u6 hS1 hS2 hS3 hS4 WS HW Hi0 hne i0 W ι p0 p1 p2 p3 p4 p5 q1 q2 q3 t1 t2 t3
                have hBa : Below w4.heap.size w4 ((w4.alloc (.cells #[.int .i64 sx, .slice A3 gx.length c3, .slice A4 ox.length c4] 44)).alloc (.cells #[.int .i64 sy, .slice A5 gy.length c5, .slice A6 oy.length c6] 44)).drew := by
                  have h := (((Below.refl w4.heap.size w4).alloc (Nat.le_refl _) (.cells #[.int .i64 sx, .slice A3 gx.length c3, .slice A4 ox.length c4] 44)).alloc (by simp) (.cells #[.int .i64 sy, .slice A5 gy.length c5, .slice A6 oy.length c6] 44))
                  exact ⟨h.os, h.tape, h.output, h.size, h.block⟩
                have h0 : ((w4.alloc (.cells #[.int .i64 sx, .slice A3 gx.length c3, .slice A4 ox.length c4] 44)).alloc (.cells #[.int .i64 sy, .slice A5 gy.length c5, .slice A6 oy.length c6] 44)).drew.heap[w4.heap.size]? = some (.cells #[.int .i64 sx, .slice A3 gx.length c3, .slice A4 ox.length c4] 44) := (Below.heap_alloc _ _ _ (by simp)).trans (heap_alloc_new w4 _)
                have h1 : ((w4.alloc (.cells #[.int .i64 sx, .slice A3 gx.length c3, .slice A4 ox.length c4] 44)).alloc (.cells #[.int .i64 sy, .slice A5 gy.length c5, .slice A6 oy.length c6] 44)).drew.heap[w4.heap.size + 1]? = some (.cells #[.int .i64 sy, .slice A5 gy.length c5, .slice A6 oy.length c6] 44) := heap_two w4 _ _
                have hsz : ((w4.alloc (.cells #[.int .i64 sx, .slice A3 gx.length c3, .slice A4 ox.length c4] 44)).alloc (.cells #[.int .i64 sy, .slice A5 gy.length c5, .slice A6 oy.length c6] 44)).drew.heap.size = w4.heap.size + 2 := by simp
                generalize ((w4.alloc (.cells #[.int .i64 sx, .slice A3 gx.length c3, .slice A4 ox.length c4] 44)).alloc (.cells #[.int .i64 sy, .slice A5 gy.length c5, .slice A6 oy.length c6] 44)).drew = wa at *
                have HXA := hid ((hBa.block _ hs0).trans HX.out)
                have HBA := hid (HB.out.trans (hBa.mono HB.out.size))
                obtain ⟨x0, x1, x2⟩ := three h0
                obtain ⟨y0, y1, y2⟩ := three h1
                clear hBa h0 h1
                have SKIP : Hid ((decide (sx = sy) && decide (gx.length = gy.length) && meetG gx gy) = false → innerR (finalOpt ⟨sx, gx, ox⟩) (d.rules.length + (j + 1)) (os.drop (d.rules.length + (j + 1))) = innerR (finalOpt ⟨sx, gx, ox⟩) (d.rules.length + i + 1) (os.drop (d.rules.length + i + 1))) := hid fun h => by rw [← HINN.out, HOJ.out, h]; rfl
                by_cases hs : sx = sy
                · have hs' : (sx == sy) = true := beq_t hs
                  by_cases hle : gx.length = gy.length
                  · have hle' : ((gx.length : Int) == gy.length) = true := beq_t (by omega)
                    have HM := hid (HMT.out _ HBA.out gx gy _ _ (gx.length : Int) HY.out HZ.out HGX.out HGY.out (by omega))
                    cases hmg : meetG gx gy
                    · have HS := hid (SKIP.out (by rw [hmg]; simp))
                      rw [hmg] at HM
                      clear hmg hs HOJ SKIP hle
                      go_wp2_with fail
                      refine HM.out.mono ?_
                      rintro e w6 ⟨rfl, hB6⟩
                      go_wp2_with fail
                      refine ⟨⟨j + 1, by omega, by omega, by push_cast; rfl, HS.out, HBA.out.trans (hB6.mono HBA.out.size), (hB6.block _ (by omega)).trans HXA.out⟩, ?_⟩
                      simp [intOf]; omega
                    · have HF : Hid (outerR 0 os = some (((d.rules.length : Int) + (i : Int)), ((d.rules.length : Int) + (j : Int)))) := hid (by
                        rw [← HOUT.out, HOC.out, ← HINN.out, HOJ.out, hmg, decide_eq_true hs, decide_eq_true hle]; simp)
                      rw [hmg] at HM
                      clear hmg hs HOJ SKIP hle
                      go_wp2_with fail
                      refine HM.out.mono ?_
                      rintro e w6 ⟨rfl, hB6⟩
                      go_wp2_with fail
                      go_ret3
                      exact ⟨by rw [HT.out, HF.out]; rfl, HBA.out.trans (hB6.mono HBA.out.size)⟩
                  · have hle' : ((gx.length : Int) == gy.length) = false := beq_f (by omega)
                    have HS := hid (SKIP.out (by rw [decide_eq_false hle]; simp))
                    clear hs HOJ SKIP hle
                    go_wp2_with fail
                    refine ⟨⟨j + 1, by omega, by omega, by push_cast; rfl, HS.out, HBA.out, HXA.out⟩, ?_⟩
                    simp [intOf]; omega
                · have hs' : (sx == sy) = false := beq_f hs
                  have HS := hid (SKIP.out (by rw [decide_eq_false hs]; rfl))
                  clear hs HOJ SKIP
                  go_wp2_with fail
                  refine ⟨⟨j + 1, by omega, by omega, by push_cast; rfl, HS.out, HBA.out, HXA.out⟩, ?_⟩
                  simp [intOf]; omega
              · intro K hK
                go_wp2_with fail
                have hS1 := WS.out i0 ((w4.alloc (.cells #[.int .i64 0, .slice none 0 0, .slice none 0 0] 44)).drew) (by
                  rw [Hi0.out]
                  have h := (((Below.refl w4.heap.size w4).alloc (Nat.le_refl _) (.cells #[.int .i64 0, .slice none 0 0, .slice none 0 0] 44)))
                  exact ⟨h.os, h.tape, h.output, h.size, h.block⟩)
                refine hK.out _ _ (fun _ => hS1) ?_
                clear hK K
                refine anyL_act (i := 10) (by kernel_rfl) rfl rfl ?_
                intro K hK
                go_wp2_with fail
                have hS2 := WS.out i0 (((w4.alloc (.cells #[.int .i64 0, .slice none 0 0, .slice none 0 0] 44)).alloc (.cells #[.int .i64 0, .slice none 0 0, .slice none 0 0] 44)).drew) (by
                  rw [Hi0.out]
                  have h := (((Below.refl w4.heap.size w4).alloc (Nat.le_refl _) (.cells #[.int .i64 0, .slice none 0 0, .slice none 0 0] 44)).alloc (by simp) (.cells #[.int .i64 0, .slice none 0 0, .slice none 0 0] 44))
                  exact ⟨h.os, h.tape, h.output, h.size, h.block⟩)
                refine hK.out _ _ (fun _ => hS2) ?_
                clear hK K
                refine anyL_act (i := 12) (by kernel_rfl) rfl rfl ?_
                intro K hK
                go_wp2_with fail
                have hS3 := WS.out i0 (((w4.alloc (.cells #[.int .i64 0, .slice none 0 0, .slice none 0 0] 44)).alloc (.cells #[.int .i64 sx, .slice A3 gx.length c3, .slice A4 ox.length c4] 44)).drew) (by
                  rw [Hi0.out]
                  have h := (((Below.refl w4.heap.size w4).alloc (Nat.le_refl _) (.cells #[.int .i64 0, .slice none 0 0, .slice none 0 0] 44)).alloc (by simp) (.cells #[.int .i64 sx, .slice A3 gx.length c3, .slice A4 ox.length c4] 44))
                  exact ⟨h.os, h.tape, h.output, h.size, h.block⟩)
                refine hK.out _ _ (fun _ => hS3) ?_
                clear hK K
                refine anyL_act (i := 13) (by kernel_rfl) rfl rfl ?_
                intro K hK
                go_wp2_with fail
                have hS4 := WS.out i0 (((w4.alloc (.cells #[.int .i64 sy, .slice A5 gy.length c5, .slice A6 oy.length c6] 44)).alloc (.cells #[.int .i64 sx, .slice A3 gx.length c3, .slice A4 ox.length c4] 44)).drew) (by
                  rw [Hi0.out]
                  have h := (((Below.refl w4.heap.size w4).alloc (Nat.le_refl _) (.cells #[.int .i64 sy, .slice A5 gy.length c5, .slice A6 oy.length c6] 44)).alloc (by simp) (.cells #[.int .i64 sx, .slice A3 gx.length c3, .slice A4 ox.length c4] 44))
                  exact ⟨h.os, h.tape, h.output, h.size, h.block⟩)
                refine hK.out _ _ (fun _ => hS4) ?_
                clear hK K
                refine anyL_done (by kernel_rfl) ?_ _
                clear u0 u1 u2 u3 u4 u5 u6 hS1 hS2 hS3 hS4 WS HW Hi0 hne i0 W ι p0 p1 p2 p3 p4 p5 q1 q2 q3 t1 t2 t3
                have hBa : Below w4.heap.size w4 ((w4.alloc (.cells #[.int .i64 sy, .slice A5 gy.length c5, .slice A6 oy.length c6] 44)).alloc (.cells #[.int .i64 sx, .slice A3 gx.length c3, .slice A4 ox.length c4] 44)).drew := by
                  have h := (((Below.refl w4.heap.size w4).alloc (Nat.le_refl _) (.cells #[.int .i64 sy, .slice A5 gy.length c5, .slice A6 oy.length c6] 44)).alloc (by simp) (.cells #[.int .i64 sx, .slice A3 gx.length c3, .slice A4 ox.length c4] 44))
                  exact ⟨h.os, h.tape, h.output, h.size, h.block⟩
                have h0 : ((w4.alloc (.cells #[.int .i64 sy, .slice A5 gy.length c5, .slice A6 oy.length c6] 44)).alloc (.cells #[.int .i64 sx, .slice A3 gx.length c3, .slice A4 ox.length c4] 44)).drew.heap[w4.heap.size]? = some (.cells #[.int .i64 sy, .slice A5 gy.length c5, .slice A6 oy.length c6] 44) := (Below.heap_alloc _ _ _ (by simp)).trans (heap_alloc_new w4 _)
                have h1 : ((w4.alloc (.cells #[.int .i64 sy, .slice A5 gy.length c5, .slice A6 oy.length c6] 44)).alloc (.cells #[.int .i64 sx, .slice A3 gx.length c3, .slice A4 ox.length c4] 44)).drew.heap[w4.heap.size + 1]? = some (.cells #[.int .i64 sx, .slice A3 gx.length c3, .slice A4 ox.length c4] 44) := heap_two w4 _ _
                have hsz : ((w4.alloc (.cells #[.int .i64 sy, .slice A5 gy.length c5, .slice A6 oy.length c6] 44)).alloc (.cells #[.int .i64 sx, .slice A3 gx.length c3, .slice A4 ox.length c4] 44)).drew.heap.size = w4.heap.size + 2 := by simp
                generalize ((w4.alloc (.cells #[.int .i64 sy, .slice A5 gy.length c5, .slice A6 oy.length c6] 44)).alloc (.cells #[.int .i64 sx, .slice A3 gx.length c3, .slice A4 ox.length c4] 44)).drew = wa at *
                have HXA := hid ((hBa.block _ hs0).trans HX.out)
                have HBA := hid (HB.out.trans (hBa.mono HB.out.size))
                obtain ⟨x0, x1, x2⟩ := three h0
                obtain ⟨y0, y1, y2⟩ := three h1
                clear hBa h0 h1
                have SKIP : Hid ((decide (sx = sy) && decide (gx.length = gy.length) && meetG gx gy) = false → innerR (finalOpt ⟨sx, gx, ox⟩) (d.rules.length + (j + 1)) (os.drop (d.rules.length + (j + 1))) = innerR (finalOpt ⟨sx, gx, ox⟩) (d.rules.length + i + 1) (os.drop (d.rules.length + i + 1))) := hid fun h => by rw [← HINN.out, HOJ.out, h]; rfl
                by_cases hs : sx = sy
                · have hs' : (sx == sy) = true := beq_t hs
                  by_cases hle : gx.length = gy.length
                  · have hle' : ((gx.length : Int) == gy.length) = true := beq_t (by omega)
                    have HM := hid (HMT.out _ HBA.out gx gy _ _ (gx.length : Int) HY.out HZ.out HGX.out HGY.out (by omega))
                    cases hmg : meetG gx gy
                    · have HS := hid (SKIP.out (by rw [hmg]; simp))
                      rw [hmg] at HM
                      clear hmg hs HOJ SKIP hle
                      go_wp2_with fail
                      refine HM.out.mono ?_
                      rintro e w6 ⟨rfl, hB6⟩
                      go_wp2_with fail
                      refine ⟨⟨j + 1, by omega, by omega, by push_cast; rfl, HS.out, HBA.out.trans (hB6.mono HBA.out.size), (hB6.block _ (by omega)).trans HXA.out⟩, ?_⟩
                      simp [intOf]; omega
                    · have HF : Hid (outerR 0 os = some (((d.rules.length : Int) + (i : Int)), ((d.rules.length : Int) + (j : Int)))) := hid (by
                        rw [← HOUT.out, HOC.out, ← HINN.out, HOJ.out, hmg, decide_eq_true hs, decide_eq_true hle]; simp)
                      rw [hmg] at HM
                      clear hmg hs HOJ SKIP hle
                      go_wp2_with fail
                      refine HM.out.mono ?_
                      rintro e w6 ⟨rfl, hB6⟩
                      go_wp2_with fail
                      go_ret3
                      exact ⟨by rw [HT.out, HF.out]; rfl, HBA.out.trans (hB6.mono HBA.out.size)⟩
                  · have hle' : ((gx.length : Int) == gy.length) = false := beq_f (by omega)
                    have HS := hid (SKIP.out (by rw [decide_eq_false hle]; simp))
                    clear hs HOJ SKIP hle
                    go_wp2_with fail
                    refine ⟨⟨j + 1, by omega, by omega, by push_cast; rfl, HS.out, HBA.out, HXA.out⟩, ?_⟩
                    simp [intOf]; omega
                · have hs' : (sx == sy) = false := beq_f hs
                  have HS := hid (SKIP.out (by rw [decide_eq_false hs]; rfl))
                  clear hs HOJ SKIP
                  go_wp2_with fail
                  refine ⟨⟨j + 1, by omega, by omega, by push_cast; rfl, HS.out, HBA.out, HXA.out⟩, ?_⟩
                  simp [intOf]; omega

            · obtain rfl : j = d.finals.length := by omega
              have HNX : Hid (outerR (d.rules.length + (i + 1)) (os.drop (d.rules.length + (i + 1))) = outerR 0 os) := hid (by
                rw [← HOUT.out, HOC.out, ← hinn, show os.drop (d.rules.length + d.finals.length) = [] from List.drop_eq_nil_of_le (Nat.le_of_eq HLN.out)]; rfl)
              clear hinn hlt2 hB hX
              go_wp2_with fail
              refine ⟨⟨i + 1, by omega, by push_cast; rfl, HNX.out, HB.out, HX.out⟩, ?_⟩
              simp [intOf]; omega
        · obtain rfl : i = d.finals.length := by omega
          have HF : Hid (outerR 0 os = none) := hid (by rw [← hout, List.drop_eq_nil_of_le (by rw [HLN.out]; omega)]; rfl)
          clear hout hlt hB hX
          go_wp2_with fail
          go_ret3
          exact ⟨by rw [HT.out, HF.out]; rfl, HB.out⟩
end Go.Proofs.Ytflllgbjlfpgcaa
