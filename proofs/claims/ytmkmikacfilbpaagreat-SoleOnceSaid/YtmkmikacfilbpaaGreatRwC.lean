/-
  Words copied and put together: slices.Clone, slices.Grow, slices.Concat at runes.
-/
import Derived.Test.YtmkmikacfilbpaaGreatRwB
import Derived.Test.YtmkmikacfilbpaaGreatKOwn
import Derived.Test.YtmkmikacfilbpaaGreatOwnC
import Derived.Lib.BufferMore
import Derived.Lib.AppendZerosOnto
import Derived.Lib.SliceRun
import Derived.Lib.Walk
import Derived.Laws.AppendOwnNone
namespace Go.Um
open Go.RowKit
def encW (l : List Int) : List Value := l.map (Value.int .i32)
theorem encW_len (l : List Int) : (encW l).length = l.length := List.length_map _
theorem encW_one {l : List Int} : ∀ u ∈ encW l, u.oneCell' = true := fun u hu => by
  obtain ⟨x, _, rfl⟩ := List.mem_map.1 hu
  rfl
theorem encW_flat (l : List Int) : encW l = l.flatMap fun x => [Value.int .i32 x] := by
  unfold encW
  induction l with
  | nil => rfl
  | cons x l ih => rw [List.map_cons, ih]; rfl
theorem encW_append (a b : List Int) : encW (a ++ b) = encW a ++ encW b := List.map_append
/-- a row of runes that a call has made. -/
def OwnW (e : TypeId) (w : World) (base : Nat) (v : Value) (l : List Int) : Prop := w.ownsRow base e 1 v l.length (encW l) ∧ ∀ x ∈ l, I32 x
/-- a word; nothing is the nil slice. -/
def nwordR : RepOf (List Int) where
  width := 1
  rel := fun w S cs l => wordR.rel w S cs l ∧ ∀ n c, cs = [.slice none n c] → c = 0
  len := fun h => wordR.len h.1
  mono := fun h1 h2 h => ⟨wordR.mono h1 h2 h.1, h.2⟩
section
variable {e : TypeId} {w w' : World} {base : Nat} {v : Value} {l : List Int} {S : Nat → Prop}
theorem OwnW.rel (h : OwnW e w base v l) (hS : ∀ g, v.ownBlock = some g → S g) : nwordR.rel w S [v] l := by
  refine ⟨own_list (r := runeR) (enc := fun x => [Value.int .i32 x]) (by rw [← encW_flat]; exact h.1) hS (fun x hx => ⟨rfl, rfl, h.2 x hx⟩), fun n c hc => ?_⟩
  injection hc with hc _
  rcases h.1.2 with ⟨h1, _⟩ | ⟨g, cap, cur, h1, _⟩
  · rw [h1] at hc; injection hc with _ _ hc; exact hc.symm
  · rw [h1] at hc; injection hc with hc; cases hc
theorem OwnW.fresh {b : Nat} (h : OwnW e w base v l) (hb : b ≤ base) : nwordR.rel w (Fresh b w) [v] l := h.rel fun g hg => ⟨Nat.le_trans hb (h.1.lt g hg).1, (h.1.lt g hg).2⟩
theorem OwnW.nil : OwnW e w base (.slice none 0 0) [] := ⟨World.ownsRow_nil _ _ _ _, fun x hx => by cases hx⟩
theorem word_news {ad : Addr} {n c : Nat} (h : wordR.rel w S [.slice (some ad) n c] l) (j : Nat) (u : Value) (hu : (encW l)[j]? = some u) : S ad.block ∧ w.cell? (ad.add j) = some u := by
  unfold encW at hu
  rw [List.getElem?_map] at hu
  obtain ⟨x, hx, rfl⟩ := Option.map_eq_some_iff.1 hu
  obtain ⟨b, o, hA, hb, hc, _⟩ := rune_at h hx
  injection hA with hA
  subst hA
  refine ⟨hb, ?_⟩
  have ha : (⟨b, o, none⟩ : Addr).add j = ⟨b, o + j, none⟩ := by unfold Addr.add; split <;> simp_all
  rw [ha]
  exact hc
theorem word_i32 (h : wordR.rel w S [v] l) : ∀ x ∈ l, I32 x := fun x hx => by
  obtain ⟨i, hi⟩ := List.mem_iff_getElem?.1 hx
  obtain ⟨A, c, rfl, _, _⟩ := list_form h
  obtain ⟨_, _, _, _, _, h4⟩ := rune_at h hi
  exact h4
theorem word_none {n c : Nat} (h : wordR.rel w S [.slice none n c] l) : l = [] := by
  cases l with
  | nil => rfl
  | cons x l =>
    obtain ⟨_, _, hA, _⟩ := rune_at h (i := 0) (x := x) rfl
    cases hA
end
theorem wpList_append_word {P : Program} {w : World} {ops : Array Oper} {rest : List Oper} {o : Oper} {a : Act} {Q : Exit → Act → World → Prop} (hgd : o.guard = none) (s x : Operand) (t : TypeId)
    (ho : o.op = .call { callee := .builtin .append, args := #[s, x], argTypes := #[t, t] }) (base : Nat) (e : TypeId) (i : TypeInfo) (z : Value) (ht : P.underlying t = some (.slice e)) (hi : P.info? e = some i) (hz : i.zero = some z)
    (hsize : i.size = 1) (hby : i.bytes = 4) (hzs : z.cells.size = 1) (v vx : Value) (l m : List Int) {S : Nat → Prop} (hs : a.eval s = v) (hown : OwnW e w base v l) (hx : a.eval x = vx) (hm : nwordR.rel w S [vx] m) (hlen : l.length + m.length ≤ 1000000000000) (hbase : base ≤ w.heap.size)
    (hK : ∀ v' w', OwnW e w' base v' (l ++ m) → Below base w w' → wpList P ops Q rest (a.put o.dst v') w') : wpList P ops Q (o :: rest) a w := by
  obtain ⟨A, c, rfl, _, _⟩ := list_form hm.1
  have hI := word_i32 hm.1
  have hI2 : ∀ x ∈ l ++ m, I32 x := fun x hx => (List.mem_append.1 hx).elim (hown.2 x) (hI x)
  cases A with
  | none =>
    have h0 := word_none hm.1
    subst h0
    have hc := hm.2 _ _ rfl
    subst hc
    refine wpList_append_own_none hgd s x t ho base e i 1 ht hi v _ _ hs hown.1 hx (hK _ _ ?_ (Below.refl _ _))
    rw [List.append_nil]
    exact hown
  | some ad =>
    refine wpList_append_own w hgd s x t ho base e i z 1 4 ht hi hz hsize hby hzs (by decide) v l.length (encW l) hs hown.1 ad m.length c (encW m) hx (by rw [encW_len, Nat.mul_one]) (fun j u hu => (word_news hm.1 j u hu).2) encW_one (by unfold maxLen; omega) (by omega) hbase ?_
    intro v' w' h1 h2 _
    refine hK v' w' ⟨?_, hI2⟩ (below_grown hown.1 h2 (Nat.le_refl _) hbase)
    rw [List.length_append, encW_append]
    exact h1
end Go.Um
namespace Go.Proofs.YtmkmikacfilbpaaGreat
open Go.RowKit Go.Um Go.Proofs
theorem heapLtW {w : World} {G : Nat} {o : Obj} (h : w.heap[G]? = some o) : G < w.heap.size := (Array.getElem?_eq_some_iff.1 h).1
theorem infoRn : (Tryz.prog.info? 21).map (fun i => (i.zero, i.size, i.bytes)) = some (some (.int .i32 0), 1, 4) := by kernel_rfl
theorem infoW : (Tryz.prog.info? 27).map (fun i => (i.zero, i.size, i.bytes)) = some (some (.slice none 0 0), 1, 24) := by kernel_rfl
set_option maxHeartbeats 1000000 in
set_option maxRecDepth 100000 in
theorem cloneW_calls (l : List Int) (v : Value) (w : World) (h : wordR.rel w (upto w.heap.size) [v] l) (hl : l.length ≤ 1000000000000) :
    Calls Tryz.prog 93 #[v] w fun e w' => ∃ u, e = .returned u ∧ nwordR.rel w' (Fresh w.heap.size w') [u] l ∧ Below w.heap.size w w' := by
  obtain ⟨A, c, rfl, hc, hm⟩ := list_form h
  obtain ⟨inf, hi0, hz0, hz1, hz2⟩ := info_parts infoRn
  cases A with
  | none =>
    have hl0 := word_none h
    subst hl0
    have hnil : ∀ W : World, (binOp .eql 27 (.slice none 0 c) (.slice none 0 0)).run Tryz.prog W = .ok (.bool true) W := fun W => Lib.run_eql_slice_nil_nil W 0 c Tryz.underlying27
    clear h
    go_enter Tryz.func93, Tryz.ntmps93
    go_wp2_with fail
    go_ret
    exact ⟨_, rfl, (OwnW.nil (e := 21) (base := w.heap.size)).fresh (Nat.le_refl _), Below.refl _ _⟩
  | some ad =>
    have hnews : ∀ (j : Nat) (u : Value), (encW l)[j]? = some u → (w.alloc (.cells #[] 21)).cell? (ad.add j) = some u := fun j u hu => by
      obtain ⟨h1, h2⟩ := word_news h j u hu
      have hb : (ad.add j).block = ad.block := by unfold Addr.add; split <;> rfl
      rw [World.cell?_of_block (Below.heap_alloc _ _ _ (by rw [hb]; exact h1))]
      exact h2
    have hI := word_i32 h
    have hown : (w.alloc (.cells #[] 21)).ownsRow w.heap.size 21 1 (.slice (some ⟨w.heap.size, 0, none⟩) 0 0) 0 [] := World.ownsRow_lit w #[] 0 (Nat.le_refl _) (Nat.zero_le _) rfl
    have hB0 : Below w.heap.size w (w.alloc (.cells #[] 21)) := (Below.refl _ w).alloc (Nat.le_refl _) _
    have hnil : ∀ W : World, (binOp .eql 27 (.slice (some ad) l.length c) (.slice none 0 0)).run Tryz.prog W = .ok (.bool false) W := fun W => Lib.run_eql_slice_some_nil W ad l.length c Tryz.underlying27
    clear h
    go_enter Tryz.func93, Tryz.ntmps93
    go_wp2_with (at_builtin; refine Hid.out ?_)
    refine hid ?_
    show wpList _ _ _ _ _ _
    refine wpList_append_own _ (by rfl) _ _ 27 (by rfl) w.heap.size 21 inf _ 1 4 Tryz.underlying27 hi0 hz0 hz1 hz2 rfl (by decide) (.slice (some ⟨w.heap.size, 0, none⟩) 0 0) _ _ (by rfl) hown ad l.length c (encW l) (by rfl) (by rw [encW_len]; omega) hnews encW_one (by unfold maxLen; omega) (by omega) (by simp) ?_
    intro v' w3 hown3 hg3 hn3
    rw [Nat.zero_add, List.nil_append] at hown3
    have hO : OwnW 21 w3 w.heap.size v' l := ⟨hown3, hI⟩
    have hF := hO.fresh (Nat.le_refl _)
    have hB3 := hB0.trans (below_grown hown hg3 (Nat.le_refl _) hB0.size)
    obtain ⟨A9, c9, rfl, _, _⟩ := list_form hF.1
    clear hown3 hg3 hn3 hO
    go_wp2_with fail
    go_ret
    exact ⟨_, rfl, hF, hB3⟩
set_option maxHeartbeats 1000000 in
set_option maxRecDepth 100000 in
theorem growW_calls (n : Nat) (w : World) (hn : n ≤ 1000000000000) : Calls Tryz.prog 92 #[.slice none 0 0, .int .i64 n] w fun e w' => ∃ u, e = .returned u ∧ OwnW 21 w' w.heap.size u [] ∧ Below w.heap.size w w' := by
  obtain ⟨inf, hi0, hz0, hz1, hz2⟩ := info_parts infoRn
  by_cases h0 : n = 0
  · subst h0
    go_enter Tryz.func92, Tryz.ntmps92
    go_wp2_with fail
    go_ret
    exact ⟨_, rfl, OwnW.nil, Below.refl _ _⟩
  · have h1 : ¬ ((n : Int) < 0) := by omega
    have h2 : (0 : Int) < n := by omega
    have hrz : ∀ ty, (Builtin.append_ #[27, 3] ty #[.slice none 0 0, .int .i64 (n : Int)]).run Tryz.prog w = .ok (.slice (some ⟨w.heap.size, 0, none⟩) n (grownCap w n 0 21)) (w.drew.alloc (.cells (Builtin.zeroCells (Value.int .i32 0).cells n ++ Builtin.zeroCells (Value.int .i32 0).cells (grownCap w n 0 21 - n)) 21)) := fun ty =>
      Lib.run_append_nil_zeros w 27 3 ty 21 inf _ .i64 .i64 Tryz.underlying27 Tryz.underlying3 hi0 hz0 n (by omega) (by rw [hz1]; decide) (by omega) (by rw [hz2]; omega)
    have hge := grownCap_ge w n 0 21
    have hle := grownCap_le_maxLen w n 0 21 (by unfold maxLen; omega)
    obtain ⟨G, hG⟩ : ∃ G, G = grownCap w n 0 21 := ⟨_, rfl⟩
    rw [← hG] at hge hle hrz
    obtain ⟨cs, hcs⟩ : ∃ cs, cs = Builtin.zeroCells (Value.int .i32 0).cells n ++ Builtin.zeroCells (Value.int .i32 0).cells (G - n) := ⟨_, rfl⟩
    have hsz : cs.size = G * 1 := by rw [hcs]; simp [Builtin.zeroCells, Value.cells]; omega
    rw [← hcs] at hrz
    have hO := World.ownsRow_made (base := w.heap.size) (e := 21) (size := 1) w.drew cs G (Nat.le_refl _) hle hsz
    have hB : Below w.heap.size w (w.drew.alloc (.cells cs 21)) := (Below.refl _ w).drew.alloc (Nat.le_refl _) _
    have HO := hid hO
    have HB := hid hB
    clear hG hcs hsz hO hB hi0 hz0 hz1 hz2 h0
    unfold maxLen at hle
    go_enter Tryz.func92, Tryz.ntmps92
    go_wp2_with (at_builtin; refine Hid.out ?_)
    refine hid ?_
    show wpList _ _ _ _ _ _
    refine Lib.wpList_append_run _ (by rfl) _ _ _ _ (by rfl) _ _ (by rfl) (by rfl) _ _ (hrz _) ?_
    go_wp2_with fail
    go_ret
    exact ⟨_, rfl, ⟨HO.out, fun x hx => by cases hx⟩, HB.out⟩
set_option maxHeartbeats 2000000 in
set_option maxRecDepth 100000 in
theorem Concat_calls (a b : List Int) (g : Nat) (v1 v2 : Value) (w : World) (hg : w.heap[g]? = some (.cells #[v1, v2] 27)) (ha : nwordR.rel w (upto w.heap.size) [v1] a) (hb : nwordR.rel w (upto w.heap.size) [v2] b)
    (la : a.length ≤ 100000000000) (lb : b.length ≤ 100000000000) :
    Calls Tryz.prog 54 #[.slice (some ⟨g, 0, none⟩) 2 2] w fun e w' => ∃ u, e = .returned u ∧ nwordR.rel w' (Fresh w.heap.size w') [u] (a ++ b) ∧ Below w.heap.size w w' := by
  have HG : Hid (∀ W : World, Calls Tryz.prog 92 #[.slice none 0 0, .int .i64 ((a.length : Int) + b.length)] W fun e w' => ∃ u, e = .returned u ∧ OwnW 21 w' W.heap.size u [] ∧ Below W.heap.size W w') := hid fun W => by
    have := growW_calls (a.length + b.length) W (by omega)
    rwa [Int.natCast_add] at this
  obtain ⟨inf, hi0, hz0, hz1, hz2⟩ := info_parts infoRn
  obtain ⟨A1, c1, rfl, _, _⟩ := list_form ha.1
  obtain ⟨A2, c2, rfl, _, _⟩ := list_form hb.1
  have q0 : w.cell? ⟨g, 0, none⟩ = some (.slice A1 a.length c1) := cell_of_row _ _ 0 _ _ _ hg
  have q1 : w.cell? ⟨g, 1, none⟩ = some (.slice A2 b.length c2) := cell_of_row _ _ 1 _ _ _ hg
  have hgl := heapLtW hg
  have n1 : ¬ ((a.length : Int) < 0) := by omega
  have n2 : ¬ ((a.length : Int) + b.length < 0) := by omega
  have n3 : (a.length : Int) ≤ 100000000000 := by omega
  have n4 : (b.length : Int) ≤ 100000000000 := by omega
  have HA := hid ha
  have HB := hid hb
  clear ha hb
  go_enter Tryz.func54, Tryz.ntmps54
  go_wp2_with fail
  refine wp_loop_rounds 3 ?_
  rw [rounds_succ]
  go_wp2_with fail
  rw [rounds_succ]
  go_wp2_with fail
  rw [rounds_succ]
  go_wp2_with fail
  refine (HG.out w).mono ?_
  rintro e w1 ⟨u1, rfl, hO1, hB1⟩
  replace q0 := (hB1.cell (p := ⟨g, 0, none⟩) hgl).trans q0
  replace q1 := (hB1.cell (p := ⟨g, 1, none⟩) hgl).trans q1
  obtain ⟨A3, n9, c3, rfl⟩ : ∃ A n c, u1 = Value.slice A n c := (list_form (hO1.rel (fun g h => h)).1).elim fun A h => h.elim fun c h => ⟨A, _, c, h.1⟩
  go_wp2_with fail
  refine wp_loop_rounds 3 ?_
  rw [rounds_succ]
  go_wp2_with (at_builtin; refine Hid.out ?_)
  refine hid ?_
  show wpList _ _ _ _ _ _
  refine wpList_append_word (by rfl) _ _ 27 (by rfl) w.heap.size 21 inf _ Tryz.underlying27 hi0 hz0 hz1 hz2 rfl _ (.slice A1 a.length c1) [] a (by rfl) hO1 (by rfl) (nwordR.mono (fun p hp => hB1.cell hp) (fun _ h => h) HA.out) (by simp; omega) hB1.size ?_
  intro v' w2 hO2 hB2
  rw [List.nil_append] at hO2
  have hb2 : Below w.heap.size w w2 := hB1.trans hB2
  replace q0 := (hB2.cell (p := ⟨g, 0, none⟩) hgl).trans q0
  replace q1 := (hB2.cell (p := ⟨g, 1, none⟩) hgl).trans q1
  obtain ⟨A4, n8, c4, rfl⟩ : ∃ A n c, v' = Value.slice A n c := (list_form (hO2.rel (fun g h => h)).1).elim fun A h => h.elim fun c h => ⟨A, _, c, h.1⟩
  go_wp2_with fail
  rw [rounds_succ]
  go_wp2_with (at_builtin; refine Hid.out ?_)
  refine hid ?_
  show wpList _ _ _ _ _ _
  refine wpList_append_word (by rfl) _ _ 27 (by rfl) w.heap.size 21 inf _ Tryz.underlying27 hi0 hz0 hz1 hz2 rfl _ (.slice A2 b.length c2) a b (by rfl) hO2 (by rfl) (nwordR.mono (fun p hp => hb2.cell hp) (fun _ h => h) HB.out) (by omega) hb2.size ?_
  intro v' w3 hO3 hB3
  have hb3 : Below w.heap.size w w3 := hb2.trans hB3
  obtain ⟨A5, n7, c5, rfl⟩ : ∃ A n c, v' = Value.slice A n c := (list_form (hO3.rel (fun g h => h)).1).elim fun A h => h.elim fun c h => ⟨A, _, c, h.1⟩
  clear hB1 hB2 hB3 hO1 hO2 hb2
  go_wp2_with fail
  rw [rounds_succ]
  go_wp2_with fail
  go_ret
  exact ⟨_, rfl, hO3.fresh (Nat.le_refl _), hb3⟩
end Go.Proofs.YtmkmikacfilbpaaGreat
