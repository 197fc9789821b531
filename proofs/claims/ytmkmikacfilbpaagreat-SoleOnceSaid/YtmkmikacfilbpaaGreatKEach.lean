/-
  span.Each: going through a set's numbers, for any body that keeps all blocks but its own box and the row that this box holds. span.Each: what it hands back, and its contract for a range over it. Within a round of a range over a function, at the wide fence: what holds of an operation, or of a region that draws its order, outside of a round, holds within it, where nothing is deferred. No program is named here.
-/
import Derived.Test.YtmkmikacfilbpaaGreatKPlus
import Derived.RangeFuncNested
import Derived.RangeFuncBound
import Derived.RangeFuncCalls
import Derived.RangeFuncLeaves
import Derived.RangeFuncBox
import Derived.Shelf.Abstract
import Derived.Shelf.RegionOpen
import Derived.WalkKit
import Derived.OwnWalkIn
import Derived.TacticsInMore
import Derived.LoopNIn
import Derived.LoopIn
import Derived.Maps.AppendAt
namespace Go.Um
open Go.RowKit Go.Shelf
theorem cell_of_heap_eq {w w' : World} {p : Addr} (h : w'.heap[p.block]? = w.heap[p.block]?) : w'.cell? p = w.cell? p := by
  unfold World.cell?
  rw [h]
/-- the block of the row that box B holds. -/
def rowB (B : Nat) (W : World) : Option Nat := (W.cell? ⟨B, 0, none⟩).bind Value.ownBlock
def RowOk (B : Nat) (W : World) : Prop := ∀ g, rowB B W = some g → g < W.heap.size
/-- what a round of a body keeps that writes into box B, and into the row that it holds. -/
structure Fr (B : Nat) (W W' : World) : Prop where
  size : W.heap.size ≤ W'.heap.size
  ok : RowOk B W'
  row : ∀ g, rowB B W' = some g → rowB B W = some g ∨ W.heap.size ≤ g
  keep : ∀ (g : Nat) (cs : Array Value) (T : TypeId) (fr : Nat × Nat), W.heap[g]? = some (.cells cs T fr) → g ≠ B → rowB B W ≠ some g → W'.heap[g]? = some (.cells cs T fr)
def Kep (B : Nat) (W W' : World) : Prop := RowOk B W → B < W.heap.size → Fr B W W'
theorem Fr.refl {B : Nat} {W : World} (h : RowOk B W) : Fr B W W := ⟨Nat.le_refl _, h, fun _ h => .inl h, fun _ _ _ _ h _ _ => h⟩
theorem heap_lt {W : World} {g : Nat} {o : Obj} (h : W.heap[g]? = some o) : g < W.heap.size := (Array.getElem?_eq_some_iff.1 h).1
theorem Fr.trans {B : Nat} {A C D : World} (h : Fr B A C) (k : Fr B C D) : Fr B A D where
  size := Nat.le_trans h.size k.size
  ok := k.ok
  row := fun g hg => by
    rcases k.row g hg with h1 | h1
    · exact h.row g h1
    · exact .inr (Nat.le_trans h.size h1)
  keep := fun g cs T fr hc hb hr => k.keep g cs T fr (h.keep g cs T fr hc hb hr) hb fun h1 => by
    rcases h.row g h1 with h2 | h2
    · exact hr h2
    · have := heap_lt hc; omega
theorem Kep.t {B : Nat} {A C D : World} (h : Kep B A C) (k : Kep B C D) : Kep B A D := fun h1 h2 => (h h1 h2).trans (k (h h1 h2).ok (Nat.lt_of_lt_of_le h2 (h h1 h2).size))
theorem rowB_heap {B : Nat} {W W' : World} (h : W'.heap[B]? = W.heap[B]?) : rowB B W' = rowB B W := by
  unfold rowB
  rw [cell_of_heap_eq h]
theorem Kep.b {B : Nat} {w : World} (hB : B < w.heap.size) (W : World) (l : Nat) (o o' : Obj) (hl : w.heap.size ≤ l) (h : W.heap[l]? = some o) (hc : o.isCells = false) (_ : o.isWalk = false) : Kep B W (W.putObj l o') := fun h1 h2 => by
  have hr : rowB B (W.putObj l o') = rowB B W := rowB_heap (World.putObj_heap_other (by omega))
  refine ⟨by simp, fun g hg => ?_, fun g hg => ?_, fun g cs T fr hg hb _ => ?_⟩
  · rw [hr] at hg; have := h1 g hg; simpa using this
  · rw [hr] at hg; exact .inl hg
  · have hne : g ≠ l := fun e => by
      subst e
      rw [h] at hg
      cases hg
      cases hc
    rw [World.putObj_heap_other hne]
    exact hg
theorem Fr.alloc {B : Nat} {W : World} (h : RowOk B W) (hB : B < W.heap.size) (o : Obj) : Fr B W (W.alloc o) := by
  have hr : rowB B (W.alloc o) = rowB B W := rowB_heap (Below.heap_alloc W o B hB)
  refine ⟨by simp, fun g hg => ?_, fun g hg => ?_, fun g cs T fr hg _ _ => ?_⟩
  · rw [hr] at hg; have := h g hg; simp; omega
  · rw [hr] at hg; exact .inl hg
  · exact (Below.heap_alloc W o g (heap_lt hg)).trans hg
/-- where box B holds nil, a reading of other blocks stays. -/
theorem Fr.below {B : Nat} {W W' : World} (h : Fr B W W') (hn : rowB B W = none) {S : Nat → Prop} (hS : ∀ g, S g → g ≠ B ∧ ∃ cs T fr, W.heap[g]? = some (.cells cs T fr)) : ∀ p : Addr, S p.block → W'.cell? p = W.cell? p := fun p hp => by
  obtain ⟨h1, cs, T, fr, h2⟩ := hS p.block hp
  exact cell_of_heap_eq ((h.keep _ cs T fr h2 h1 (by rw [hn]; simp)).trans h2.symm)
theorem eachS_get {s : Span} {j : Nat} (h : s.lo + j ≤ s.hi) : (eachS s)[j]? = some (s.lo + j) := by
  unfold eachS
  rw [List.getElem?_map, List.getElem?_range (by omega)]
  rfl
theorem eachS_drop {s : Span} {j : Nat} (h : s.lo + j ≤ s.hi) : (eachS s).drop j = (s.lo + j) :: (eachS s).drop (j + 1) := drop_cons (eachS_get h)
theorem eachS_end {s : Span} {j : Nat} (h : ¬ s.lo + j ≤ s.hi) : (eachS s).drop j = [] := by
  apply List.drop_eq_nil_of_le
  unfold eachS
  simp
  omega
theorem eachL_cons (s : Span) (l : List Span) : eachL (s :: l) = eachS s ++ eachL l := rfl
end Go.Um
namespace Go.Proofs.YtmkmikacfilbpaaGreat
open Go.Proofs Go.Um Go.RowKit Go.Shelf
attribute [local go_sem] Oper.semAt_some
set_option maxRecDepth 100000 in
set_option maxHeartbeats 2000000 in
theorem each1_in (F : Fence) (n : Nat) (hF : F.fn 162) (hro : F.round = none) (hn : 1 ≤ n) (l Bs B : Nat) (s : List Span) (v : Value) (J Jx : List Int → World → Prop)
    (hY : ∀ pre x W, x ∈ eachL s → J pre W → pre.length < (eachL s).length → YieldAt F (n - 1) Tryz.prog l #[.int .i64 x] W fun e W' =>
      (e = .returned (.bool true) ∧ J (pre ++ [x]) W' ∧ Kep B W W') ∨ (e = .returned (.bool false) ∧ Jx (pre ++ [x]) W'))
    (hJ : ∀ pre W o, J pre W → J pre (W.alloc o))
    (W : World) (hB : B < W.heap.size) (hrow : rowB B W = none) (S : Nat → Prop) (hS : ∀ g, S g → g ≠ B ∧ ∃ cs T fr, W.heap[g]? = some (.cells cs T fr)) (hBs : W.cell? ⟨Bs, 0, none⟩ = some v) (hr : spansR.rel W S [v] s)
    (hb : ∀ x ∈ s, -1000000000000 ≤ x.lo ∧ x.hi ≤ 1000000000000) (h0 : J [] W) :
    CallsIn F n Tryz.prog 162 #[.func (.yield l) #[] #[], .pointer (some ⟨Bs, 0, none⟩)] W fun e W' => (∃ v, e = .returned v) ∧
      ((∃ ys, ys = eachL s ∧ J ys W') ∨ (∃ pre, pre <+: eachL s ∧ Jx pre W')) := by
  obtain ⟨A, c, rfl, hc, hm⟩ := list_form hr
  unfold maxLen at hm
  have hok0 : RowOk B W := fun g hg => by rw [hrow] at hg; cases hg
  refine callsIn_of_wp Tryz.func162 rfl hF ?_ hro
  simp only [Tryz.ntmps162, List.size_toArray, List.length_cons, List.length_nil, Nat.reduceAdd, Nat.reduceSub, Array.replicate_succ, Array.replicate_zero, List.push_toArray, List.append_toArray, List.nil_append, List.cons_append]
  gi_wp2
  gi_loopw [8] (fun i wr => ∃ (k : Nat) (pre : List Int), k ≤ s.length ∧ i = .int .i64 k ∧ Hid (eachL s = pre ++ eachL (s.drop k)) ∧ J pre wr ∧ Fr B W wr)
    (fun i _ => s.length - (intOf i).toNat)
  case atStart => exact ⟨0, [], Nat.zero_le _, rfl, hid rfl, h0, Fr.refl hok0⟩
  case round =>
    obtain ⟨k, pre, hk, rfl, HE, hJs, hfr⟩ := hrel
    obtain ⟨wo, hwo⟩ : ∃ wo, wo = wr := ⟨_, rfl⟩
    subst hwo
    have hrr := spansR.mono (hfr.below hrow hS) (fun _ h => h) hr
    by_cases hlt : k < s.length
    · obtain ⟨x, hx⟩ := at_lt hlt
      obtain ⟨b, o, rfl, hbS, c1, c2, x1, x2⟩ := span_at hrr hx
      have hlt' : (k : Int) < s.length := by omega
      have hxb := hb x (List.mem_of_getElem? hx)
      have HE2 : Hid (eachL s = pre ++ (eachS x ++ eachL (s.drop (k + 1)))) := hid (by rw [HE.out, drop_cons hx]; rfl)
      clear HE hx hrr
      have hbox0 : rowB B wo ≠ some wo.heap.size := fun h => by have := hfr.ok _ h; omega
      have hBr : B < wo.heap.size := Nat.lt_of_lt_of_le hB hfr.size
      gi_wp2
      have hfa := Fr.alloc hfr.ok hBr (.cells #[.int .i64 x.lo, .int .i64 x.hi] 64)
      have hja := hJ pre wo (.cells #[.int .i64 x.lo, .int .i64 x.hi] 64) hJs
      have hba := heap_alloc_new wo (.cells #[.int .i64 x.lo, .int .i64 x.hi] 64)
      have hra : rowB B (wo.alloc (.cells #[.int .i64 x.lo, .int .i64 x.hi] 64)) ≠ some wo.heap.size := by
        rw [rowB_heap (Below.heap_alloc wo _ B hBr)]; exact hbox0
      generalize wo.alloc (.cells #[.int .i64 x.lo, .int .i64 x.hi] 64) = wa at *
      gi_loopw [5] (fun i wq => ∃ (j : Nat) (pj : List Int), i = .int .i64 (x.lo + j) ∧ (x.lo + j ≤ x.hi + 1 ∨ j = 0) ∧ Hid (eachL s = pj ++ ((eachS x).drop j ++ eachL (s.drop (k + 1)))) ∧ J pj wq ∧ Fr B wa wq)
        (fun i _ => (x.hi + 1 - intOf i).toNat)
      case atStart => exact ⟨0, pre, by simp, .inr rfl, HE2, hja, Fr.refl hfa.ok⟩
      case round =>
        obtain ⟨j, pj, rfl, hjb, HJ, hJj, hfq⟩ := hrel
        have hbq := hfq.keep _ _ _ _ hba (by omega) hra
        have q1 : wr.cell? ⟨wo.heap.size, 0, none⟩ = some (.int .i64 x.lo) := cell_of_row _ _ 0 _ _ _ hbq
        have q2 : wr.cell? ⟨wo.heap.size, 1, none⟩ = some (.int .i64 x.hi) := cell_of_row _ _ 1 _ _ _ hbq
        by_cases hin : x.lo + j ≤ x.hi
        · have HJ2 : Hid (eachL s = pj ++ (x.lo + j) :: ((eachS x).drop (j + 1) ++ eachL (s.drop (k + 1)))) := hid (by rw [HJ.out, eachS_drop hin]; rfl)
          obtain ⟨fn, tmps, assign, body, hy, hR⟩ := hY pj (x.lo + j) wr (by rw [HJ2.out]; simp) hJj (by rw [HJ2.out]; simp)
          have hokq := hfq.ok
          have hBq : B < wr.heap.size := Nat.lt_of_lt_of_le (Nat.lt_of_lt_of_le hBr hfa.size) hfq.size
          clear HJ
          gi_wp2
          refine hR.mono ?_
          rintro e W3 (⟨rfl, hJ3, hk3⟩ | ⟨rfl, hJx3⟩)
          · have hf3 := hk3 hokq hBq
            gi_wp2
            go_roundw
            case rel => exact ⟨j + 1, pj ++ [x.lo + j], by push_cast; rw [Int.add_assoc], .inl (by push_cast; omega), hid (by rw [HJ2.out]; simp), hJ3, hfq.trans hf3⟩
            case measure => simp [intOf]; omega
          · gi_wp2
            refine bodyPost_ret (results_none rfl _ _ _) rfl ?_
            exact ⟨⟨_, rfl⟩, .inr ⟨_, by rw [HJ2.out]; exact ⟨(eachS x).drop (j + 1) ++ eachL (s.drop (k + 1)), by simp⟩, hJx3⟩⟩
        · have HJ2 : Hid (eachL s = pj ++ eachL (s.drop (k + 1))) := hid (by rw [HJ.out, eachS_end hin]; rfl)
          clear HJ
          gi_wp2
          go_roundw
          case rel => exact ⟨k + 1, pj, by omega, by push_cast; rfl, HJ2, hJj, (hfr.trans hfa).trans hfq⟩
          case measure => simp [intOf]; omega
    · obtain rfl : k = s.length := by omega
      have HE2 : Hid (pre = eachL s) := hid (by rw [HE.out, List.drop_length]; simp [eachL])
      clear HE hrr
      gi_wp2
      go_end0
      exact ⟨⟨_, rfl⟩, .inl ⟨_, HE2.out, hJs⟩⟩
end Go.Proofs.YtmkmikacfilbpaaGreat
namespace Go.Proofs.YtmkmikacfilbpaaGreat
open Go.Proofs Go.Um Go.RowKit Go.Shelf
set_option maxHeartbeats 1000000 in
set_option maxRecDepth 100000 in
theorem Each_calls (l : List Span) (v : Value) (w : World) (h : spansR.rel w (upto w.heap.size) [v] l) (hl : l.length ≤ 1073741824) :
    Calls Tryz.prog 146 #[v] w fun e w' => ∃ x Bs, e = .returned (.func (.func 162) #[] #[.pointer (some ⟨Bs, 0, none⟩)]) ∧ w'.heap[Bs]? = some (.cells #[x] 65) ∧ w.heap.size ≤ Bs ∧
      OwnS 64 w' w.heap.size x (normF l) ∧ Below w.heap.size w w' := by
  have hN := Norm_calls l v w h hl
  generalize normF l = m at *
  go_enter Tryz.func146, Tryz.ntmps146
  go_wp2_with fail
  refine hN.mono ?_
  rintro e w1 ⟨x, rfl, ho1, hB1⟩
  obtain ⟨A, c, rfl, hc, hm⟩ := list_form ho1.rel
  go_wp2_with fail
  go_ret
  exact ⟨_, _, rfl, heap_alloc_new w1 _, hB1.size, ⟨ho1.1.alloc _, ho1.2⟩, hB1.alloc hB1.size _⟩
theorem own_block {w : World} {base : Nat} {e : TypeId} {v : Value} {xs : List Span} (h : OwnS e w base v xs) : ∀ g, v.ownBlock = some g → base ≤ g ∧ ∃ cs T fr, w.heap[g]? = some (.cells cs T fr) := by
  intro g hg
  rcases h.1.2 with ⟨rfl, _⟩ | ⟨g', cap, cur, rfl, hb, hh, _⟩
  · cases hg
  · simp [Value.ownBlock] at hg
    subst hg
    exact ⟨hb, _, _, _, hh⟩
theorem each_stops (F : Fence) (n : Nat) (hF : F.fn 162) (hro : F.round = none) (hn : 1 ≤ n) (Bs B base : Nat) (s : List Span) (x : Value) (w : World) (hB : B < w.heap.size) (hrow : rowB B w = none) (hBs : w.heap[Bs]? = some (.cells #[x] 65))
    (ho : OwnS 64 w base x s) (hbase : B < base) (hb : ∀ y ∈ s, -1000000000000 ≤ y.lo ∧ y.hi ≤ 1000000000000) :
    SeqStopsK F n Tryz.prog 162 #[.pointer (some ⟨Bs, 0, none⟩)] (fun z : { z : Int // z ∈ eachL s } => #[Value.int .i64 z.1]) (Kep B) (fun ys => ys.map Subtype.val = eachL s) (fun pre => pre.map Subtype.val <+: eachL s) (eachL s).length w := fun l J Jx W hW hJ _ hY h0 => by
  have hBW : W.heap[B]? = w.heap[B]? := hW.block B hB
  have hlt : Bs < w.heap.size := heap_lt hBs
  have hc : W.cell? ⟨Bs, 0, none⟩ = some x := (hW.cell (p := ⟨Bs, 0, none⟩) hlt).trans (cell_of_row w Bs 0 _ _ _ hBs)
  have hS : ∀ g, (fun g => x.ownBlock = some g) g → g ≠ B ∧ ∃ cs T fr, W.heap[g]? = some (.cells cs T fr) := fun g hg => by
    obtain ⟨h1, cs, T, fr, h2⟩ := own_block ho g hg
    exact ⟨by omega, cs, T, fr, (hW.block g (heap_lt h2)).trans h2⟩
  have hr : spansR.rel W (fun g => x.ownBlock = some g) [x] s := spansR.mono (fun p hp => by
    obtain ⟨h1, cs, T, fr, h2⟩ := own_block ho p.block hp
    exact cell_of_heap_eq (hW.block p.block (heap_lt h2))) (fun _ h => h) (ho.rel_in fun g hg => hg)
  refine (each1_in F n hF hro hn l Bs B s x (fun pre W => ∃ pa : List { z : Int // z ∈ eachL s }, pa.map Subtype.val = pre ∧ J pa W) (fun pre W => ∃ pa : List { z : Int // z ∈ eachL s }, pa.map Subtype.val = pre ∧ Jx pa W)
    (fun pre z W' hz hj hl => by
      obtain ⟨pa, rfl, hj⟩ := hj
      obtain ⟨fn, tmps, assign, body, hy, hR⟩ := hY pa ⟨z, hz⟩ W' hj (by simpa using hl)
      refine ⟨fn, tmps, assign, body, hy, hR.mono ?_⟩
      rintro e W3 (⟨rfl, h1, h2⟩ | ⟨rfl, h1⟩)
      · exact .inl ⟨rfl, ⟨_, by simp, h1⟩, h2⟩
      · exact .inr ⟨rfl, _, by simp, h1⟩)
    (fun pre W' o hj => by
      obtain ⟨pa, h1, h2⟩ := hj
      exact ⟨pa, h1, hJ pa W' _ none h2 (World.grownBy_alloc W' o none) (fun r e => by cases e)⟩) W (Nat.lt_of_lt_of_le hB hW.size) ((rowB_heap hBW).trans hrow) _ hS hc hr hb ⟨[], rfl, h0⟩).mono ?_
  rintro e W' ⟨he, ⟨ys, rfl, pa, h1, h2⟩ | ⟨pre, h1, pa, rfl, h2⟩⟩
  · exact ⟨he, .inl ⟨pa, h1, h2⟩⟩
  · exact ⟨he, .inr ⟨pa, h1, h2⟩⟩
attribute [local go_sem] Oper.semAt_some
set_option maxHeartbeats 1000000 in
/-- a range over what span.Each has handed back, at the wide fence. -/
theorem range_each {g : Operand} {p1 d1 id tt : Nat} {pos : String} {body : Code} {Q : Exit → Act → World → Prop} {a : Act} {w : World} {Bs B base : Nat} {s : List Span} {x : Value}
    (hg : a.eval g = .func (.func 162) #[] #[.pointer (some ⟨Bs, 0, none⟩)]) (hp : p1 < a.tmps.size) (hd : a.defers = []) (hB : B < w.heap.size) (hrow : rowB B w = none) (hBs : w.heap[Bs]? = some (.cells #[x] 65))
    (ho : OwnS 64 w base x s) (hbase : B < base) (hb : ∀ y ∈ s, -1000000000000 ≤ y.lo ∧ y.hi ≤ 1000000000000)
    (I : List { z : Int // z ∈ eachL s } → World → Prop) (hI : OwnFrom w.heap.size I) (h0 : I [] w)
    (hbody : ∀ (l : Nat) (pre : List { z : Int // z ∈ eachL s }) (z : { z : Int // z ∈ eachL s }) (W : World), I pre W → pre.length < (eachL s).length →
      body.wpIn (Fence.wide.inRound l) 1 Tryz.prog (ownPostG w.heap.size (Kep B) I (fun _ _ _ => False) (pre ++ [z]) W) { tmps := (a.tmps.setIfInBounds p1 (.int .i64 z.1)).setIfInBounds d1 (.int .i64 z.1), defers := [] } W)
    (hdone : ∀ (D : Nat) (xs : List { z : Int // z ∈ eachL s }) (W : World), w.heap.size ≤ D → xs.map Subtype.val = eachL s → I xs W → W.heap[D]? = some (.deferred (some [])) → Q .normal { a with defers := [{ target := .collected D, args := #[] }] } W) :
    (Code.rangeFunc g #[p1] (Code.region id #[{ dst := some d1, op := .assign (.tmp p1), type := tt, pos := pos, after := #[], guard := none }] false) body).wp Tryz.prog Q a w := by
  obtain ⟨tmps, defers⟩ := a
  dsimp only at hd
  subst hd
  refine wpIn_wide.1 (wpIn_rangeFunc_ownG (n := 3) (F := Fence.wide) rfl (by decide) (gf := 162) (lb := #[.pointer (some ⟨Bs, 0, none⟩)]) hg trivial (enters_of Tryz.func162 (by kernel_rfl) rfl)
    (each_stops Fence.wide 2 trivial rfl (by decide) Bs B base s x w hB hrow hBs ho hbase hb) Kep.t (Kep.b hB) (Below.refl _ _) (fun _ => rfl) I (fun _ _ _ => False) hI (fun _ _ _ _ _ hs _ _ => hs) h0
    (fun z => { tmps := (tmps.setIfInBounds p1 (.int .i64 z.1)).setIfInBounds d1 (.int .i64 z.1), defers := [] }) ?assign hbody ?done ?stop)
  case assign =>
    intro l z W K hK
    refine wpIn_region_lit ?_
    have hp' : p1 < tmps.size := hp
    have e : (({ tmps := tmps.setIfInBounds p1 (.int .i64 z.1), defers := [] } : Act).eval (.tmp p1)) = .int .i64 z.1 := by simp [Act.eval, hp']
    rw [show (#[p1].zip #[Value.int .i64 z.1]).foldl (fun t (p, v) => t.setIfInBounds p v) tmps = tmps.setIfInBounds p1 (.int .i64 z.1) by simp]
    gi_wp2
    exact hK
  case done =>
    intro D xs W h1 h2 h3 h4
    exact hdone D xs W h1 h2 h3 h4
  case stop =>
    intro D c pre W _ _ h _
    exact h.elim
end Go.Proofs.YtmkmikacfilbpaaGreat
namespace Go.Um
open Go.RowKit
variable {P : Program} {n l : Nat} {ops : Array Oper} {Q : Exit → Act → World → Prop} {md : Region.Mode}
theorem operIn_of_wp {o : Oper} {a : Act} {w : World} {K : Act → World → Prop} (hd : ∀ c, o.op ≠ .defer c) (h : o.wp P a w K Q) : o.wpIn (Fence.wide.inRound l) n P a w K Q := by
  refine ⟨fun _ _ => trivial, ?_⟩
  show o.uponIn _ n P a K Q ((o.semAt (some l) a.eval).run P w)
  rw [Oper.semAt_some l _ _ hd]
  unfold Oper.wp at h
  generalize (execOp a.eval o).run P w = r at h ⊢
  cases r with
  | ok x w' =>
    cases x
    case value => exact h
    case skip => exact h
    case defer => exact h
    case enter => exact ⟨fun hh => (by cases hh), CallsIn.inRound l (callsIn_wide.2 h)⟩
    case row => exact ⟨fun hh => (by cases hh), fun c cs _ => (h c cs).elim fun v h1 => h1.elim fun w' h2 => ⟨v, w', h2.1, stepsIn_wide.2 h2.2⟩⟩
    all_goals exact False.elim h
  | halt x w' =>
    cases x
    all_goals first | exact h | exact False.elim h
theorem anyIn_of_any (hlo : ¬ LetsOut Q) (hd : ∀ (i : Nat) (o : Oper), ops[i]? = some o → ∀ c, o.op ≠ .defer c) : ∀ (f : Nat) (listed : Array Bool) (a : Act) (w : World), wpAny P md ops Q f listed a w → wpAnyIn (Fence.wide.inRound l) n P md ops Q f listed a w := by
  intro f
  induction f with
  | zero => intro listed a w h; exact h
  | succ f ih =>
    intro listed a w h
    refine ⟨h.1, fun i hi => ?_⟩
    have h2 := h.2 i hi
    unfold wpOp at h2
    unfold wpOpIn
    cases ho : ops[i]? with
    | none => rw [ho] at h2; exact ih _ _ _ h2
    | some o =>
      rw [ho] at h2
      simp only at h2 ⊢
      split
      · rename_i hw
        rw [if_pos hw] at h2
        exact Oper.wpIn_mono (fun a w => ih _ a w) (operIn_of_wp (hd i o ho) (h2.resolve_right fun h3 => hlo h3.2))
      · rename_i hw
        rw [if_neg hw] at h2
        exact ⟨fun _ _ => trivial, ih _ _ _ h2⟩
def noDefer : Op → Bool
  | .defer _ => false
  | _ => true
theorem region_round {id last : Nat} {S : World → Prop} {a : Act} {w : World} (hlo : ¬ LetsOut Q) (hm : P.follows .mixedOrders = true) (hd : ops.toList.all (fun o => noDefer o.op) = true)
    (h : anyL P .any ops Q S last ops.size (Array.replicate ops.size false) a w.drew) : (Code.region id ops true).wpIn (Fence.wide.inRound l) n P Q a w := by
  refine wpIn_region_any hm (anyIn_of_any hlo (fun i o ho c hc => ?_) _ _ _ _ (any_of_anyL _ _ _ _ h))
  have h1 := List.all_eq_true.1 hd o (by
    obtain ⟨hi, rfl⟩ := Array.getElem?_eq_some_iff.1 ho
    simp)
  rw [hc] at h1
  cases h1
/-- behind an append within a round, and the store into the box. -/
theorem round_append {W w6 : World} {B Bw : Nat} {t e : TypeId} {v v' : Value} {xs ys : List Span} {tmp : Obj} (hv : Boxed W B t v) (hte : t ≠ e) (hrow : OwnS e W B v xs) (hown : OwnS e w6 B v' ys) (hgrow : (W.alloc tmp).drew.grownBy w6 v.ownBlock)
    (hloc : v'.ownBlock = v.ownBlock ∨ v'.ownBlock = some (W.alloc tmp).drew.heap.size) :
    KeepsFrom Bw W (w6.setCell ⟨B, 0, none⟩ v') ∧ Kep B W (w6.setCell ⟨B, 0, none⟩ v') ∧ Boxed (w6.setCell ⟨B, 0, none⟩ v') B t v' ∧ OwnS e (w6.setCell ⟨B, 0, none⟩ v') B v' ys ∧ Below B W (w6.setCell ⟨B, 0, none⟩ v') := by
  have hg : (W.alloc tmp).grownBy w6 v.ownBlock := ⟨hgrow.os, hgrow.tape, hgrow.output, hgrow.size, hgrow.block⟩
  obtain ⟨h1, h2, h3, h4, h5⟩ := Boxed.appended hv hte hrow.1 (Nat.le_of_lt hv.lt) (Nat.le_refl _) hown.1 hg
  refine ⟨h4.from _, fun _ _ => ?_, h2, ⟨h3, hown.2⟩, h5⟩
  have r1 : rowB B W = v.ownBlock := by unfold rowB; rw [hv.cell]; rfl
  have r2 : rowB B (w6.setCell ⟨B, 0, none⟩ v') = v'.ownBlock := by unfold rowB; rw [h2.cell]; rfl
  have hsz : W.heap.size + 1 ≤ w6.heap.size := by have := hg.size; simpa using this
  refine ⟨by simp; omega, fun g hg' => ?_, fun g hg' => ?_, fun g cs T fr hc hb hr => ?_⟩
  · rw [r2] at hg'
    have := (h3.lt g hg').2
    simpa using this
  · rw [r2] at hg'
    rw [r1]
    rcases hloc with h | h
    · rw [h] at hg'; exact .inl hg'
    · rw [h] at hg'
      simp only [Option.some.injEq] at hg'
      subst hg'
      right
      show W.heap.size ≤ (W.alloc tmp).heap.size
      simp
  · have hgl := heap_lt hc
    rw [r1] at hr
    rw [heap_setCell_other w6 ⟨B, 0, none⟩ g v' hb, hg.block g (by simp; omega) (fun h => hr h.symm)]
    exact (Below.heap_alloc W tmp g hgl).trans hc
end Go.Um
