/-
  The program's sets: First, Last, Move, and the sums of two sets. The program's sums of two sets. span.Each: going through a set's numbers, for any body that keeps all blocks but its own box and the row that this box holds. span.Each: what it hands back, and its contract for a range over it. Within a round of a range over a function, at the wide fence: what holds of an operation, or of a region that draws its order, outside of a round, holds within it, where nothing is deferred. No program is named here. The program's part.Image: the values of a set's numbers.
-/
import Derived.Test.YthfcbbdghggefaaGreatPe
import Derived.RangeFuncNested
import Derived.RangeFuncBound
import Derived.RangeFuncCalls
import Derived.RangeFuncLeaves
import Derived.RangeFuncBox
import Derived.Shelf.Abstract
import Derived.Shelf.RegionOpen
import Derived.WalkKit
import Derived.OwnWalkIn
import Derived.TacticsInMore
import Derived.LoopNIn
import Derived.LoopIn
import Derived.Maps.AppendAt
namespace Go.Um
open Go.RowKit
theorem flat_set {xs : List Span} {i : Nat} {x : Span} (h : xs[i]? = some x) (z : Int) :
    (xs.flatMap Span.cells).set (i * 2) (.int .i64 z) = (xs.set i ⟨z, x.hi⟩).flatMap Span.cells ∧ (xs.flatMap Span.cells).set (i * 2 + 1) (.int .i64 z) = (xs.set i ⟨x.lo, z⟩).flatMap Span.cells := by
  induction xs generalizing i with
  | nil => cases h
  | cons y ys ih =>
    cases i with
    | zero => simp at h; subst h; simp [Span.cells]
    | succ i =>
      have := ih (i := i) (by simpa using h)
      rw [List.flatMap_cons, List.set_cons_succ, List.set_cons_succ, List.flatMap_cons, List.flatMap_cons, show (i + 1) * 2 = i * 2 + 2 by omega]
      simp only [Span.cells, List.cons_append, List.nil_append, List.set_cons_succ]
      rw [this.1, this.2]
      exact ⟨rfl, rfl⟩
theorem ok_set {xs : List Span} {i : Nat} {x : Span} (h : ∀ y ∈ xs, y.ok) (hx : x.ok) : ∀ y ∈ xs.set i x, y.ok := by
  intro y hy
  rcases List.mem_or_eq_of_mem_set hy with hy | rfl
  · exact h y hy
  · exact hx
theorem OwnS.setLo {e : TypeId} {w : World} {base g cap : Nat} {xs : List Span} (h : OwnS e w base (.slice (some ⟨g, 0, none⟩) xs.length cap) xs) {i : Nat} {x : Span} (hx : xs[i]? = some x) {z : Int} (hz : I64 z) :
    OwnS e (w.setCell ⟨g, i * 2, none⟩ (.int .i64 z)) base (.slice (some ⟨g, 0, none⟩) xs.length cap) (xs.set i ⟨z, x.hi⟩) := by
  refine ⟨?_, ok_set h.2 ⟨hz, (h.2 x (List.mem_of_getElem? hx)).2⟩⟩
  have := (World.ownsRow.stored h.1 (i * 2) (.int .i64 z)).1
  rw [(flat_set hx z).1] at this
  simpa using this
theorem OwnS.setHi {e : TypeId} {w : World} {base g cap : Nat} {xs : List Span} (h : OwnS e w base (.slice (some ⟨g, 0, none⟩) xs.length cap) xs) {i : Nat} {x : Span} (hx : xs[i]? = some x) {z : Int} (hz : I64 z) :
    OwnS e (w.setCell ⟨g, i * 2 + 1, none⟩ (.int .i64 z)) base (.slice (some ⟨g, 0, none⟩) xs.length cap) (xs.set i ⟨x.lo, z⟩) := by
  refine ⟨?_, ok_set h.2 ⟨(h.2 x (List.mem_of_getElem? hx)).1, hz⟩⟩
  have := (World.ownsRow.stored h.1 (i * 2 + 1) (.int .i64 z)).1
  rw [(flat_set hx z).2] at this
  simpa using this
theorem headLo_get {l : List Span} {s : Span} (h : l[0]? = some s) : headLo l = s.lo := by
  cases l with
  | nil => cases h
  | cons t r => simp at h; subst h; rfl
theorem lastHi_get {l : List Span} {s : Span} (h : l[l.length - 1]? = some s) : lastHi l = s.hi := by
  unfold lastHi
  rw [List.getLast?_eq_getElem?, h]
end Go.Um
namespace Go.Proofs.YthfcbbdghggefaaGreat
open Go.Proofs Go.Um Go.RowKit
set_option maxHeartbeats 1000000 in
set_option maxRecDepth 100000 in
theorem First_calls (l : List Span) (v : Value) (w : World) (h : spansR.rel w (upto w.heap.size) [v] l) (hl : l.length ≤ 1073741824) :
    Calls Tryz.prog 164 #[v] w fun e w' => e = .returned (.tuple #[.int .i64 (headLo (normF l)), .bool (!(normF l).isEmpty)]) ∧ Below w.heap.size w w' := by
  have hnl := normF_length l
  have hN := Norm_calls l v w h hl
  generalize normF l = m at *
  go_enter Tryz.func164, Tryz.ntmps164
  go_wp2_with fail
  refine hN.mono ?_
  rintro e w1 ⟨x, rfl, ho1, hB1⟩
  have hr := ho1.rel
  obtain ⟨A, c, rfl, hc, hm⟩ := list_form hr
  unfold maxLen at hm
  by_cases hn : m = []
  · subst hn
    clear ho1 hr
    go_wp2_with fail
    go_ret2
    exact ⟨rfl, hB1⟩
  · have h0 : 0 < m.length := List.length_pos_iff.2 hn
    obtain ⟨s, hs⟩ := at_lt h0
    obtain ⟨b, o, rfl, hb, c1, c2, _, _⟩ := span_at hr hs
    have h1 : ((m.length : Int) == 0) = false := beq_f (by omega)
    have hH : Hid (headLo m = s.lo) := hid (headLo_get hs)
    have hE : Hid ((!m.isEmpty) = true) := hid (by simp [hn])
    have h0' : (0 : Int) < m.length := by omega
    simp only [Nat.zero_mul, Nat.add_zero] at c1 c2
    clear hs hn ho1 hr
    go_wp2_with fail
    go_ret2
    exact ⟨by rw [hH.out, hE.out]; rfl, hB1⟩
set_option maxHeartbeats 1000000 in
set_option maxRecDepth 100000 in
theorem Last_calls (l : List Span) (v : Value) (w : World) (h : spansR.rel w (upto w.heap.size) [v] l) (hl : l.length ≤ 1073741824) :
    Calls Tryz.prog 165 #[v] w fun e w' => e = .returned (.tuple #[.int .i64 (lastHi (normF l)), .bool (!(normF l).isEmpty)]) ∧ Below w.heap.size w w' := by
  have hnl := normF_length l
  have hN := Norm_calls l v w h hl
  generalize normF l = m at *
  go_enter Tryz.func165, Tryz.ntmps165
  go_wp2_with fail
  refine hN.mono ?_
  rintro e w1 ⟨x, rfl, ho1, hB1⟩
  have hr := ho1.rel
  obtain ⟨A, c, rfl, hc, hm⟩ := list_form hr
  unfold maxLen at hm
  by_cases hn : m = []
  · subst hn
    clear ho1 hr
    go_wp2_with fail
    go_ret2
    exact ⟨rfl, hB1⟩
  · have h0 : 0 < m.length := List.length_pos_iff.2 hn
    obtain ⟨s, hs⟩ := at_lt (i := m.length - 1) (xs := m) (by omega)
    obtain ⟨b, o, rfl, hb, c1, c2, _, _⟩ := span_at hr hs
    have h1 : ((m.length : Int) == 0) = false := beq_f (by omega)
    have hH : Hid (lastHi m = s.hi) := hid (lastHi_get hs)
    have hE : Hid ((!m.isEmpty) = true) := hid (by simp [hn])
    obtain ⟨j, hj⟩ : ∃ j, j = m.length - 1 := ⟨_, rfl⟩
    rw [← hj] at c1 c2
    have hj1 : (m.length : Int) - 1 = j := by omega
    have hj2 : (j : Int) < m.length := by omega
    clear hs hn ho1 hr hj
    go_wp2_with fail
    go_ret2
    exact ⟨by rw [hH.out, hE.out]; rfl, hB1⟩
set_option maxHeartbeats 1000000 in
set_option maxRecDepth 100000 in
theorem Move_calls (l : List Span) (by_ : Int) (v : Value) (w : World) (h : spansR.rel w (upto w.heap.size) [v] l) (hl : l.length ≤ 1073741824) (hby : -2147483648 ≤ by_ ∧ by_ ≤ 2147483648) :
    Calls Tryz.prog 138 #[v, .int .i64 by_] w fun e w' => ∃ u, e = .returned u ∧ OwnS 75 w' w.heap.size u (moveF l by_) ∧ Below w.heap.size w w' := by
  have hnl := normF_length l
  have hF : Hid (moveF l by_ = normF ((normF l).map (addN by_))) := hid (by unfold moveF; rw [if_neg (by omega)])
  have b1 : ¬ by_ < -2147483648 := by omega
  have b2 : ¬ 2147483648 < by_ := by omega
  have hok := plainFrom_ok (normF_plain l)
  have hN := Norm_calls l v w h hl
  obtain ⟨m, hM⟩ : ∃ m, m = normF l := ⟨_, rfl⟩
  rw [← hM] at hN hok hnl hF
  clear hM
  go_enter Tryz.func138, Tryz.ntmps138
  go_wp2_with fail
  refine hN.mono ?_
  rintro e w1 ⟨x, rfl, ho1, hB1⟩
  obtain ⟨A, c, rfl, hc, hm⟩ := list_form ho1.rel
  unfold maxLen at hm
  go_wp2_with fail
  go_loopw [17] (fun vi wr => ∃ k : Nat, k ≤ m.length ∧ vi = .int .i64 k ∧ OwnS 75 wr w.heap.size (.slice A m.length c) ((m.take k).map (addN by_) ++ m.drop k) ∧ Below w.heap.size w wr) (fun vi _ => m.length - (intOf vi).toNat)
  case atStart => exact ⟨0, Nat.zero_le _, rfl, by simpa using ho1, hB1⟩
  case round =>
    obtain ⟨k, hk, rfl, ho, hB⟩ := hrel
    by_cases hlt : k < m.length
    · obtain ⟨x, hx⟩ := at_lt hlt
      have hlt' : (k : Int) < m.length := by omega
      have hxo := hok x (List.mem_of_getElem? hx)
      unfold okS at hxo
      obtain ⟨row, hrow⟩ : ∃ row, row = (m.take k).map (addN by_) ++ m.drop k := ⟨_, rfl⟩
      rw [← hrow] at ho
      have hrl : row.length = m.length := by rw [hrow]; simp; omega
      have hrx : row[k]? = some x := by rw [hrow, List.getElem?_append_right (by simp; omega)]; simp [Nat.min_eq_left hk]; exact hx
      rw [← hrl] at ho
      obtain ⟨b, o, hA, hb, c1, c2, _, _⟩ := span_at ho.rel hrx
      obtain ⟨g, cap, hg⟩ := own_form ho.1 (by omega)
      simp only [Value.slice.injEq, true_and] at hg
      obtain ⟨rfl, rfl⟩ := hg
      simp only [Option.some.injEq, Addr.mk.injEq, and_true] at hA
      obtain ⟨rfl, rfl⟩ := hA
      simp only [Nat.zero_add] at c1 c2
      have f1 := World.ownsRow.frozenAt ho.1 (k * 2)
      have f2 := World.ownsRow.frozenAt ho.1 (k * 2 + 1)
      have s1 : I64 (x.lo + by_) := ⟨by omega, by omega⟩
      have s2 : I64 (x.hi + by_) := ⟨by omega, by omega⟩
      have ho2 := ho.setLo hrx s1
      have hrx2 : (row.set k ⟨x.lo + by_, x.hi⟩)[k]? = some ⟨x.lo + by_, x.hi⟩ := List.getElem?_set_self (by omega)
      have ho3 := (show OwnS _ _ _ (.slice (some ⟨g, 0, none⟩) (row.set k ⟨x.lo + by_, x.hi⟩).length c) _ by simpa using ho2).setHi hrx2 s2
      have hfin : Hid (OwnS 75 ((wr.setCell ⟨g, k * 2, none⟩ (.int .i64 (x.lo + by_))).setCell ⟨g, k * 2 + 1, none⟩ (.int .i64 (x.hi + by_))) w.heap.size (.slice (some ⟨g, 0, none⟩) m.length c) ((m.take (k + 1)).map (addN by_) ++ m.drop (k + 1))) := hid (by
        have e : (row.set k ⟨x.lo + by_, x.hi⟩).set k ⟨x.lo + by_, x.hi + by_⟩ = (m.take (k + 1)).map (addN by_) ++ m.drop (k + 1) := by
          rw [List.set_set, hrow, drop_cons hx, take_snoc hx, List.map_append, List.append_assoc, List.set_append_right _ _ (by simp; omega)]
          simp [Nat.min_eq_left hk, addN]
        rw [e] at ho3
        simpa [hrl] using ho3)
      have hgw : w.heap.size ≤ g := (ho.1.lt g rfl).1
      have W1 : Hid (wrap64 (x.lo + by_) = x.lo + by_) := hid (IntWalk.wrap64_in _ ⟨by omega, by omega⟩)
      have W2 : Hid (wrap64 (x.hi + by_) = x.hi + by_) := hid (IntWalk.wrap64_in _ ⟨by omega, by omega⟩)
      clear hx hxo hrx ho2 hrx2 ho3 hrow ho hrl
      go_wp2_with fail
      go_roundw
      case rel => exact ⟨k + 1, by omega, by push_cast; rfl, by rw [W1.out, W2.out]; exact hfin.out, (hB.setCell hgw _).setCell hgw _⟩
      case measure => simp [intOf]; omega
    · obtain rfl : k = m.length := by omega
      have hr := ho.rel
      rw [List.drop_length, List.append_nil, List.take_length] at hr
      clear ho
      go_wp2_with fail
      refine (Norm_calls _ _ _ (by simpa using hr) (by simp; omega)).mono ?_
      rintro e w3 ⟨y, rfl, ho3, hB3⟩
      go_wp2_with fail
      go_ret
      exact ⟨_, rfl, by rw [hF.out]; exact ho3.base hB.size, hB.trans (hB3.mono hB.size)⟩
end Go.Proofs.YthfcbbdghggefaaGreat
namespace Go.Um
theorem plain_len_from {last n : Int} {l : List Span} (h : plainFrom last l = true) (hn : ∀ s ∈ l, s.hi ≤ n) (hl : l ≠ []) : last + 2 * l.length ≤ n := by
  induction l generalizing last with
  | nil => exact absurd rfl hl
  | cons s r ih =>
    obtain ⟨h1, h2⟩ := plainFrom_cons.1 h
    have h3 := hn s (List.mem_cons_self ..)
    cases r with
    | nil => simp; omega
    | cons t u =>
      have := ih h2 (fun x hx => hn x (List.mem_cons_of_mem _ hx)) (by simp)
      simp only [List.length_cons] at this ⊢
      omega
theorem plain_len {n : Nat} {l : List Span} (h : plain l = true) (hn : inB n l) : l.length ≤ n + 1 := by
  cases l with
  | nil => simp
  | cons s r =>
    obtain ⟨h1, h2⟩ := plainFrom_cons.1 h
    have h3 := hn s (List.mem_cons_self ..)
    cases r with
    | nil => simp
    | cons t u =>
      have := plain_len_from h2 (fun x hx => (hn x (List.mem_cons_of_mem _ hx)).2) (by simp)
      simp only [List.length_cons] at this ⊢
      omega
theorem plusFold_len {b : List Span} {n m : Int} {K : Nat} (hb : neL b) (hbn : inB m b) (hnm : n + m + 1 ≤ K) (hnm2 : n + m ≤ 1073741824) (hnm0 : 0 ≤ n + m) (hK : 65536 ≤ K) {a : List Span} : ∀ {out : List Span}, neL a → inB n a → neL out → inB (n + m) out → out.length ≤ K → (a.foldl (plusStep b) out).length ≤ K := by
  induction a with
  | nil => intro out _ _ _ _ h; exact h
  | cons x r ih =>
    intro out ha hn h1 h2 h3
    obtain ⟨s1, s2, s3⟩ := plusStep_spec hb h1 (ha x (List.mem_cons_self ..)) hbn (hn x (List.mem_cons_self ..)) h2 hnm2
    refine ih (fun s hs => ha s (List.mem_cons_of_mem _ hs)) (fun s hs => hn s (List.mem_cons_of_mem _ hs)) s1 s2 ?_
    unfold plusStep at s2 ⊢
    split
    · rename_i hc
      rw [if_pos hc] at s2
      have := plain_len (n := (n + m).toNat) (normF_plain (out ++ b.map (addS x))) (by rw [Int.toNat_of_nonneg hnm0]; exact s2)
      omega
    · omega
end Go.Um
namespace Go.Proofs.YthfcbbdghggefaaGreat
open Go.Proofs Go.Um Go.RowKit
/-- term.plus: the sums of a number of one set and one of another. -/
def plusPart (a b : List Span) (k : Nat) : List Span := (a.take k).foldl (plusStep b) []
theorem plusPart_succ {a b : List Span} {k : Nat} {x : Span} (h : a[k]? = some x) : plusPart a b (k + 1) = plusStep b (plusPart a b k) x := by
  unfold plusPart; rw [take_snoc h, List.foldl_append]; rfl
set_option maxHeartbeats 2000000 in
set_option maxRecDepth 100000 in
theorem plus_calls (a b : List Span) (v u : Value) (w : World) (ha : spansR.rel w (upto w.heap.size) [v] a) (hb : spansR.rel w (upto w.heap.size) [u] b) (hbl : b.length ≤ 3000000) (hal : a.length ≤ 1073741824)
    (hane : neL a) (hbne : neL b) (han : inB 300000000 a) (hbn : inB 300000000 b) :
    Calls Tryz.prog 162 #[v, u] w fun e w' => ∃ z, e = .returned z ∧ OwnS 75 w' w.heap.size z (plusF a b) ∧ Below w.heap.size w w' := by
  obtain ⟨A1, cc1, rfl, hcc1, hmm1⟩ := list_form ha
  obtain ⟨A2, cc2, rfl, hcc2, hmm2⟩ := list_form hb
  unfold maxLen at hmm1 hmm2
  have hF : Hid (plusF a b = normF (plusPart a b a.length)) := hid (by unfold plusF plusPart; rw [List.take_length])
  have hlen : ∀ k, (plusPart a b k).length ≤ 600000001 := fun k => plusFold_len (K := 600000001) hbne hbn (by decide) (by decide) (by decide) (by decide) (fun s hs => hane s (List.mem_of_mem_take hs)) (fun s hs => han s (List.mem_of_mem_take hs)) (fun s hs => by cases hs) (fun s hs => by cases hs) (by simp)
  obtain ⟨inf, hi0, hz0, hz1, hz2⟩ := info_parts info46
  go_enter Tryz.func162, Tryz.ntmps162
  go_wp2_with fail
  go_loopw [12, 5] (fun vi vo wr => ∃ k : Nat, k ≤ a.length ∧ vi = .int .i64 k ∧ OwnS 75 wr w.heap.size vo (plusPart a b k) ∧ Below w.heap.size w wr) (fun vi _ _ => a.length - (intOf vi).toNat)
  case atStart => exact ⟨0, Nat.zero_le _, rfl, ⟨World.ownsRow_nil _ _ _ _, fun y hy => by cases hy⟩, Below.refl _ _⟩
  case round =>
    obtain ⟨k, hk, rfl, ho, hB⟩ := hrel
    obtain ⟨wo, hwo⟩ : ∃ wo, wo = wr := ⟨_, rfl⟩
    subst hwo
    have hra := spansR.mono (below_cells hB) (fun _ h => h) ha
    have hlk := hlen k
    by_cases hlt : k < a.length
    · obtain ⟨x, hx⟩ := at_lt hlt
      have hlt' : (k : Int) < a.length := by omega
      obtain ⟨bb, o, hA, hbb, c1, c2, x1, x2⟩ := span_at hra hx
      obtain rfl := hA
      have hxb := han x (List.mem_of_getElem? hx)
      have hxn := hane x (List.mem_of_getElem? hx)
      have hst := hid (plusPart_succ (b := b) hx)
      have HO := hid ho
      have HR := hid hx
      clear hx hra ho
      obtain ⟨P, hP⟩ : ∃ P, P = plusPart a b k := ⟨_, rfl⟩
      rw [← hP] at HO hst hlk
      clear hP
      go_wp2_with fail
      go_loopw [18, 5] (fun vi vo wr => ∃ j : Nat, j ≤ b.length ∧ vi = .int .i64 j ∧ OwnS 75 wr w.heap.size vo (P ++ (b.take j).map (addS x)) ∧ Below w.heap.size w wr ∧ wo.heap.size + 1 ≤ wr.heap.size ∧ vo.ownBlock ≠ some wo.heap.size ∧ wr.heap[wo.heap.size]? = some (.cells #[.int .i64 x.lo, .int .i64 x.hi] 75)) (fun vi _ _ => b.length - (intOf vi).toNat)
      case atStart =>
        exact ⟨0, Nat.zero_le _, rfl, by simpa using (show OwnS _ _ _ _ _ from ⟨HO.out.1.alloc _, HO.out.2⟩), hB.alloc hB.size _, by simp, fun h => absurd (HO.out.1.lt _ h).2 (by omega), heap_alloc_new wo _⟩
      case round =>
        obtain ⟨j, hj, rfl, ho, hB2, hsz, hnb, hq⟩ := hrel
        have q1 := cell_of_row wr wo.heap.size 0 _ _ _ hq
        have q2 := cell_of_row wr wo.heap.size 1 _ _ _ hq
        replace q1 : wr.cell? ⟨wo.heap.size, 0, none⟩ = some (.int .i64 x.lo) := q1
        replace q2 : wr.cell? ⟨wo.heap.size, 1, none⟩ = some (.int .i64 x.hi) := q2
        have hrb := spansR.mono (below_cells hB2) (fun _ h => h) hb
        by_cases hjl : j < b.length
        · obtain ⟨y, hy⟩ := at_lt hjl
          have hjl' : (j : Int) < b.length := by omega
          obtain ⟨b2, o2, hA2, hb2, d1, d2, y1, y2⟩ := span_at hrb hy
          obtain rfl := hA2
          have hyb := hbn y (List.mem_of_getElem? hy)
          have hyn := hbne y (List.mem_of_getElem? hy)
          have q1' : ∀ o1, (wr.alloc o1).cell? ⟨wo.heap.size, 0, none⟩ = some (.int .i64 x.lo) := fun o1 => (((Below.refl wr.heap.size wr).alloc (Nat.le_refl _) o1).cell (p := ⟨wo.heap.size, 0, none⟩) (show wo.heap.size < wr.heap.size by omega)).trans q1
          have q2' : ∀ o1, (wr.alloc o1).cell? ⟨wo.heap.size, 1, none⟩ = some (.int .i64 x.hi) := fun o1 => (((Below.refl wr.heap.size wr).alloc (Nat.le_refl _) o1).cell (p := ⟨wo.heap.size, 1, none⟩) (show wo.heap.size < wr.heap.size by omega)).trans q2
          have W1 : Hid (wrap64 (x.lo + y.lo) = x.lo + y.lo) := hid (IntWalk.wrap64_in _ ⟨by omega, by omega⟩)
          have W2 : Hid (wrap64 (x.hi + y.hi) = x.hi + y.hi) := hid (IntWalk.wrap64_in _ ⟨by omega, by omega⟩)
          have hsn : Hid (P ++ (b.take (j + 1)).map (addS x) = (P ++ (b.take j).map (addS x)) ++ [addS x y]) := hid (by rw [take_snoc hy, List.map_append, List.append_assoc]; rfl)
          have hl2 : (P ++ (b.take j).map (addS x)).length ≤ 603000001 := by simp; omega
          have HO2 := hid ho
          clear hy hrb ho
          have hbs : b2 < wr.heap.size := Nat.lt_of_lt_of_le hb2 hB2.size
          have HQ := hid hq
          have HNB := hid hnb
          clear hq hnb
          go_wp2_with (at_builtin; refine Hid.out ?_)
          refine hid ?_
          refine Go.wpList_append_own_at _ rfl _ _ 76 rfl w.heap.size 75 inf _ 2 16 Tryz.underlying76 hi0 hz0 hz1 hz2 rfl (by decide) _ _ _ rfl ((HO2.out.1.alloc _).alloc _) ⟨wr.heap.size + 1, 0, none⟩ 1 1 [.int .i64 (x.lo + y.lo), .int .i64 (x.hi + y.hi)] rfl rfl
            (news_at (w := wr.alloc _) (cs := #[_, _]) (by simp)) (by simp [Value.oneCell']) (by unfold maxLen; omega) (by omega) (by simp; have := hB2.size; omega) ?_
          intro v' w3 hown3 hg3 _ hloc3
          have hB3 : Below w.heap.size wr w3 := (((Below.refl _ wr).alloc hB2.size _).alloc (by simp; have := hB2.size; omega) _).trans (below_grown ((HO2.out.1.alloc _).alloc _) hg3 (Nat.le_refl _) (by simp; have := hB2.size; omega))
          have ho3 : OwnS 75 w3 w.heap.size v' ((P ++ (b.take j).map (addS x)) ++ [addS x y]) := OwnS.push (x := addS x y) hown3 HO2.out.2 ⟨⟨by simp only [addS]; omega, by simp only [addS]; omega⟩, ⟨by simp only [addS]; omega, by simp only [addS]; omega⟩⟩
          rw [← hsn.out] at ho3
          have hq3 : w3.heap[wo.heap.size]? = some (.cells #[.int .i64 x.lo, .int .i64 x.hi] 75) := by
            rw [hg3.block wo.heap.size (by simp; omega) (fun h => HNB.out h.symm)]
            exact ((((Below.refl wr.heap.size wr).alloc (Nat.le_refl _) _).alloc (by simp) _).block wo.heap.size (by omega)).trans HQ.out
          have hnb3 : v'.ownBlock ≠ some wo.heap.size := by
            rcases hloc3 with h | h
            · rw [h]; exact HNB.out
            · rw [h]; simp; omega
          have hsz3 : wo.heap.size + 1 ≤ w3.heap.size := by have := hB3.size; have := hg3.size; simp at this; omega
          clear hown3 hg3 hloc3
          go_wp2_with fail
          refine ⟨⟨j + 1, by omega, by push_cast; rfl, ho3, hB2.trans hB3, hsz3, hnb3, hq3⟩, ?_⟩
          simp [intOf]; omega
        · obtain rfl : j = b.length := by omega
          rw [List.take_length] at ho
          have hpl : (P ++ b.map (addS x)).length ≤ 603000001 := by simp; omega
          have hpe := hst.out
          unfold plusStep at hpe
          by_cases hbig : 65536 < (P ++ b.map (addS x)).length
          · rw [if_pos hbig] at hpe
            have hbig' : (65536 : Int) < ((P ++ b.map (addS x)).length : Nat) := by omega
            obtain ⟨A3, c3, hv3, hc3, hm3⟩ := list_form ho.rel
            subst hv3
            have hN := Norm_calls (P ++ b.map (addS x)) _ wr ho.rel (by omega)
            rw [← hpe] at hN
            obtain ⟨M, hM⟩ : ∃ M, M = plusPart a b (k + 1) := ⟨_, rfl⟩
            rw [← hM] at hN
            have HM := hid hM
            generalize P ++ b.map (addS x) = R at *
            clear hM
            clear hrb hst hpe q1 q2 hq hnb ho HO hlen
            go_wp2_with fail
            refine hN.mono ?_
            rintro e w4 ⟨z, rfl, ho4, hB4⟩
            go_wp2_with fail
            refine ⟨⟨k + 1, by omega, by push_cast; rfl, ?_, hB2.trans (hB4.mono hB2.size)⟩, ?_⟩
            · have := ho4.base hB2.size
              rw [← HM.out]; exact this
            · simp [intOf]; omega
          · rw [if_neg hbig] at hpe
            have hbig' : ¬ (65536 : Int) < ((P ++ b.map (addS x)).length : Nat) := by omega
            have HE := hid hpe
            obtain ⟨R, hR⟩ : ∃ R, R = P ++ b.map (addS x) := ⟨_, rfl⟩
            rw [← hR] at ho HE hbig' 
            obtain ⟨A3, c3, hv3, hc3, hm3⟩ := list_form ho.rel
            subst hv3
            have HO3 := hid ho
            clear hrb hst hpe q1 q2 hq hnb ho HO hlen hpl hbig hR
            go_wp2_with fail
            refine ⟨⟨k + 1, by omega, by push_cast; rfl, by rw [HE.out]; exact HO3.out, hB2⟩, ?_⟩
            simp [intOf]; omega
    · obtain rfl : k = a.length := by omega
      have hN := Norm_calls (plusPart a b a.length) _ wo ho.rel (by omega)
      rw [← hF.out] at hN
      obtain ⟨A3, c3, rfl, hc3, hm3⟩ := list_form ho.rel
      clear hra hlk hlen ho
      go_wp2_with fail
      refine hN.mono ?_
      rintro e w4 ⟨z, rfl, ho4, hB4⟩
      go_wp2_with fail
      go_ret
      exact ⟨_, rfl, ho4.base hB.size, hB.trans (hB4.mono hB.size)⟩
end Go.Proofs.YthfcbbdghggefaaGreat
namespace Go.Um
open Go.RowKit Go.Shelf
theorem cell_of_heap_eq {w w' : World} {p : Addr} (h : w'.heap[p.block]? = w.heap[p.block]?) : w'.cell? p = w.cell? p := by
  unfold World.cell?
  rw [h]
/-- the block of the row that box B holds. -/
def rowB (B : Nat) (W : World) : Option Nat := (W.cell? ⟨B, 0, none⟩).bind Value.ownBlock
def RowOk (B : Nat) (W : World) : Prop := ∀ g, rowB B W = some g → g < W.heap.size
/-- what a round of a body keeps that writes into box B, and into the row that it holds. -/
structure Fr (B : Nat) (W W' : World) : Prop where
  size : W.heap.size ≤ W'.heap.size
  ok : RowOk B W'
  row : ∀ g, rowB B W' = some g → rowB B W = some g ∨ W.heap.size ≤ g
  keep : ∀ (g : Nat) (cs : Array Value) (T : TypeId) (fr : Nat × Nat), W.heap[g]? = some (.cells cs T fr) → g ≠ B → rowB B W ≠ some g → W'.heap[g]? = some (.cells cs T fr)
def Kep (B : Nat) (W W' : World) : Prop := RowOk B W → B < W.heap.size → Fr B W W'
theorem Fr.refl {B : Nat} {W : World} (h : RowOk B W) : Fr B W W := ⟨Nat.le_refl _, h, fun _ h => .inl h, fun _ _ _ _ h _ _ => h⟩
theorem heap_lt {W : World} {g : Nat} {o : Obj} (h : W.heap[g]? = some o) : g < W.heap.size := (Array.getElem?_eq_some_iff.1 h).1
theorem Fr.trans {B : Nat} {A C D : World} (h : Fr B A C) (k : Fr B C D) : Fr B A D where
  size := Nat.le_trans h.size k.size
  ok := k.ok
  row := fun g hg => by
    rcases k.row g hg with h1 | h1
    · exact h.row g h1
    · exact .inr (Nat.le_trans h.size h1)
  keep := fun g cs T fr hc hb hr => k.keep g cs T fr (h.keep g cs T fr hc hb hr) hb fun h1 => by
    rcases h.row g h1 with h2 | h2
    · exact hr h2
    · have := heap_lt hc; omega
theorem Kep.t {B : Nat} {A C D : World} (h : Kep B A C) (k : Kep B C D) : Kep B A D := fun h1 h2 => (h h1 h2).trans (k (h h1 h2).ok (Nat.lt_of_lt_of_le h2 (h h1 h2).size))
theorem rowB_heap {B : Nat} {W W' : World} (h : W'.heap[B]? = W.heap[B]?) : rowB B W' = rowB B W := by
  unfold rowB
  rw [cell_of_heap_eq h]
theorem Kep.b {B : Nat} {w : World} (hB : B < w.heap.size) (W : World) (l : Nat) (o o' : Obj) (hl : w.heap.size ≤ l) (h : W.heap[l]? = some o) (hc : o.isCells = false) (_ : o.isWalk = false) : Kep B W (W.putObj l o') := fun h1 h2 => by
  have hr : rowB B (W.putObj l o') = rowB B W := rowB_heap (World.putObj_heap_other (by omega))
  refine ⟨by simp, fun g hg => ?_, fun g hg => ?_, fun g cs T fr hg hb _ => ?_⟩
  · rw [hr] at hg; have := h1 g hg; simpa using this
  · rw [hr] at hg; exact .inl hg
  · have hne : g ≠ l := fun e => by
      subst e
      rw [h] at hg
      cases hg
      cases hc
    rw [World.putObj_heap_other hne]
    exact hg
theorem Fr.alloc {B : Nat} {W : World} (h : RowOk B W) (hB : B < W.heap.size) (o : Obj) : Fr B W (W.alloc o) := by
  have hr : rowB B (W.alloc o) = rowB B W := rowB_heap (Below.heap_alloc W o B hB)
  refine ⟨by simp, fun g hg => ?_, fun g hg => ?_, fun g cs T fr hg _ _ => ?_⟩
  · rw [hr] at hg; have := h g hg; simp; omega
  · rw [hr] at hg; exact .inl hg
  · exact (Below.heap_alloc W o g (heap_lt hg)).trans hg
/-- where box B holds nil, a reading of other blocks stays. -/
theorem Fr.below {B : Nat} {W W' : World} (h : Fr B W W') (hn : rowB B W = none) {S : Nat → Prop} (hS : ∀ g, S g → g ≠ B ∧ ∃ cs T fr, W.heap[g]? = some (.cells cs T fr)) : ∀ p : Addr, S p.block → W'.cell? p = W.cell? p := fun p hp => by
  obtain ⟨h1, cs, T, fr, h2⟩ := hS p.block hp
  exact cell_of_heap_eq ((h.keep _ cs T fr h2 h1 (by rw [hn]; simp)).trans h2.symm)
theorem eachS_get {s : Span} {j : Nat} (h : s.lo + j ≤ s.hi) : (eachS s)[j]? = some (s.lo + j) := by
  unfold eachS
  rw [List.getElem?_map, List.getElem?_range (by omega)]
  rfl
theorem eachS_drop {s : Span} {j : Nat} (h : s.lo + j ≤ s.hi) : (eachS s).drop j = (s.lo + j) :: (eachS s).drop (j + 1) := drop_cons (eachS_get h)
theorem eachS_end {s : Span} {j : Nat} (h : ¬ s.lo + j ≤ s.hi) : (eachS s).drop j = [] := by
  apply List.drop_eq_nil_of_le
  unfold eachS
  simp
  omega
theorem eachL_cons (s : Span) (l : List Span) : eachL (s :: l) = eachS s ++ eachL l := rfl
end Go.Um
namespace Go.Proofs.YthfcbbdghggefaaGreat
open Go.Proofs Go.Um Go.RowKit Go.Shelf
attribute [local go_sem] Oper.semAt_some
set_option maxRecDepth 100000 in
set_option maxHeartbeats 2000000 in
theorem each1_in (F : Fence) (n : Nat) (hF : F.fn 153) (hro : F.round = none) (hn : 1 ≤ n) (l Bs B : Nat) (s : List Span) (v : Value) (J Jx : List Int → World → Prop)
    (hY : ∀ pre x W, x ∈ eachL s → J pre W → pre.length < (eachL s).length → YieldAt F (n - 1) Tryz.prog l #[.int .i64 x] W fun e W' =>
      (e = .returned (.bool true) ∧ J (pre ++ [x]) W' ∧ Kep B W W') ∨ (e = .returned (.bool false) ∧ Jx (pre ++ [x]) W'))
    (hJ : ∀ pre W o, J pre W → J pre (W.alloc o))
    (W : World) (hB : B < W.heap.size) (hrow : rowB B W = none) (S : Nat → Prop) (hS : ∀ g, S g → g ≠ B ∧ ∃ cs T fr, W.heap[g]? = some (.cells cs T fr)) (hBs : W.cell? ⟨Bs, 0, none⟩ = some v) (hr : spansR.rel W S [v] s)
    (hb : ∀ x ∈ s, -1000000000000 ≤ x.lo ∧ x.hi ≤ 1000000000000) (h0 : J [] W) :
    CallsIn F n Tryz.prog 153 #[.func (.yield l) #[] #[], .pointer (some ⟨Bs, 0, none⟩)] W fun e W' => (∃ v, e = .returned v) ∧
      ((∃ ys, ys = eachL s ∧ J ys W') ∨ (∃ pre, pre <+: eachL s ∧ Jx pre W')) := by
  obtain ⟨A, c, rfl, hc, hm⟩ := list_form hr
  unfold maxLen at hm
  have hok0 : RowOk B W := fun g hg => by rw [hrow] at hg; cases hg
  refine callsIn_of_wp Tryz.func153 rfl hF ?_ hro
  simp only [Tryz.ntmps153, List.size_toArray, List.length_cons, List.length_nil, Nat.reduceAdd, Nat.reduceSub, Array.replicate_succ, Array.replicate_zero, List.push_toArray, List.append_toArray, List.nil_append, List.cons_append]
  gi_wp2
  gi_loopw [8] (fun i wr => ∃ (k : Nat) (pre : List Int), k ≤ s.length ∧ i = .int .i64 k ∧ Hid (eachL s = pre ++ eachL (s.drop k)) ∧ J pre wr ∧ Fr B W wr)
    (fun i _ => s.length - (intOf i).toNat)
  case atStart => exact ⟨0, [], Nat.zero_le _, rfl, hid rfl, h0, Fr.refl hok0⟩
  case round =>
    obtain ⟨k, pre, hk, rfl, HE, hJs, hfr⟩ := hrel
    obtain ⟨wo, hwo⟩ : ∃ wo, wo = wr := ⟨_, rfl⟩
    subst hwo
    have hrr := spansR.mono (hfr.below hrow hS) (fun _ h => h) hr
    by_cases hlt : k < s.length
    · obtain ⟨x, hx⟩ := at_lt hlt
      obtain ⟨b, o, rfl, hbS, c1, c2, x1, x2⟩ := span_at hrr hx
      have hlt' : (k : Int) < s.length := by omega
      have hxb := hb x (List.mem_of_getElem? hx)
      have HE2 : Hid (eachL s = pre ++ (eachS x ++ eachL (s.drop (k + 1)))) := hid (by rw [HE.out, drop_cons hx]; rfl)
      clear HE hx hrr
      have hbox0 : rowB B wo ≠ some wo.heap.size := fun h => by have := hfr.ok _ h; omega
      have hBr : B < wo.heap.size := Nat.lt_of_lt_of_le hB hfr.size
      gi_wp2
      have hfa := Fr.alloc hfr.ok hBr (.cells #[.int .i64 x.lo, .int .i64 x.hi] 75)
      have hja := hJ pre wo (.cells #[.int .i64 x.lo, .int .i64 x.hi] 75) hJs
      have hba := heap_alloc_new wo (.cells #[.int .i64 x.lo, .int .i64 x.hi] 75)
      have hra : rowB B (wo.alloc (.cells #[.int .i64 x.lo, .int .i64 x.hi] 75)) ≠ some wo.heap.size := by
        rw [rowB_heap (Below.heap_alloc wo _ B hBr)]; exact hbox0
      generalize wo.alloc (.cells #[.int .i64 x.lo, .int .i64 x.hi] 75) = wa at *
      gi_loopw [5] (fun i wq => ∃ (j : Nat) (pj : List Int), i = .int .i64 (x.lo + j) ∧ (x.lo + j ≤ x.hi + 1 ∨ j = 0) ∧ Hid (eachL s = pj ++ ((eachS x).drop j ++ eachL (s.drop (k + 1)))) ∧ J pj wq ∧ Fr B wa wq)
        (fun i _ => (x.hi + 1 - intOf i).toNat)
      case atStart => exact ⟨0, pre, by simp, .inr rfl, HE2, hja, Fr.refl hfa.ok⟩
      case round =>
        obtain ⟨j, pj, rfl, hjb, HJ, hJj, hfq⟩ := hrel
        have hbq := hfq.keep _ _ _ _ hba (by omega) hra
        have q1 : wr.cell? ⟨wo.heap.size, 0, none⟩ = some (.int .i64 x.lo) := cell_of_row _ _ 0 _ _ _ hbq
        have q2 : wr.cell? ⟨wo.heap.size, 1, none⟩ = some (.int .i64 x.hi) := cell_of_row _ _ 1 _ _ _ hbq
        by_cases hin : x.lo + j ≤ x.hi
        · have HJ2 : Hid (eachL s = pj ++ (x.lo + j) :: ((eachS x).drop (j + 1) ++ eachL (s.drop (k + 1)))) := hid (by rw [HJ.out, eachS_drop hin]; rfl)
          obtain ⟨fn, tmps, assign, body, hy, hR⟩ := hY pj (x.lo + j) wr (by rw [HJ2.out]; simp) hJj (by rw [HJ2.out]; simp)
          have hokq := hfq.ok
          have hBq : B < wr.heap.size := Nat.lt_of_lt_of_le (Nat.lt_of_lt_of_le hBr hfa.size) hfq.size
          clear HJ
          gi_wp2
          refine hR.mono ?_
          rintro e W3 (⟨rfl, hJ3, hk3⟩ | ⟨rfl, hJx3⟩)
          · have hf3 := hk3 hokq hBq
            gi_wp2
            go_roundw
            case rel => exact ⟨j + 1, pj ++ [x.lo + j], by push_cast; rw [Int.add_assoc], .inl (by push_cast; omega), hid (by rw [HJ2.out]; simp), hJ3, hfq.trans hf3⟩
            case measure => simp [intOf]; omega
          · gi_wp2
            refine bodyPost_ret (results_none rfl _ _ _) rfl ?_
            exact ⟨⟨_, rfl⟩, .inr ⟨_, by rw [HJ2.out]; exact ⟨(eachS x).drop (j + 1) ++ eachL (s.drop (k + 1)), by simp⟩, hJx3⟩⟩
        · have HJ2 : Hid (eachL s = pj ++ eachL (s.drop (k + 1))) := hid (by rw [HJ.out, eachS_end hin]; rfl)
          clear HJ
          gi_wp2
          go_roundw
          case rel => exact ⟨k + 1, pj, by omega, by push_cast; rfl, HJ2, hJj, (hfr.trans hfa).trans hfq⟩
          case measure => simp [intOf]; omega
    · obtain rfl : k = s.length := by omega
      have HE2 : Hid (pre = eachL s) := hid (by rw [HE.out, List.drop_length]; simp [eachL])
      clear HE hrr
      gi_wp2
      go_end0
      exact ⟨⟨_, rfl⟩, .inl ⟨_, HE2.out, hJs⟩⟩
end Go.Proofs.YthfcbbdghggefaaGreat
namespace Go.Proofs.YthfcbbdghggefaaGreat
open Go.Proofs Go.Um Go.RowKit Go.Shelf
set_option maxHeartbeats 1000000 in
set_option maxRecDepth 100000 in
theorem Each_calls (l : List Span) (v : Value) (w : World) (h : spansR.rel w (upto w.heap.size) [v] l) (hl : l.length ≤ 1073741824) :
    Calls Tryz.prog 133 #[v] w fun e w' => ∃ x Bs, e = .returned (.func (.func 153) #[] #[.pointer (some ⟨Bs, 0, none⟩)]) ∧ w'.heap[Bs]? = some (.cells #[x] 76) ∧ w.heap.size ≤ Bs ∧
      OwnS 75 w' w.heap.size x (normF l) ∧ Below w.heap.size w w' := by
  have hN := Norm_calls l v w h hl
  generalize normF l = m at *
  go_enter Tryz.func133, Tryz.ntmps133
  go_wp2_with fail
  refine hN.mono ?_
  rintro e w1 ⟨x, rfl, ho1, hB1⟩
  obtain ⟨A, c, rfl, hc, hm⟩ := list_form ho1.rel
  go_wp2_with fail
  go_ret
  exact ⟨_, _, rfl, heap_alloc_new w1 _, hB1.size, ⟨ho1.1.alloc _, ho1.2⟩, hB1.alloc hB1.size _⟩
theorem own_block {w : World} {base : Nat} {e : TypeId} {v : Value} {xs : List Span} (h : OwnS e w base v xs) : ∀ g, v.ownBlock = some g → base ≤ g ∧ ∃ cs T fr, w.heap[g]? = some (.cells cs T fr) := by
  intro g hg
  rcases h.1.2 with ⟨rfl, _⟩ | ⟨g', cap, cur, rfl, hb, hh, _⟩
  · cases hg
  · simp [Value.ownBlock] at hg
    subst hg
    exact ⟨hb, _, _, _, hh⟩
theorem each_stops (F : Fence) (n : Nat) (hF : F.fn 153) (hro : F.round = none) (hn : 1 ≤ n) (Bs B base : Nat) (s : List Span) (x : Value) (w : World) (hB : B < w.heap.size) (hrow : rowB B w = none) (hBs : w.heap[Bs]? = some (.cells #[x] 76))
    (ho : OwnS 75 w base x s) (hbase : B < base) (hb : ∀ y ∈ s, -1000000000000 ≤ y.lo ∧ y.hi ≤ 1000000000000) :
    SeqStopsK F n Tryz.prog 153 #[.pointer (some ⟨Bs, 0, none⟩)] (fun z : { z : Int // z ∈ eachL s } => #[Value.int .i64 z.1]) (Kep B) (fun ys => ys.map Subtype.val = eachL s) (fun pre => pre.map Subtype.val <+: eachL s) (eachL s).length w := fun l J Jx W hW hJ _ hY h0 => by
  have hBW : W.heap[B]? = w.heap[B]? := hW.block B hB
  have hlt : Bs < w.heap.size := heap_lt hBs
  have hc : W.cell? ⟨Bs, 0, none⟩ = some x := (hW.cell (p := ⟨Bs, 0, none⟩) hlt).trans (cell_of_row w Bs 0 _ _ _ hBs)
  have hS : ∀ g, (fun g => x.ownBlock = some g) g → g ≠ B ∧ ∃ cs T fr, W.heap[g]? = some (.cells cs T fr) := fun g hg => by
    obtain ⟨h1, cs, T, fr, h2⟩ := own_block ho g hg
    exact ⟨by omega, cs, T, fr, (hW.block g (heap_lt h2)).trans h2⟩
  have hr : spansR.rel W (fun g => x.ownBlock = some g) [x] s := spansR.mono (fun p hp => by
    obtain ⟨h1, cs, T, fr, h2⟩ := own_block ho p.block hp
    exact cell_of_heap_eq (hW.block p.block (heap_lt h2))) (fun _ h => h) (ho.rel_in fun g hg => hg)
  refine (each1_in F n hF hro hn l Bs B s x (fun pre W => ∃ pa : List { z : Int // z ∈ eachL s }, pa.map Subtype.val = pre ∧ J pa W) (fun pre W => ∃ pa : List { z : Int // z ∈ eachL s }, pa.map Subtype.val = pre ∧ Jx pa W)
    (fun pre z W' hz hj hl => by
      obtain ⟨pa, rfl, hj⟩ := hj
      obtain ⟨fn, tmps, assign, body, hy, hR⟩ := hY pa ⟨z, hz⟩ W' hj (by simpa using hl)
      refine ⟨fn, tmps, assign, body, hy, hR.mono ?_⟩
      rintro e W3 (⟨rfl, h1, h2⟩ | ⟨rfl, h1⟩)
      · exact .inl ⟨rfl, ⟨_, by simp, h1⟩, h2⟩
      · exact .inr ⟨rfl, _, by simp, h1⟩)
    (fun pre W' o hj => by
      obtain ⟨pa, h1, h2⟩ := hj
      exact ⟨pa, h1, hJ pa W' _ none h2 (World.grownBy_alloc W' o none) (fun r e => by cases e)⟩) W (Nat.lt_of_lt_of_le hB hW.size) ((rowB_heap hBW).trans hrow) _ hS hc hr hb ⟨[], rfl, h0⟩).mono ?_
  rintro e W' ⟨he, ⟨ys, rfl, pa, h1, h2⟩ | ⟨pre, h1, pa, rfl, h2⟩⟩
  · exact ⟨he, .inl ⟨pa, h1, h2⟩⟩
  · exact ⟨he, .inr ⟨pa, h1, h2⟩⟩
attribute [local go_sem] Oper.semAt_some
set_option maxHeartbeats 1000000 in
/-- a range over what span.Each has handed back, at the wide fence. -/
theorem range_each {g : Operand} {p1 d1 id tt : Nat} {pos : String} {body : Code} {Q : Exit → Act → World → Prop} {a : Act} {w : World} {Bs B base : Nat} {s : List Span} {x : Value}
    (hg : a.eval g = .func (.func 153) #[] #[.pointer (some ⟨Bs, 0, none⟩)]) (hp : p1 < a.tmps.size) (hd : a.defers = []) (hB : B < w.heap.size) (hrow : rowB B w = none) (hBs : w.heap[Bs]? = some (.cells #[x] 76))
    (ho : OwnS 75 w base x s) (hbase : B < base) (hb : ∀ y ∈ s, -1000000000000 ≤ y.lo ∧ y.hi ≤ 1000000000000)
    (I : List { z : Int // z ∈ eachL s } → World → Prop) (hI : OwnFrom w.heap.size I) (h0 : I [] w)
    (hbody : ∀ (l : Nat) (pre : List { z : Int // z ∈ eachL s }) (z : { z : Int // z ∈ eachL s }) (W : World), I pre W → pre.length < (eachL s).length →
      body.wpIn (Fence.wide.inRound l) 1 Tryz.prog (ownPostG w.heap.size (Kep B) I (fun _ _ _ => False) (pre ++ [z]) W) { tmps := (a.tmps.setIfInBounds p1 (.int .i64 z.1)).setIfInBounds d1 (.int .i64 z.1), defers := [] } W)
    (hdone : ∀ (D : Nat) (xs : List { z : Int // z ∈ eachL s }) (W : World), w.heap.size ≤ D → xs.map Subtype.val = eachL s → I xs W → W.heap[D]? = some (.deferred (some [])) → Q .normal { a with defers := [{ target := .collected D, args := #[] }] } W) :
    (Code.rangeFunc g #[p1] (Code.region id #[{ dst := some d1, op := .assign (.tmp p1), type := tt, pos := pos, after := #[], guard := none }] false) body).wp Tryz.prog Q a w := by
  obtain ⟨tmps, defers⟩ := a
  dsimp only at hd
  subst hd
  refine wpIn_wide.1 (wpIn_rangeFunc_ownG (n := 3) (F := Fence.wide) rfl (by decide) (gf := 153) (lb := #[.pointer (some ⟨Bs, 0, none⟩)]) hg trivial (enters_of Tryz.func153 (by kernel_rfl) rfl)
    (each_stops Fence.wide 2 trivial rfl (by decide) Bs B base s x w hB hrow hBs ho hbase hb) Kep.t (Kep.b hB) (Below.refl _ _) (fun _ => rfl) I (fun _ _ _ => False) hI (fun _ _ _ _ _ hs _ _ => hs) h0
    (fun z => { tmps := (tmps.setIfInBounds p1 (.int .i64 z.1)).setIfInBounds d1 (.int .i64 z.1), defers := [] }) ?assign hbody ?done ?stop)
  case assign =>
    intro l z W K hK
    refine wpIn_region_lit ?_
    have hp' : p1 < tmps.size := hp
    have e : (({ tmps := tmps.setIfInBounds p1 (.int .i64 z.1), defers := [] } : Act).eval (.tmp p1)) = .int .i64 z.1 := by simp [Act.eval, hp']
    rw [show (#[p1].zip #[Value.int .i64 z.1]).foldl (fun t (p, v) => t.setIfInBounds p v) tmps = tmps.setIfInBounds p1 (.int .i64 z.1) by simp]
    gi_wp2
    exact hK
  case done =>
    intro D xs W h1 h2 h3 h4
    exact hdone D xs W h1 h2 h3 h4
  case stop =>
    intro D c pre W _ _ h _
    exact h.elim
end Go.Proofs.YthfcbbdghggefaaGreat
namespace Go.Um
open Go.RowKit
variable {P : Program} {n l : Nat} {ops : Array Oper} {Q : Exit → Act → World → Prop} {md : Region.Mode}
theorem operIn_of_wp {o : Oper} {a : Act} {w : World} {K : Act → World → Prop} (hd : ∀ c, o.op ≠ .defer c) (h : o.wp P a w K Q) : o.wpIn (Fence.wide.inRound l) n P a w K Q := by
  refine ⟨fun _ _ => trivial, ?_⟩
  show o.uponIn _ n P a K Q ((o.semAt (some l) a.eval).run P w)
  rw [Oper.semAt_some l _ _ hd]
  unfold Oper.wp at h
  generalize (execOp a.eval o).run P w = r at h ⊢
  cases r with
  | ok x w' =>
    cases x
    case value => exact h
    case skip => exact h
    case defer => exact h
    case enter => exact ⟨fun hh => (by cases hh), CallsIn.inRound l (callsIn_wide.2 h)⟩
    case row => exact ⟨fun hh => (by cases hh), fun c cs _ => (h c cs).elim fun v h1 => h1.elim fun w' h2 => ⟨v, w', h2.1, stepsIn_wide.2 h2.2⟩⟩
    all_goals exact False.elim h
  | halt x w' =>
    cases x
    all_goals first | exact h | exact False.elim h
theorem anyIn_of_any (hlo : ¬ LetsOut Q) (hd : ∀ (i : Nat) (o : Oper), ops[i]? = some o → ∀ c, o.op ≠ .defer c) : ∀ (f : Nat) (listed : Array Bool) (a : Act) (w : World), wpAny P md ops Q f listed a w → wpAnyIn (Fence.wide.inRound l) n P md ops Q f listed a w := by
  intro f
  induction f with
  | zero => intro listed a w h; exact h
  | succ f ih =>
    intro listed a w h
    refine ⟨h.1, fun i hi => ?_⟩
    have h2 := h.2 i hi
    unfold wpOp at h2
    unfold wpOpIn
    cases ho : ops[i]? with
    | none => rw [ho] at h2; exact ih _ _ _ h2
    | some o =>
      rw [ho] at h2
      simp only at h2 ⊢
      split
      · rename_i hw
        rw [if_pos hw] at h2
        exact Oper.wpIn_mono (fun a w => ih _ a w) (operIn_of_wp (hd i o ho) (h2.resolve_right fun h3 => hlo h3.2))
      · rename_i hw
        rw [if_neg hw] at h2
        exact ⟨fun _ _ => trivial, ih _ _ _ h2⟩
def noDefer : Op → Bool
  | .defer _ => false
  | _ => true
theorem region_round {id last : Nat} {S : World → Prop} {a : Act} {w : World} (hlo : ¬ LetsOut Q) (hm : P.follows .mixedOrders = true) (hd : ops.toList.all (fun o => noDefer o.op) = true)
    (h : anyL P .any ops Q S last ops.size (Array.replicate ops.size false) a w.drew) : (Code.region id ops true).wpIn (Fence.wide.inRound l) n P Q a w := by
  refine wpIn_region_any hm (anyIn_of_any hlo (fun i o ho c hc => ?_) _ _ _ _ (any_of_anyL _ _ _ _ h))
  have h1 := List.all_eq_true.1 hd o (by
    obtain ⟨hi, rfl⟩ := Array.getElem?_eq_some_iff.1 ho
    simp)
  rw [hc] at h1
  cases h1
/-- behind an append within a round, and the store into the box. -/
theorem round_append {W w6 : World} {B Bw : Nat} {t e : TypeId} {v v' : Value} {xs ys : List Span} {tmp : Obj} (hv : Boxed W B t v) (hte : t ≠ e) (hrow : OwnS e W B v xs) (hown : OwnS e w6 B v' ys) (hgrow : (W.alloc tmp).drew.grownBy w6 v.ownBlock)
    (hloc : v'.ownBlock = v.ownBlock ∨ v'.ownBlock = some (W.alloc tmp).drew.heap.size) :
    KeepsFrom Bw W (w6.setCell ⟨B, 0, none⟩ v') ∧ Kep B W (w6.setCell ⟨B, 0, none⟩ v') ∧ Boxed (w6.setCell ⟨B, 0, none⟩ v') B t v' ∧ OwnS e (w6.setCell ⟨B, 0, none⟩ v') B v' ys ∧ Below B W (w6.setCell ⟨B, 0, none⟩ v') := by
  have hg : (W.alloc tmp).grownBy w6 v.ownBlock := ⟨hgrow.os, hgrow.tape, hgrow.output, hgrow.size, hgrow.block⟩
  obtain ⟨h1, h2, h3, h4, h5⟩ := Boxed.appended hv hte hrow.1 (Nat.le_of_lt hv.lt) (Nat.le_refl _) hown.1 hg
  refine ⟨h4.from _, fun _ _ => ?_, h2, ⟨h3, hown.2⟩, h5⟩
  have r1 : rowB B W = v.ownBlock := by unfold rowB; rw [hv.cell]; rfl
  have r2 : rowB B (w6.setCell ⟨B, 0, none⟩ v') = v'.ownBlock := by unfold rowB; rw [h2.cell]; rfl
  have hsz : W.heap.size + 1 ≤ w6.heap.size := by have := hg.size; simpa using this
  refine ⟨by simp; omega, fun g hg' => ?_, fun g hg' => ?_, fun g cs T fr hc hb hr => ?_⟩
  · rw [r2] at hg'
    have := (h3.lt g hg').2
    simpa using this
  · rw [r2] at hg'
    rw [r1]
    rcases hloc with h | h
    · rw [h] at hg'; exact .inl hg'
    · rw [h] at hg'
      simp only [Option.some.injEq] at hg'
      subst hg'
      right
      show W.heap.size ≤ (W.alloc tmp).heap.size
      simp
  · have hgl := heap_lt hc
    rw [r1] at hr
    rw [heap_setCell_other w6 ⟨B, 0, none⟩ g v' hb, hg.block g (by simp; omega) (fun h => hr h.symm)]
    exact (Below.heap_alloc W tmp g hgl).trans hc
end Go.Um
namespace Go.Um
open Go.RowKit
/-- a list of one span, as it was just built. -/
theorem own_new {w : World} {e : TypeId} {x : Span} (hx : x.ok) : OwnS e (w.alloc (.cells #[.int .i64 x.lo, .int .i64 x.hi] e)) w.heap.size (.slice (some ⟨w.heap.size, 0, none⟩) 1 1) [x] := by
  refine ⟨⟨by simp [Span.cells], .inr ⟨w.heap.size, 1, #[.int .i64 x.lo, .int .i64 x.hi], rfl, Nat.le_refl _, heap_alloc_new w _, by simp, by decide, by simp, by simp [Span.cells]⟩⟩, fun y hy => by simp at hy; subst hy; exact hx⟩
theorem eachL_len {last n : Int} {l : List Span} (h : plainFrom last l = true) (hn : ∀ s ∈ l, s.hi ≤ n) (hl : last ≤ n) : ((eachL l).length : Int) ≤ n - last := by
  induction l generalizing last with
  | nil => simp [eachL]; omega
  | cons s r ih =>
    obtain ⟨h1, h2⟩ := plainFrom_cons.1 h
    have h3 := hn s (List.mem_cons_self ..)
    have := ih h2 (fun x hx => hn x (List.mem_cons_of_mem _ hx)) h3
    have e : (eachS s).length = (s.hi - s.lo + 1).toNat := by unfold eachS; simp
    rw [eachL_cons, List.length_append, e]
    omega
theorem plain_low {l : List Span} (h : plain l = true) (h0 : ∀ s ∈ l, 0 ≤ s.lo) : plainFrom (-2) l = true := by
  cases l with
  | nil => rfl
  | cons s r =>
    obtain ⟨h1, h2⟩ := plainFrom_cons.1 h
    have := h0 s (List.mem_cons_self ..)
    exact plainFrom_cons.2 ⟨by omega, h2⟩
theorem OwnS.push2 {e : TypeId} {w : World} {base : Nat} {v : Value} {xs : List Span} {x y : Span} (h : w.ownsRow base e 2 v (xs.length + 2) (xs.flatMap Span.cells ++ [.int .i64 x.lo, .int .i64 x.hi, .int .i64 y.lo, .int .i64 y.hi])) (hx : ∀ y ∈ xs, y.ok) (ho : x.ok) (ho2 : y.ok) : OwnS e w base v (xs ++ [x, y]) := by
  refine ⟨by simpa [Span.cells] using h, fun z hz => ?_⟩
  rcases List.mem_append.1 hz with hz | hz
  · exact hx z hz
  · simp at hz
    rcases hz with rfl | rfl <;> assumption
end Go.Um
namespace Go.Proofs.YthfcbbdghggefaaGreat
open Go.Proofs Go.Um Go.RowKit Go.Shelf
attribute [local go_sem] Oper.semAt_some
set_option maxHeartbeats 4000000 in
set_option maxRecDepth 100000 in
theorem Image_calls (p : Part) (s : List Span) (v : Value) (w : World) (h : spansR.rel w (upto w.heap.size) [v] s) (hl : s.length ≤ 268435456) (hb : bitsF p = true) :
    Calls Tryz.prog 139 #[pval p, v] w fun e w' => ∃ u, e = .returned u ∧ OwnS 75 w' w.heap.size u (imgF p s) ∧ Below w.heap.size w w' := by
  obtain ⟨inf, hi0, hz0, hz1, hz2⟩ := info_parts info46
  have hc := fun W => bits_calls p W
  rw [hb] at hc
  have hbb := bitsF_iff.1 hb
  obtain ⟨A, c, rfl, hcc, hm⟩ := list_form h
  unfold pval at hc ⊢
  have hI : imgN p s = normF (imgRaw (pw p.drop) (pw p.take) (meetF s topS)) := rfl
  have hF : imgF p s = if p.up = 0 then imgN p s else normF (upL (pw p.up) (eachL (imgN p s))) := rfl
  rw [hI] at hF
  have HF := hid hF
  clear hI hF
  obtain ⟨a, d, t, u⟩ := p
  dsimp only at hc hbb HF ⊢
  refine callsIn_wide.1 (callsIn_of_wp_marks (n := 3) Tryz.func139 rfl trivial (wpIn_wide.2 ?_) rfl)
  simp only [Tryz.ntmps139, List.size_toArray, List.length_cons, List.length_nil, Nat.reduceAdd, Nat.reduceSub, Array.replicate_succ, Array.replicate_zero, List.push_toArray, List.append_toArray, List.nil_append, List.cons_append]
  obtain ⟨q1, q2, q3, q4, q5, q6, q7⟩ := hbb
  go_wp2_with fail
  refine (hc _).mono ?_
  rintro e w1 ⟨rfl, hB1⟩
  clear hc
  have hBw1 := ((Below.refl w.heap.size w).alloc (Nat.le_refl _) _).trans (hB1.mono (by simp))
  rw [World.size_alloc] at hB1
  obtain ⟨c0, c1, c2, c3⟩ := box4 hB1
  have hlt1 : w.heap.size < w1.heap.size := by have := hB1.size; simp at this; omega
  have hp1 : w1.heap[w.heap.size]? = some (.cells #[.int .i64 a, .int .i64 d, .int .i64 t, .int .i64 u] 72) := (hB1.block w.heap.size (by omega)).trans (heap_alloc_new w _)
  go_wp2_with fail
  rw [mask_eq q4]
  obtain ⟨mk, hmk⟩ : ∃ mk, mk = pw t - 1 := ⟨_, rfl⟩
  rw [← hmk]
  have HMK := hid hmk
  clear hmk
  have hn1 := own_new (w := w1) (e := 75) (x := ⟨0, 2097151⟩) ⟨⟨by simp, by simp⟩, ⟨by simp, by simp⟩⟩
  dsimp only at hn1
  have hBa := (Below.refl w1.heap.size w1).alloc (Nat.le_refl _) (.cells #[.int .i64 0, .int .i64 2097151] 75)
  have hsa : (w1.alloc (.cells #[.int .i64 0, .int .i64 2097151] 75)).heap.size = w1.heap.size + 1 := by simp
  generalize w1.alloc (.cells #[.int .i64 0, .int .i64 2097151] 75) = wa at *
  have hBwa : Below w.heap.size w wa := hBw1.trans (hBa.mono hBw1.size)
  have hM := Meet_calls s topS _ _ wa (spansR.below h hBwa hBwa.size) hn1.rel (by omega) (by simp [topS])
  have hmp := meetF_plain s topS
  have hml := meetF_length s topS
  have hmb : ∀ x ∈ meetF s topS, 0 ≤ x.lo ∧ x.lo ≤ x.hi ∧ x.hi ≤ 2097151 := fun x hx => by
    have h1 := plain_ne hmp x hx
    have h2 := (inSet_topS.1 (mem_meetF.1 ⟨x, hx, Int.le_refl _, h1⟩).2).1
    have h3 := (inSet_topS.1 (mem_meetF.1 ⟨x, hx, h1, Int.le_refl _⟩).2).2
    exact ⟨h2, h1, h3⟩
  obtain ⟨m, hm'⟩ : ∃ m, m = meetF s topS := ⟨_, rfl⟩
  rw [← hm'] at hM hml hmb HF
  clear hm' hmp hn1 h
  have hml : m.length ≤ 268435457 := by simp [topS] at hml; omega
  refine hM.mono ?_
  rintro e w2 ⟨x2, rfl, ho2, hB2⟩
  have hBw2 : Below w.heap.size w w2 := hBwa.trans (hB2.mono hBwa.size)
  have hp2 : w2.heap[w.heap.size]? = some (.cells #[.int .i64 a, .int .i64 d, .int .i64 t, .int .i64 u] 72) := (hB2.block w.heap.size (by omega)).trans ((hBa.block w.heap.size (by omega)).trans hp1)
  obtain ⟨A2, cc2, rfl, hcc2, hmm2⟩ := list_form ho2.rel
  unfold maxLen at hmm2
  have hlt2 : w.heap.size < w2.heap.size := heap_lt hp2
  clear hM hBa hBwa hB2 hp1 c0 c1 c2 c3 hB1 hBw1
  go_wp2_with fail
  go_loopw [25, 6] (fun vi vo wr => ∃ k : Nat, k ≤ m.length ∧ vi = .int .i64 k ∧ (∀ x ∈ m.take k, wide (pw d) (pw t) x = false) ∧ OwnS 75 wr w2.heap.size vo ((m.take k).flatMap (imgOne (pw d) (pw t))) ∧ Below w2.heap.size w2 wr ∧ ((m.take k).flatMap (imgOne (pw d) (pw t))).length ≤ 2 * k) (fun vi _ _ => m.length - (intOf vi).toNat)
  case atStart => exact ⟨0, Nat.zero_le _, rfl, by simp, ⟨World.ownsRow_nil _ _ _ _, fun y hy => by cases hy⟩, Below.refl _ _, by simp⟩
  case round =>
    obtain ⟨k, hk, rfl, hwd, ho, hB, hlen⟩ := hrel
    have hp := (hB.block w.heap.size hlt2).trans hp2
    obtain ⟨wo, hwo⟩ : ∃ wo, wo = wr := ⟨_, rfl⟩
    subst hwo
    have hr := spansR.mono (below_cells hB) (fun _ h => h) ho2.rel
    by_cases hlt : k < m.length
    · obtain ⟨x, hx⟩ := at_lt hlt
      obtain ⟨b, o, rfl, hbS, s1, s2, y1, y2⟩ := span_at hr hx
      have hlt' : (k : Int) < m.length := by omega
      have hxb := hmb x (List.mem_of_getElem? hx)
      clear hr
      have hbs : b < wo.heap.size := Nat.lt_of_lt_of_le hbS hB.size
      have hpB : w.heap.size < wo.heap.size := heap_lt hp
      have pd : ∀ o1, (wo.alloc o1).cell? ⟨w.heap.size, 1, none⟩ = some (.int .i64 d) := fun o1 => (((Below.refl wo.heap.size wo).alloc (Nat.le_refl _) o1).cell (p := ⟨w.heap.size, 1, none⟩) hpB).trans (cell_of_row _ _ 1 _ _ _ hp)
      have d1 := div_bound (x := x.lo) (d := d) hxb.1 (by omega)
      have d2 := div_bound (x := x.hi) (d := d) (by omega) (by omega)
      have d3 := Int.ediv_le_ediv (pw_pos d) hxb.2.1
      have HP := hid hp
      have HO := hid ho
      have HWD := hid hwd
      have HX := hid hx
      clear hp ho hwd hx
      go_wp2_with fail
      go_quiet (fail)
      simp only [show ∀ z : Int, z / 2 ^ d.toNat = z / pw d from fun _ => rfl]
      have hwdf : wide (pw d) (pw t) x = decide (mk ≤ x.hi / pw d - x.lo / pw d) := by unfold wide; rw [HMK.out]
      have himo : imgOne (pw d) (pw t) x = if x.lo / pw d % pw t ≤ x.hi / pw d % pw t then [⟨x.lo / pw d % pw t, x.hi / pw d % pw t⟩] else [⟨0, x.hi / pw d % pw t⟩, ⟨x.lo / pw d % pw t, mk⟩] := by unfold imgOne; rw [HMK.out]
      have HAL : Hid (bits BinOp.and IntKind.i64 (x.lo / pw d) mk = x.lo / pw d % pw t) := hid (by rw [HMK.out]; exact and_mask d1.1 d1.2 q4)
      have HAH : Hid (bits BinOp.and IntKind.i64 (x.hi / pw d) mk = x.hi / pw d % pw t) := hid (by rw [HMK.out]; exact and_mask d2.1 d2.2 q4)
      obtain ⟨ql, hql⟩ : ∃ ql, ql = x.lo / pw d := ⟨_, rfl⟩
      obtain ⟨qh, hqh⟩ : ∃ qh, qh = x.hi / pw d := ⟨_, rfl⟩
      rw [← hql] at hwdf himo HAL d1 d3 ⊢
      rw [← hqh] at hwdf himo HAH d2 d3 ⊢
      have HQL := hid hql
      have HQH := hid hqh
      clear hql hqh
      by_cases hw : mk ≤ qh - ql
      · rw [decide_eq_true hw] at hwdf
        have HR : Hid (imgRaw (pw d) (pw t) m = [⟨0, mk⟩]) := hid (by unfold imgRaw; rw [if_pos (List.any_eq_true.2 ⟨x, List.mem_of_getElem? HX.out, hwdf⟩), HMK.out])
        rw [HR.out] at HF
        have hmkb : 0 ≤ mk ∧ mk ≤ 2097151 := by have := pw_21 q4; have := pw_pos t; have := HMK.out; omega
        clear hwdf himo
        go_wp2_with fail
        have hn3 := own_new (w := (wo.alloc (.cells #[.int .i64 x.lo, .int .i64 x.hi] 75)).drewN nq) (e := 75) (x := ⟨0, mk⟩) ⟨⟨by simp, by simp⟩, ⟨by dsimp only; omega, by dsimp only; omega⟩⟩
        dsimp only at hn3
        have hB3 : Below w2.heap.size w2 (((wo.alloc (.cells #[.int .i64 x.lo, .int .i64 x.hi] 75)).drewN nq).alloc (.cells #[.int .i64 0, .int .i64 mk] 75)) := (below_drewN (hB.alloc hB.size _) nq).alloc (by simp; have := hB.size; omega) _
        have hz3 : ((wo.alloc (.cells #[.int .i64 x.lo, .int .i64 x.hi] 75)).drewN nq).heap.size = wo.heap.size + 1 := by simp
        rw [hz3] at hn3
        generalize ((wo.alloc (.cells #[.int .i64 x.lo, .int .i64 x.hi] 75)).drewN nq).alloc (.cells #[.int .i64 0, .int .i64 mk] 75) = wt at *
        have HOT := hid (hn3.base (show w2.heap.size ≤ wo.heap.size + 1 by have := hB.size; omega))
        have hpt := (hB3.block w.heap.size hlt2).trans hp2
        have hlt3 : ([⟨0, mk⟩] : List Span).length ≤ 1073741824 := by simp
        obtain ⟨M, hM'⟩ : ∃ M : List Span, M = [⟨0, mk⟩] := ⟨_, rfl⟩
        have HOT2 : Hid (OwnS 75 wt w2.heap.size (.slice (some ⟨wo.heap.size + 1, 0, none⟩) 1 1) M) := hid (by rw [hM']; exact HOT.out)
        rw [← hM'] at HF hlt3
        have hMb : ∀ r, mem M r → 0 ≤ r ∧ r < pw t := fun r hr => by
          rw [hM'] at hr
          have := HMK.out
          simp only [mem_cons, mem_nil, or_false] at hr
          omega
        clear hM' hn3
        have hN := Norm_calls M _ wt HOT2.out.rel hlt3
        refine hN.mono ?_
        rintro e w4 ⟨x4, rfl, ho4, hB4⟩
        clear hN
        have hp4 := (hB4.block w.heap.size (heap_lt hpt)).trans hpt
        have hBw4 : Below w.heap.size w w4 := hBw2.trans ((hB3.trans (hB4.mono hB3.size)).mono hBw2.size)
        have pu : w4.cell? ⟨w.heap.size, 3, none⟩ = some (.int .i64 u) := cell_of_row _ _ 3 _ _ _ hp4
        have hRb : ∀ r, mem (normF M) r → 0 ≤ r ∧ r < pw t := fun r hr => hMb r (mem_normF.1 hr).2
        obtain ⟨R, hR⟩ : ∃ R, R = normF M := ⟨_, rfl⟩
        rw [← hR] at HF ho4 hRb
        have hRp : plain R = true := by rw [hR]; exact normF_plain M
        have hRl : R.length ≤ 1073741824 := by rw [hR]; exact Nat.le_trans (normF_length M) hlt3
        clear hR hMb
        obtain ⟨A4, c4, rfl, hc4, hm4⟩ := list_form ho4.rel
        by_cases hu : u = 0
        · have hu' := beq_t hu
          have HF2 : Hid (imgF ⟨a, d, t, u⟩ s = R) := hid (by rw [HF.out, if_pos hu])
          clear hu HF
          go_wp2_with fail
          refine ⟨_, results_tmp rfl _ _ _, _, rfl, ?_, hBw4⟩
          rw [HF2.out]
          exact ho4.base (Nat.le_trans hBw2.size hB3.size)
        · have hu' := beq_f hu
          have HF2 : Hid (imgF ⟨a, d, t, u⟩ s = normF (upL (pw u) (eachL R))) := hid (by rw [HF.out, if_neg hu])
          clear HF
          have hut : t ≤ 6 := q7.resolve_left hu
          have ht6 := pw_6 hut
          have hRs : ∀ y ∈ R, 0 ≤ y.lo ∧ y.lo ≤ y.hi ∧ y.hi ≤ 63 := fun y hy => by
            have h1 := plain_ne hRp y hy
            have h2 := hRb y.lo ⟨y, hy, Int.le_refl _, h1⟩
            have h3 := hRb y.hi ⟨y, hy, h1, Int.le_refl _⟩
            omega
          have hel := eachL_len (n := 63) (plain_low hRp fun y hy => (hRs y hy).1) (fun y hy => (hRs y hy).2.2) (by decide)
          have hRn : normF R = R := normF_id hRp
          have hpw : 1 ≤ pw u ∧ pw u ≤ 1048576 := ⟨by have := pw_pos u; omega, pw_20 q6⟩
          have hRB : Below w4.heap.size w4 (w4.alloc (.cells #[.slice none 0 0] 76)) := (Below.refl _ w4).alloc (Nat.le_refl _) _
          have hbx := heap_alloc_new w4 (.cells #[.slice none 0 0] 76)
          have hE := Each_calls R (.slice A4 R.length c4) (w4.alloc (.cells #[.slice none 0 0] 76)) (spansR.below ho4.rel hRB hRB.size) hRl
          rw [hRn, World.size_alloc] at hE
          have hlt4 : w.heap.size < w4.heap.size := heap_lt hp4
          have HP4 := hid hp4
          clear hRn hRb hRl ho4 hp4
          go_wp2_with fail
          refine hE.mono ?_
          rintro e w5 ⟨x5, Bs, rfl, hBs, hBsl, ho5, hB5⟩
          have hx5 : w5.heap[w4.heap.size]? = some (.cells #[.slice none 0 0] 76) := (hB5.block w4.heap.size (by omega)).trans hbx
          have hB45 : Below w4.heap.size w4 w5 := hRB.trans (hB5.mono (Nat.le_succ _))
          clear hE hbx hRB hB5
          go_wp2_with fail
          refine range_each (Bs := Bs) (B := w4.heap.size) (base := w4.heap.size + 1) (s := R) (x := x5) rfl (by simp) rfl (heap_lt hx5) (by unfold rowB; rw [show w5.cell? ⟨w4.heap.size, 0, none⟩ = some (.slice none 0 0) from cell_of_row _ _ 0 _ _ _ hx5]; rfl) hBs ho5 (Nat.lt_succ_self _) (fun y hy => by have := hRs y hy; omega)
            (fun pre W => (∃ v, Boxed W w4.heap.size 76 v ∧ W.ownsRow w4.heap.size 75 2 v (upL (pw u) (pre.map Subtype.val)).length ((upL (pw u) (pre.map Subtype.val)).flatMap Span.cells) ∧ ∀ y ∈ upL (pw u) (pre.map Subtype.val), y.ok) ∧ Below w4.heap.size w4 W)
            (OwnFrom.and (Own.from (holdsRow_own w4.heap.size w4.heap.size 76 75 2 (fun pre : List { z : Int // z ∈ eachL R } => (upL (pw u) (pre.map Subtype.val)).length) (fun pre => (upL (pw u) (pre.map Subtype.val)).flatMap Span.cells) (fun pre _ => ∀ y ∈ upL (pw u) (pre.map Subtype.val), y.ok)) _) (ownFrom_below (Nat.le_refl _) hB45.size))
            ⟨⟨_, hx5, World.ownsRow_nil _ _ _ _, fun y hy => by cases hy⟩, hB45⟩ ?body ?done
          case body =>
            rintro l pre ⟨z, hz⟩ W ⟨⟨v, hv, hrow, hyok⟩, hBW⟩ hlt
            have hzb : 0 ≤ z ∧ z ≤ 63 := by
              obtain ⟨y, hy, h1, h2⟩ := mem_eachL.1 hz
              have := hRs y hy
              omega
            have hzu : 0 ≤ z * pw u ∧ z * pw u ≤ 66060288 := by
              have h1 : z * pw u ≤ 63 * 1048576 := Int.mul_le_mul hzb.2 hpw.2 (by omega) (by decide)
              exact ⟨Int.mul_nonneg hzb.1 (by omega), by omega⟩
            have HZ : Hid (wrap64 (z * 2 ^ u.toNat) = z * pw u) := hid (by
              rw [show (2 : Int) ^ u.toNat = pw u from rfl]
              exact IntWalk.wrap64_in _ ⟨by omega, by omega⟩)
            have hpl : (upL (pw u) (pre.map Subtype.val)).length = pre.length := by simp [upL]
            have hsnoc : upL (pw u) ((pre ++ [(⟨z, hz⟩ : { z : Int // z ∈ eachL R })]).map Subtype.val) = upL (pw u) (pre.map Subtype.val) ++ [⟨z * pw u, z * pw u⟩] := by simp [upL]
            have hpW : W.heap[w.heap.size]? = some (.cells #[.int .i64 a, .int .i64 d, .int .i64 t, .int .i64 u] 72) := (hBW.block w.heap.size hlt4).trans HP4.out
            have hpc : W.cell? ⟨w.heap.size, 3, none⟩ = some (.int .i64 u) := cell_of_row _ _ 3 _ _ _ hpW
            have hvc := hv.cell
            have hvf := hv.frozen
            have hBsz : w4.heap.size < W.heap.size := hv.lt
            obtain ⟨U, hU⟩ : ∃ U, U = upL (pw u) (pre.map Subtype.val) := ⟨_, rfl⟩
            rw [← hU] at hrow hyok hpl hsnoc
            obtain ⟨A6, c6, rfl, hc6, hm6⟩ := list_form (show OwnS 75 W w4.heap.size v U from ⟨hrow, hyok⟩).rel
            have HU := hid hU
            have hUl : U.length ≤ 100 := by omega
            clear hU hpl
            simp only [List.setIfInBounds_toArray, List.set_cons_succ, List.set_cons_zero]
            refine wpIn_block ?_
            obtain ⟨ι, Wc, ⟨i0, hi0⟩, hWc, Wsur⟩ := held_class W.drew (fun g => g = w4.heap.size ∨ g = w.heap.size)
            have hne : Nonempty ι := ⟨i0⟩
            have M0 : ∀ i, (Wc i).cell? ⟨w4.heap.size, 0, none⟩ = some (.slice A6 U.length c6) := fun i => (cell_of_heap_eq (p := ⟨w4.heap.size, 0, none⟩) (hWc i _ (.inl rfl))).trans hvc
            have M1 : ∀ i, (Wc i).cell? ⟨w.heap.size, 3, none⟩ = some (.int .i64 u) := fun i => (cell_of_heap_eq (p := ⟨w.heap.size, 3, none⟩) (hWc i _ (.inr rfl))).trans hpc
            have WS := hid Wsur; clear Wsur
            clear hWc
            have Hi0 := hid hi0; clear hi0
            refine region_round (S := fun w' => ∃ i, w' = Wc i) (last := 12) (fun ⟨_, _, h⟩ => h) (by kernel_rfl) (by kernel_rfl) ?_
            refine anyL_seg 0 10 (by kernel_rfl) (fun _ _ _ _ _ h => h) ⟨i0, Hi0.out.symm⟩ (f := 3) rfl (by kernel_rfl) (by kernel_rfl) ?_
            simp only [List.drop_zero, List.take_succ_cons, List.take_zero]
            repeat go_big_quiet_step (fail)
            refine wpQuiet_nil ?_
            rw [HZ.out]
            refine anyL_act (i := 10) (by kernel_rfl) rfl rfl ?_
            intro K hK
            go_wp2_with fail
            have hS1 : ∃ i, (W.alloc (.cells #[.int .i64 (z * pw u), .int .i64 (z * pw u)] 75)).drew = Wc i := WS.out _ (fun g hg => Below.heap_alloc _ _ _ (by rcases hg with rfl | rfl <;> omega))
            refine hK.out _ _ (fun _ => hS1) ?_
            clear hK K
            refine anyL_act (i := 11) (by kernel_rfl) rfl rfl ?_
            intro K hK
            have hv1 : ((W.alloc (.cells #[.int .i64 (z * pw u), .int .i64 (z * pw u)] 75)).drew).ownsRow w4.heap.size 75 2 (.slice A6 U.length c6) U.length (U.flatMap Span.cells) := hrow.alloc _
            refine act_append_at _ _ 76 rfl w4.heap.size 75 inf _ 2 16 Tryz.underlying76 hi0 hz0 hz1 hz2 rfl (by decide) (.slice A6 U.length c6) U.length _ rfl hv1 ⟨W.heap.size, 0, none⟩ 1 1 [.int .i64 (z * pw u), .int .i64 (z * pw u)] rfl rfl (news_at (w := W) (cs := #[_, _]) rfl) (by simp [Value.oneCell']) (by unfold maxLen; omega) (by omega) (by simp; omega) ?_
            intro v' w6 hown' hgrow _ hloc
            have hw6 : W.heap.size + 1 ≤ w6.heap.size := by have := hgrow.size; simpa using this
            have hnB : ∀ g, (g = w4.heap.size ∨ g = w.heap.size) → w6.heap[g]? = W.heap[g]? := fun g hg => by
              have hgl : g < W.heap.size := by rcases hg with rfl | rfl <;> omega
              rw [hgrow.block g (by simp; omega) (fun h => ?_)]
              · exact Below.heap_alloc _ _ _ hgl
              · rcases hg with rfl | rfl
                · exact own_ne (g := w4.heap.size) hrow (e' := 76) hv (by decide) h.symm
                · exact own_ne (g := w.heap.size) hrow (e' := 72) hpW (by decide) h.symm
            have hS2 : ∃ i, w6 = Wc i := WS.out _ (fun g hg => hnB g hg)
            refine hK.out _ _ (fun _ => hS2) ?_
            clear hK K
            obtain ⟨A7, c7, rfl, hc7, hm7⟩ := list_form (show OwnS 75 w6 w4.heap.size v' (U ++ [⟨z * pw u, z * pw u⟩]) from OwnS.push (x := ⟨z * pw u, z * pw u⟩) hown' hyok ⟨⟨by dsimp only; omega, by dsimp only; omega⟩, ⟨by dsimp only; omega, by dsimp only; omega⟩⟩).rel
            have hv6 : Boxed w6 w4.heap.size 76 (.slice A6 U.length c6) := (hnB _ (.inl rfl)).trans hv
            have h6c := hv6.cell
            have h6f := hv6.frozen
            refine anyL_act (i := 12) (by kernel_rfl) rfl rfl ?_
            intro K hK
            go_wp2_with fail
            refine hK.out _ _ (fun h => absurd rfl h) ?_
            clear hK K
            refine anyL_done (by kernel_rfl) ?_ _
            have hRA := round_append (Bw := w5.heap.size) hv (by decide) (⟨hrow, hyok⟩ : OwnS 75 W w4.heap.size (.slice A6 U.length c6) U) (OwnS.push (x := ⟨z * pw u, z * pw u⟩) hown' hyok ⟨⟨by dsimp only; omega, by dsimp only; omega⟩, ⟨by dsimp only; omega, by dsimp only; omega⟩⟩) hgrow hloc
            obtain ⟨r1, r2, r3, r4, r5⟩ := hRA
            have hlen7 : (U ++ [(⟨z * pw u, z * pw u⟩ : Span)]).length = U.length + 1 := by simp
            rw [hlen7] at r1 r2 r3 r4 r5
            exact ⟨r1, r2, ⟨_, r3, by rw [hsnoc]; exact r4.1, by rw [hsnoc]; exact r4.2⟩, hBW.trans r5⟩
          case done =>
            rintro D ys W hD hys ⟨⟨v, hv, hrow, hyok⟩, hBW⟩ hK
            rw [hys] at hrow hyok
            have hvc := hv.cell
            have hUl : (upL (pw u) (eachL R)).length ≤ 1073741824 := by simp [upL]; omega
            obtain ⟨U, hU⟩ : ∃ U, U = upL (pw u) (eachL R) := ⟨_, rfl⟩
            rw [← hU] at hrow hyok hUl HF2
            clear hU
            have hN := Norm_calls U v W (show OwnS 75 W w4.heap.size v U from ⟨hrow, hyok⟩).rel hUl
            rw [← HF2.out] at hN
            obtain ⟨A6, c6, rfl, hc6, hm6⟩ := list_form (show OwnS 75 W w4.heap.size v U from ⟨hrow, hyok⟩).rel
            have HK := hid hK
            clear hrow hyok hys hK
            go_wp2_with fail
            refine hN.mono ?_
            rintro e w8 ⟨x8, rfl, ho8, hB8⟩
            go_wp2_with fail
            have hK8 : w8.heap[D]? = some (.deferred (some [])) := (hB8.block D (heap_lt HK.out)).trans HK.out
            have hBw8 : Below w.heap.size w w8 := hBw4.trans ((hBW.trans (hB8.mono (Nat.le_of_lt hv.lt))).mono hBw4.size)
            refine ⟨by simp, .inl ⟨_, _, rfl, run_takeDeferred hK8, ?_⟩⟩
            refine ⟨_, results_tmp rfl _ _ _, _, rfl, ⟨ownsRow_putObj (ownsRow_base ho8.1 (Nat.le_trans hBw4.size (Nat.le_of_lt hv.lt))) _ hK8 rfl, ho8.2⟩, hBw8.trans (belowK_b (w := w) (Nat.le_refl _) w8 D _ _ (Nat.le_trans hBw4.size (Nat.le_trans hB45.size hD)) hK8 rfl rfl)⟩
      · rw [decide_eq_false hw] at hwdf
        have HW := hid hwdf
        have HLE := hid hlen
        clear hwdf
        obtain ⟨al, hal⟩ : ∃ al, al = ql % pw t := ⟨_, rfl⟩
        obtain ⟨ah, hah⟩ : ∃ ah, ah = qh % pw t := ⟨_, rfl⟩
        rw [← hal] at HAL himo
        rw [← hah] at HAH himo
        have hpt2 := pw_21 q4
        have hpt1 := pw_pos t
        have hab : 0 ≤ al ∧ al < pw t := by rw [hal]; exact ⟨Int.emod_nonneg _ (by omega), Int.emod_lt_of_pos _ hpt1⟩
        have hbb' : 0 ≤ ah ∧ ah < pw t := by rw [hah]; exact ⟨Int.emod_nonneg _ (by omega), Int.emod_lt_of_pos _ hpt1⟩
        have hmk0 : 0 ≤ mk ∧ mk ≤ 2097151 := by have := HMK.out; omega
        clear hal hah
        have HSN : Hid ((m.take (k + 1)).flatMap (imgOne (pw d) (pw t)) = (m.take k).flatMap (imgOne (pw d) (pw t)) ++ imgOne (pw d) (pw t) x) := hid (by rw [take_snoc HX.out, List.flatMap_append]; simp)
        have HWN : Hid (∀ y ∈ m.take (k + 1), wide (pw d) (pw t) y = false) := hid (fun y hy => by
          rw [take_snoc HX.out] at hy
          rcases List.mem_append.1 hy with hy | hy
          · exact HWD.out y hy
          · simp at hy; subst hy; exact HW.out)
        obtain ⟨F, hFF⟩ : ∃ F, F = (m.take k).flatMap (imgOne (pw d) (pw t)) := ⟨_, rfl⟩
        rw [← hFF] at HO HSN HLE
        clear hFF hlen
        have hown0 : ((wo.alloc (.cells #[.int .i64 x.lo, .int .i64 x.hi] 75)).drewN nq).ownsRow w2.heap.size 75 2 u6 F.length (F.flatMap Span.cells) := HO.out.1.alloc _
        have HOW0 := hid hown0
        clear hown0
        by_cases hle : al ≤ ah
        · rw [if_pos hle] at himo
          rw [himo] at HSN
          have hle' : bits BinOp.and IntKind.i64 ql mk ≤ bits BinOp.and IntKind.i64 qh mk := by rw [HAL.out, HAH.out]; exact hle
          clear himo
          go_wp2_with (at_builtin; refine Hid.out ?_)
          refine hid ?_
          rw [HAL.out, HAH.out]
          refine wpList_append_own _ rfl _ _ 76 rfl w2.heap.size 75 inf _ 2 16 Tryz.underlying76 hi0 hz0 hz1 hz2 rfl (by decide) _ _ _ rfl (HOW0.out.alloc _) ⟨wo.heap.size + 1, 0, none⟩ 1 1 [.int .i64 al, .int .i64 ah] rfl rfl
            (news_at (w := (wo.alloc _).drewN nq) (cs := #[_, _]) (by simp)) (by simp [Value.oneCell']) (by unfold maxLen; have := HLE.out; omega) (by have := HLE.out; omega) (by simp; have := hB.size; omega) ?_
          intro v' w6 hown3 hg3 _
          have hB6 : Below w2.heap.size wo w6 := ((below_drewN ((Below.refl _ wo).alloc hB.size _) nq).alloc (by simp; have := hB.size; omega) _).trans (below_grown (HOW0.out.alloc _) hg3 (Nat.le_refl _) (by simp; have := hB.size; omega))
          have ho6 := OwnS.push (x := ⟨al, ah⟩) hown3 HO.out.2 ⟨⟨by dsimp only; omega, by dsimp only; omega⟩, ⟨by dsimp only; omega, by dsimp only; omega⟩⟩
          rw [← HSN.out] at ho6
          clear hown3 hg3
          go_wp2_with fail
          refine ⟨⟨k + 1, by omega, by push_cast; rfl, HWN.out, ho6, hB.trans hB6, by rw [HSN.out]; have := HLE.out; simp; omega⟩, ?_⟩
          simp [intOf]; omega
        · rw [if_neg hle] at himo
          rw [himo] at HSN
          have hle' : ¬ bits BinOp.and IntKind.i64 ql mk ≤ bits BinOp.and IntKind.i64 qh mk := by rw [HAL.out, HAH.out]; exact hle
          clear himo
          go_wp2_with (at_builtin; refine Hid.out ?_)
          refine hid ?_
          rw [HAL.out, HAH.out]
          refine wpList_append_own _ rfl _ _ 76 rfl w2.heap.size 75 inf _ 2 16 Tryz.underlying76 hi0 hz0 hz1 hz2 rfl (by decide) _ _ _ rfl (HOW0.out.alloc _) ⟨wo.heap.size + 1, 0, none⟩ 2 2 [.int .i64 0, .int .i64 ah, .int .i64 al, .int .i64 mk] rfl rfl
            (news_at (w := (wo.alloc _).drewN nq) (cs := #[_, _, _, _]) (by simp)) (by simp [Value.oneCell']) (by unfold maxLen; have := HLE.out; omega) (by have := HLE.out; omega) (by simp; have := hB.size; omega) ?_
          intro v' w6 hown3 hg3 _
          have hB6 : Below w2.heap.size wo w6 := ((below_drewN ((Below.refl _ wo).alloc hB.size _) nq).alloc (by simp; have := hB.size; omega) _).trans (below_grown (HOW0.out.alloc _) hg3 (Nat.le_refl _) (by simp; have := hB.size; omega))
          have ho6 := OwnS.push2 (x := ⟨0, ah⟩) (y := ⟨al, mk⟩) hown3 HO.out.2 ⟨⟨by simp, by simp⟩, ⟨by dsimp only; omega, by dsimp only; omega⟩⟩ ⟨⟨by dsimp only; omega, by dsimp only; omega⟩, ⟨by dsimp only; omega, by dsimp only; omega⟩⟩
          rw [← HSN.out] at ho6
          clear hown3 hg3
          go_wp2_with fail
          refine ⟨⟨k + 1, by omega, by push_cast; rfl, HWN.out, ho6, hB.trans hB6, by rw [HSN.out]; have := HLE.out; simp; omega⟩, ?_⟩
          simp [intOf]; omega
    · obtain rfl : k = m.length := by omega
      rw [List.take_length] at hwd ho hlen
      have HR : Hid (imgRaw (pw d) (pw t) m = m.flatMap (imgOne (pw d) (pw t))) := hid (by
        unfold imgRaw
        rw [if_neg (fun h => by
          obtain ⟨y, hy, h2⟩ := List.any_eq_true.1 h
          rw [hwd y hy] at h2
          cases h2)])
      have hMb' : ∀ r, mem (m.flatMap (imgOne (pw d) (pw t))) r → 0 ≤ r ∧ r < pw t := fun r hr => by
        rw [← HR.out] at hr
        obtain ⟨y, _, rfl⟩ := (mem_imgRaw (pw_pos d) (pw_pos t) (fun s hs => (hmb s hs).2.1)).1 hr
        exact ⟨Int.emod_nonneg _ (by have := pw_pos t; omega), Int.emod_lt_of_pos _ (pw_pos t)⟩
      rw [HR.out] at HF
      obtain ⟨M, hM'⟩ : ∃ M, M = m.flatMap (imgOne (pw d) (pw t)) := ⟨_, rfl⟩
      rw [← hM'] at HF ho hlen hMb'
      have hMb := hMb'
      have hlt3 : M.length ≤ 1073741824 := by omega
      have hB3 := hB
      have hpt := hp
      clear hM' hr hMb' HR
      obtain ⟨wt, hwt⟩ : ∃ wt, wt = wo := ⟨_, rfl⟩
      subst hwt
      have HOT2 := hid ho
      obtain ⟨A7, c7, hv7, hc7, hm7⟩ := list_form ho.rel
      subst hv7
      clear ho
      go_wp2_with fail
      have hN := Norm_calls M _ wt HOT2.out.rel hlt3
      refine hN.mono ?_
      rintro e w4 ⟨x4, rfl, ho4, hB4⟩
      clear hN
      have hp4 := (hB4.block w.heap.size (heap_lt hpt)).trans hpt
      have hBw4 : Below w.heap.size w w4 := hBw2.trans ((hB3.trans (hB4.mono hB3.size)).mono hBw2.size)
      have pu : w4.cell? ⟨w.heap.size, 3, none⟩ = some (.int .i64 u) := cell_of_row _ _ 3 _ _ _ hp4
      have hRb : ∀ r, mem (normF M) r → 0 ≤ r ∧ r < pw t := fun r hr => hMb r (mem_normF.1 hr).2
      obtain ⟨R, hR⟩ : ∃ R, R = normF M := ⟨_, rfl⟩
      rw [← hR] at HF ho4 hRb
      have hRp : plain R = true := by rw [hR]; exact normF_plain M
      have hRl : R.length ≤ 1073741824 := by rw [hR]; exact Nat.le_trans (normF_length M) hlt3
      clear hR hMb
      obtain ⟨A4, c4, rfl, hc4, hm4⟩ := list_form ho4.rel
      by_cases hu : u = 0
      · have hu' := beq_t hu
        have HF2 : Hid (imgF ⟨a, d, t, u⟩ s = R) := hid (by rw [HF.out, if_pos hu])
        clear hu HF
        go_wp2_with fail
        refine ⟨_, results_tmp rfl _ _ _, _, rfl, ?_, hBw4⟩
        rw [HF2.out]
        exact ho4.base (Nat.le_trans hBw2.size hB3.size)
      · have hu' := beq_f hu
        have HF2 : Hid (imgF ⟨a, d, t, u⟩ s = normF (upL (pw u) (eachL R))) := hid (by rw [HF.out, if_neg hu])
        clear HF
        have hut : t ≤ 6 := q7.resolve_left hu
        have ht6 := pw_6 hut
        have hRs : ∀ y ∈ R, 0 ≤ y.lo ∧ y.lo ≤ y.hi ∧ y.hi ≤ 63 := fun y hy => by
          have h1 := plain_ne hRp y hy
          have h2 := hRb y.lo ⟨y, hy, Int.le_refl _, h1⟩
          have h3 := hRb y.hi ⟨y, hy, h1, Int.le_refl _⟩
          omega
        have hel := eachL_len (n := 63) (plain_low hRp fun y hy => (hRs y hy).1) (fun y hy => (hRs y hy).2.2) (by decide)
        have hRn : normF R = R := normF_id hRp
        have hpw : 1 ≤ pw u ∧ pw u ≤ 1048576 := ⟨by have := pw_pos u; omega, pw_20 q6⟩
        have hRB : Below w4.heap.size w4 (w4.alloc (.cells #[.slice none 0 0] 76)) := (Below.refl _ w4).alloc (Nat.le_refl _) _
        have hbx := heap_alloc_new w4 (.cells #[.slice none 0 0] 76)
        have hE := Each_calls R (.slice A4 R.length c4) (w4.alloc (.cells #[.slice none 0 0] 76)) (spansR.below ho4.rel hRB hRB.size) hRl
        rw [hRn, World.size_alloc] at hE
        have hlt4 : w.heap.size < w4.heap.size := heap_lt hp4
        have HP4 := hid hp4
        clear hRn hRb hRl ho4 hp4
        go_wp2_with fail
        refine hE.mono ?_
        rintro e w5 ⟨x5, Bs, rfl, hBs, hBsl, ho5, hB5⟩
        have hx5 : w5.heap[w4.heap.size]? = some (.cells #[.slice none 0 0] 76) := (hB5.block w4.heap.size (by omega)).trans hbx
        have hB45 : Below w4.heap.size w4 w5 := hRB.trans (hB5.mono (Nat.le_succ _))
        clear hE hbx hRB hB5
        go_wp2_with fail
        refine range_each (Bs := Bs) (B := w4.heap.size) (base := w4.heap.size + 1) (s := R) (x := x5) rfl (by simp) rfl (heap_lt hx5) (by unfold rowB; rw [show w5.cell? ⟨w4.heap.size, 0, none⟩ = some (.slice none 0 0) from cell_of_row _ _ 0 _ _ _ hx5]; rfl) hBs ho5 (Nat.lt_succ_self _) (fun y hy => by have := hRs y hy; omega)
          (fun pre W => (∃ v, Boxed W w4.heap.size 76 v ∧ W.ownsRow w4.heap.size 75 2 v (upL (pw u) (pre.map Subtype.val)).length ((upL (pw u) (pre.map Subtype.val)).flatMap Span.cells) ∧ ∀ y ∈ upL (pw u) (pre.map Subtype.val), y.ok) ∧ Below w4.heap.size w4 W)
          (OwnFrom.and (Own.from (holdsRow_own w4.heap.size w4.heap.size 76 75 2 (fun pre : List { z : Int // z ∈ eachL R } => (upL (pw u) (pre.map Subtype.val)).length) (fun pre => (upL (pw u) (pre.map Subtype.val)).flatMap Span.cells) (fun pre _ => ∀ y ∈ upL (pw u) (pre.map Subtype.val), y.ok)) _) (ownFrom_below (Nat.le_refl _) hB45.size))
          ⟨⟨_, hx5, World.ownsRow_nil _ _ _ _, fun y hy => by cases hy⟩, hB45⟩ ?body ?done
        case body =>
          rintro l pre ⟨z, hz⟩ W ⟨⟨v, hv, hrow, hyok⟩, hBW⟩ hlt
          have hzb : 0 ≤ z ∧ z ≤ 63 := by
            obtain ⟨y, hy, h1, h2⟩ := mem_eachL.1 hz
            have := hRs y hy
            omega
          have hzu : 0 ≤ z * pw u ∧ z * pw u ≤ 66060288 := by
            have h1 : z * pw u ≤ 63 * 1048576 := Int.mul_le_mul hzb.2 hpw.2 (by omega) (by decide)
            exact ⟨Int.mul_nonneg hzb.1 (by omega), by omega⟩
          have HZ : Hid (wrap64 (z * 2 ^ u.toNat) = z * pw u) := hid (by
            rw [show (2 : Int) ^ u.toNat = pw u from rfl]
            exact IntWalk.wrap64_in _ ⟨by omega, by omega⟩)
          have hpl : (upL (pw u) (pre.map Subtype.val)).length = pre.length := by simp [upL]
          have hsnoc : upL (pw u) ((pre ++ [(⟨z, hz⟩ : { z : Int // z ∈ eachL R })]).map Subtype.val) = upL (pw u) (pre.map Subtype.val) ++ [⟨z * pw u, z * pw u⟩] := by simp [upL]
          have hpW : W.heap[w.heap.size]? = some (.cells #[.int .i64 a, .int .i64 d, .int .i64 t, .int .i64 u] 72) := (hBW.block w.heap.size hlt4).trans HP4.out
          have hpc : W.cell? ⟨w.heap.size, 3, none⟩ = some (.int .i64 u) := cell_of_row _ _ 3 _ _ _ hpW
          have hvc := hv.cell
          have hvf := hv.frozen
          have hBsz : w4.heap.size < W.heap.size := hv.lt
          obtain ⟨U, hU⟩ : ∃ U, U = upL (pw u) (pre.map Subtype.val) := ⟨_, rfl⟩
          rw [← hU] at hrow hyok hpl hsnoc
          obtain ⟨A6, c6, rfl, hc6, hm6⟩ := list_form (show OwnS 75 W w4.heap.size v U from ⟨hrow, hyok⟩).rel
          have HU := hid hU
          have hUl : U.length ≤ 100 := by omega
          clear hU hpl
          simp only [List.setIfInBounds_toArray, List.set_cons_succ, List.set_cons_zero]
          refine wpIn_block ?_
          obtain ⟨ι, Wc, ⟨i0, hi0⟩, hWc, Wsur⟩ := held_class W.drew (fun g => g = w4.heap.size ∨ g = w.heap.size)
          have hne : Nonempty ι := ⟨i0⟩
          have M0 : ∀ i, (Wc i).cell? ⟨w4.heap.size, 0, none⟩ = some (.slice A6 U.length c6) := fun i => (cell_of_heap_eq (p := ⟨w4.heap.size, 0, none⟩) (hWc i _ (.inl rfl))).trans hvc
          have M1 : ∀ i, (Wc i).cell? ⟨w.heap.size, 3, none⟩ = some (.int .i64 u) := fun i => (cell_of_heap_eq (p := ⟨w.heap.size, 3, none⟩) (hWc i _ (.inr rfl))).trans hpc
          have WS := hid Wsur; clear Wsur
          clear hWc
          have Hi0 := hid hi0; clear hi0
          refine region_round (S := fun w' => ∃ i, w' = Wc i) (last := 12) (fun ⟨_, _, h⟩ => h) (by kernel_rfl) (by kernel_rfl) ?_
          refine anyL_seg 0 10 (by kernel_rfl) (fun _ _ _ _ _ h => h) ⟨i0, Hi0.out.symm⟩ (f := 3) rfl (by kernel_rfl) (by kernel_rfl) ?_
          simp only [List.drop_zero, List.take_succ_cons, List.take_zero]
          repeat go_big_quiet_step (fail)
          refine wpQuiet_nil ?_
          rw [HZ.out]
          refine anyL_act (i := 10) (by kernel_rfl) rfl rfl ?_
          intro K hK
          go_wp2_with fail
          have hS1 : ∃ i, (W.alloc (.cells #[.int .i64 (z * pw u), .int .i64 (z * pw u)] 75)).drew = Wc i := WS.out _ (fun g hg => Below.heap_alloc _ _ _ (by rcases hg with rfl | rfl <;> omega))
          refine hK.out _ _ (fun _ => hS1) ?_
          clear hK K
          refine anyL_act (i := 11) (by kernel_rfl) rfl rfl ?_
          intro K hK
          have hv1 : ((W.alloc (.cells #[.int .i64 (z * pw u), .int .i64 (z * pw u)] 75)).drew).ownsRow w4.heap.size 75 2 (.slice A6 U.length c6) U.length (U.flatMap Span.cells) := hrow.alloc _
          refine act_append_at _ _ 76 rfl w4.heap.size 75 inf _ 2 16 Tryz.underlying76 hi0 hz0 hz1 hz2 rfl (by decide) (.slice A6 U.length c6) U.length _ rfl hv1 ⟨W.heap.size, 0, none⟩ 1 1 [.int .i64 (z * pw u), .int .i64 (z * pw u)] rfl rfl (news_at (w := W) (cs := #[_, _]) rfl) (by simp [Value.oneCell']) (by unfold maxLen; omega) (by omega) (by simp; omega) ?_
          intro v' w6 hown' hgrow _ hloc
          have hw6 : W.heap.size + 1 ≤ w6.heap.size := by have := hgrow.size; simpa using this
          have hnB : ∀ g, (g = w4.heap.size ∨ g = w.heap.size) → w6.heap[g]? = W.heap[g]? := fun g hg => by
            have hgl : g < W.heap.size := by rcases hg with rfl | rfl <;> omega
            rw [hgrow.block g (by simp; omega) (fun h => ?_)]
            · exact Below.heap_alloc _ _ _ hgl
            · rcases hg with rfl | rfl
              · exact own_ne (g := w4.heap.size) hrow (e' := 76) hv (by decide) h.symm
              · exact own_ne (g := w.heap.size) hrow (e' := 72) hpW (by decide) h.symm
          have hS2 : ∃ i, w6 = Wc i := WS.out _ (fun g hg => hnB g hg)
          refine hK.out _ _ (fun _ => hS2) ?_
          clear hK K
          obtain ⟨A7, c7, rfl, hc7, hm7⟩ := list_form (show OwnS 75 w6 w4.heap.size v' (U ++ [⟨z * pw u, z * pw u⟩]) from OwnS.push (x := ⟨z * pw u, z * pw u⟩) hown' hyok ⟨⟨by dsimp only; omega, by dsimp only; omega⟩, ⟨by dsimp only; omega, by dsimp only; omega⟩⟩).rel
          have hv6 : Boxed w6 w4.heap.size 76 (.slice A6 U.length c6) := (hnB _ (.inl rfl)).trans hv
          have h6c := hv6.cell
          have h6f := hv6.frozen
          refine anyL_act (i := 12) (by kernel_rfl) rfl rfl ?_
          intro K hK
          go_wp2_with fail
          refine hK.out _ _ (fun h => absurd rfl h) ?_
          clear hK K
          refine anyL_done (by kernel_rfl) ?_ _
          have hRA := round_append (Bw := w5.heap.size) hv (by decide) (⟨hrow, hyok⟩ : OwnS 75 W w4.heap.size (.slice A6 U.length c6) U) (OwnS.push (x := ⟨z * pw u, z * pw u⟩) hown' hyok ⟨⟨by dsimp only; omega, by dsimp only; omega⟩, ⟨by dsimp only; omega, by dsimp only; omega⟩⟩) hgrow hloc
          obtain ⟨r1, r2, r3, r4, r5⟩ := hRA
          have hlen7 : (U ++ [(⟨z * pw u, z * pw u⟩ : Span)]).length = U.length + 1 := by simp
          rw [hlen7] at r1 r2 r3 r4 r5
          exact ⟨r1, r2, ⟨_, r3, by rw [hsnoc]; exact r4.1, by rw [hsnoc]; exact r4.2⟩, hBW.trans r5⟩
        case done =>
          rintro D ys W hD hys ⟨⟨v, hv, hrow, hyok⟩, hBW⟩ hK
          rw [hys] at hrow hyok
          have hvc := hv.cell
          have hUl : (upL (pw u) (eachL R)).length ≤ 1073741824 := by simp [upL]; omega
          obtain ⟨U, hU⟩ : ∃ U, U = upL (pw u) (eachL R) := ⟨_, rfl⟩
          rw [← hU] at hrow hyok hUl HF2
          clear hU
          have hN := Norm_calls U v W (show OwnS 75 W w4.heap.size v U from ⟨hrow, hyok⟩).rel hUl
          rw [← HF2.out] at hN
          obtain ⟨A6, c6, rfl, hc6, hm6⟩ := list_form (show OwnS 75 W w4.heap.size v U from ⟨hrow, hyok⟩).rel
          have HK := hid hK
          clear hrow hyok hys hK
          go_wp2_with fail
          refine hN.mono ?_
          rintro e w8 ⟨x8, rfl, ho8, hB8⟩
          go_wp2_with fail
          have hK8 : w8.heap[D]? = some (.deferred (some [])) := (hB8.block D (heap_lt HK.out)).trans HK.out
          have hBw8 : Below w.heap.size w w8 := hBw4.trans ((hBW.trans (hB8.mono (Nat.le_of_lt hv.lt))).mono hBw4.size)
          refine ⟨by simp, .inl ⟨_, _, rfl, run_takeDeferred hK8, ?_⟩⟩
          refine ⟨_, results_tmp rfl _ _ _, _, rfl, ⟨ownsRow_putObj (ownsRow_base ho8.1 (Nat.le_trans hBw4.size (Nat.le_of_lt hv.lt))) _ hK8 rfl, ho8.2⟩, hBw8.trans (belowK_b (w := w) (Nat.le_refl _) w8 D _ _ (Nat.le_trans hBw4.size (Nat.le_trans hB45.size hD)) hK8 rfl rfl)⟩
end Go.Proofs.YthfcbbdghggefaaGreat
