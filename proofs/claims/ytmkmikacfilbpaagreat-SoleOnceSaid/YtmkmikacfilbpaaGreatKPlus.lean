/-
  The program's sets: First, Last, Move, and the sums of two sets. The program's sums of two sets.
-/
import Derived.Test.YtmkmikacfilbpaaGreatKTermR
namespace Go.Um
open Go.RowKit
theorem flat_get {xs : List Span} {i : Nat} {x : Span} (h : xs[i]? = some x) : (xs.flatMap Span.cells)[i * 2]? = some (.int .i64 x.lo) ∧ (xs.flatMap Span.cells)[i * 2 + 1]? = some (.int .i64 x.hi) := by
  induction xs generalizing i with
  | nil => cases h
  | cons y ys ih =>
    cases i with
    | zero => simp at h; subst h; simp [Span.cells]
    | succ i =>
      have := ih (i := i) (by simpa using h)
      rw [List.flatMap_cons, show (i + 1) * 2 = i * 2 + 2 by omega]
      simpa [Span.cells] using this
theorem flat_set {xs : List Span} {i : Nat} {x : Span} (h : xs[i]? = some x) (z : Int) :
    (xs.flatMap Span.cells).set (i * 2) (.int .i64 z) = (xs.set i ⟨z, x.hi⟩).flatMap Span.cells ∧ (xs.flatMap Span.cells).set (i * 2 + 1) (.int .i64 z) = (xs.set i ⟨x.lo, z⟩).flatMap Span.cells := by
  induction xs generalizing i with
  | nil => cases h
  | cons y ys ih =>
    cases i with
    | zero => simp at h; subst h; simp [Span.cells]
    | succ i =>
      have := ih (i := i) (by simpa using h)
      rw [List.flatMap_cons, List.set_cons_succ, List.set_cons_succ, List.flatMap_cons, List.flatMap_cons, show (i + 1) * 2 = i * 2 + 2 by omega]
      simp only [Span.cells, List.cons_append, List.nil_append, List.set_cons_succ]
      rw [this.1, this.2]
      exact ⟨rfl, rfl⟩
theorem ok_set {xs : List Span} {i : Nat} {x : Span} (h : ∀ y ∈ xs, y.ok) (hx : x.ok) : ∀ y ∈ xs.set i x, y.ok := by
  intro y hy
  rcases List.mem_or_eq_of_mem_set hy with hy | rfl
  · exact h y hy
  · exact hx
theorem OwnS.setLo {e : TypeId} {w : World} {base g cap : Nat} {xs : List Span} (h : OwnS e w base (.slice (some ⟨g, 0, none⟩) xs.length cap) xs) {i : Nat} {x : Span} (hx : xs[i]? = some x) {z : Int} (hz : I64 z) :
    OwnS e (w.setCell ⟨g, i * 2, none⟩ (.int .i64 z)) base (.slice (some ⟨g, 0, none⟩) xs.length cap) (xs.set i ⟨z, x.hi⟩) := by
  refine ⟨?_, ok_set h.2 ⟨hz, (h.2 x (List.mem_of_getElem? hx)).2⟩⟩
  have := (World.ownsRow.stored h.1 (i * 2) (.int .i64 z)).1
  rw [(flat_set hx z).1] at this
  simpa using this
theorem OwnS.setHi {e : TypeId} {w : World} {base g cap : Nat} {xs : List Span} (h : OwnS e w base (.slice (some ⟨g, 0, none⟩) xs.length cap) xs) {i : Nat} {x : Span} (hx : xs[i]? = some x) {z : Int} (hz : I64 z) :
    OwnS e (w.setCell ⟨g, i * 2 + 1, none⟩ (.int .i64 z)) base (.slice (some ⟨g, 0, none⟩) xs.length cap) (xs.set i ⟨x.lo, z⟩) := by
  refine ⟨?_, ok_set h.2 ⟨(h.2 x (List.mem_of_getElem? hx)).1, hz⟩⟩
  have := (World.ownsRow.stored h.1 (i * 2 + 1) (.int .i64 z)).1
  rw [(flat_set hx z).2] at this
  simpa using this
theorem headLo_get {l : List Span} {s : Span} (h : l[0]? = some s) : headLo l = s.lo := by
  cases l with
  | nil => cases h
  | cons t r => simp at h; subst h; rfl
theorem lastHi_get {l : List Span} {s : Span} (h : l[l.length - 1]? = some s) : lastHi l = s.hi := by
  unfold lastHi
  rw [List.getLast?_eq_getElem?, h]
end Go.Um
namespace Go.Proofs.YtmkmikacfilbpaaGreat
open Go.Proofs Go.Um Go.RowKit
set_option maxHeartbeats 1000000 in
set_option maxRecDepth 100000 in
theorem First_calls (l : List Span) (v : Value) (w : World) (h : spansR.rel w (upto w.heap.size) [v] l) (hl : l.length ≤ 1073741824) :
    Calls Tryz.prog 179 #[v] w fun e w' => e = .returned (.tuple #[.int .i64 (headLo (normF l)), .bool (!(normF l).isEmpty)]) ∧ Below w.heap.size w w' := by
  have hnl := normF_length l
  have hN := Norm_calls l v w h hl
  generalize normF l = m at *
  go_enter Tryz.func179, Tryz.ntmps179
  go_wp2_with fail
  refine hN.mono ?_
  rintro e w1 ⟨x, rfl, ho1, hB1⟩
  have hr := ho1.rel
  obtain ⟨A, c, rfl, hc, hm⟩ := list_form hr
  unfold maxLen at hm
  by_cases hn : m = []
  · subst hn
    clear ho1 hr
    go_wp2_with fail
    go_ret2
    exact ⟨rfl, hB1⟩
  · have h0 : 0 < m.length := List.length_pos_iff.2 hn
    obtain ⟨s, hs⟩ := at_lt h0
    obtain ⟨b, o, rfl, hb, c1, c2, _, _⟩ := span_at hr hs
    have h1 : ((m.length : Int) == 0) = false := beq_f (by omega)
    have hH : Hid (headLo m = s.lo) := hid (headLo_get hs)
    have hE : Hid ((!m.isEmpty) = true) := hid (by simp [hn])
    have h0' : (0 : Int) < m.length := by omega
    simp only [Nat.zero_mul, Nat.add_zero] at c1 c2
    clear hs hn ho1 hr
    go_wp2_with fail
    go_ret2
    exact ⟨by rw [hH.out, hE.out]; rfl, hB1⟩
set_option maxHeartbeats 1000000 in
set_option maxRecDepth 100000 in
theorem Last_calls (l : List Span) (v : Value) (w : World) (h : spansR.rel w (upto w.heap.size) [v] l) (hl : l.length ≤ 1073741824) :
    Calls Tryz.prog 180 #[v] w fun e w' => e = .returned (.tuple #[.int .i64 (lastHi (normF l)), .bool (!(normF l).isEmpty)]) ∧ Below w.heap.size w w' := by
  have hnl := normF_length l
  have hN := Norm_calls l v w h hl
  generalize normF l = m at *
  go_enter Tryz.func180, Tryz.ntmps180
  go_wp2_with fail
  refine hN.mono ?_
  rintro e w1 ⟨x, rfl, ho1, hB1⟩
  have hr := ho1.rel
  obtain ⟨A, c, rfl, hc, hm⟩ := list_form hr
  unfold maxLen at hm
  by_cases hn : m = []
  · subst hn
    clear ho1 hr
    go_wp2_with fail
    go_ret2
    exact ⟨rfl, hB1⟩
  · have h0 : 0 < m.length := List.length_pos_iff.2 hn
    obtain ⟨s, hs⟩ := at_lt (i := m.length - 1) (xs := m) (by omega)
    obtain ⟨b, o, rfl, hb, c1, c2, _, _⟩ := span_at hr hs
    have h1 : ((m.length : Int) == 0) = false := beq_f (by omega)
    have hH : Hid (lastHi m = s.hi) := hid (lastHi_get hs)
    have hE : Hid ((!m.isEmpty) = true) := hid (by simp [hn])
    obtain ⟨j, hj⟩ : ∃ j, j = m.length - 1 := ⟨_, rfl⟩
    rw [← hj] at c1 c2
    have hj1 : (m.length : Int) - 1 = j := by omega
    have hj2 : (j : Int) < m.length := by omega
    clear hs hn ho1 hr hj
    go_wp2_with fail
    go_ret2
    exact ⟨by rw [hH.out, hE.out]; rfl, hB1⟩
set_option maxHeartbeats 1000000 in
set_option maxRecDepth 100000 in
theorem Move_calls (l : List Span) (by_ : Int) (v : Value) (w : World) (h : spansR.rel w (upto w.heap.size) [v] l) (hl : l.length ≤ 1073741824) (hby : -2147483648 ≤ by_ ∧ by_ ≤ 2147483648) :
    Calls Tryz.prog 166 #[v, .int .i64 by_] w fun e w' => ∃ u, e = .returned u ∧ OwnS 64 w' w.heap.size u (moveF l by_) ∧ Below w.heap.size w w' := by
  have hnl := normF_length l
  have hF : Hid (moveF l by_ = normF ((normF l).map (addN by_))) := hid (by unfold moveF; rw [if_neg (by omega)])
  have b1 : ¬ by_ < -2147483648 := by omega
  have b2 : ¬ 2147483648 < by_ := by omega
  have hok := plainFrom_ok (normF_plain l)
  have hN := Norm_calls l v w h hl
  obtain ⟨m, hM⟩ : ∃ m, m = normF l := ⟨_, rfl⟩
  rw [← hM] at hN hok hnl hF
  clear hM
  go_enter Tryz.func166, Tryz.ntmps166
  go_wp2_with fail
  refine hN.mono ?_
  rintro e w1 ⟨x, rfl, ho1, hB1⟩
  obtain ⟨A, c, rfl, hc, hm⟩ := list_form ho1.rel
  unfold maxLen at hm
  go_wp2_with fail
  go_loopw [17] (fun vi wr => ∃ k : Nat, k ≤ m.length ∧ vi = .int .i64 k ∧ OwnS 64 wr w.heap.size (.slice A m.length c) ((m.take k).map (addN by_) ++ m.drop k) ∧ Below w.heap.size w wr) (fun vi _ => m.length - (intOf vi).toNat)
  case atStart => exact ⟨0, Nat.zero_le _, rfl, by simpa using ho1, hB1⟩
  case round =>
    obtain ⟨k, hk, rfl, ho, hB⟩ := hrel
    by_cases hlt : k < m.length
    · obtain ⟨x, hx⟩ := at_lt hlt
      have hlt' : (k : Int) < m.length := by omega
      have hxo := hok x (List.mem_of_getElem? hx)
      unfold okS at hxo
      obtain ⟨row, hrow⟩ : ∃ row, row = (m.take k).map (addN by_) ++ m.drop k := ⟨_, rfl⟩
      rw [← hrow] at ho
      have hrl : row.length = m.length := by rw [hrow]; simp; omega
      have hrx : row[k]? = some x := by rw [hrow, List.getElem?_append_right (by simp; omega)]; simp [Nat.min_eq_left hk]; exact hx
      rw [← hrl] at ho
      obtain ⟨b, o, hA, hb, c1, c2, _, _⟩ := span_at ho.rel hrx
      obtain ⟨g, cap, hg⟩ := own_form ho.1 (by omega)
      simp only [Value.slice.injEq, true_and] at hg
      obtain ⟨rfl, rfl⟩ := hg
      simp only [Option.some.injEq, Addr.mk.injEq, and_true] at hA
      obtain ⟨rfl, rfl⟩ := hA
      simp only [Nat.zero_add] at c1 c2
      have f1 := World.ownsRow.frozenAt ho.1 (k * 2)
      have f2 := World.ownsRow.frozenAt ho.1 (k * 2 + 1)
      have s1 : I64 (x.lo + by_) := ⟨by omega, by omega⟩
      have s2 : I64 (x.hi + by_) := ⟨by omega, by omega⟩
      have ho2 := ho.setLo hrx s1
      have hrx2 : (row.set k ⟨x.lo + by_, x.hi⟩)[k]? = some ⟨x.lo + by_, x.hi⟩ := List.getElem?_set_self (by omega)
      have ho3 := (show OwnS _ _ _ (.slice (some ⟨g, 0, none⟩) (row.set k ⟨x.lo + by_, x.hi⟩).length c) _ by simpa using ho2).setHi hrx2 s2
      have hfin : Hid (OwnS 64 ((wr.setCell ⟨g, k * 2, none⟩ (.int .i64 (x.lo + by_))).setCell ⟨g, k * 2 + 1, none⟩ (.int .i64 (x.hi + by_))) w.heap.size (.slice (some ⟨g, 0, none⟩) m.length c) ((m.take (k + 1)).map (addN by_) ++ m.drop (k + 1))) := hid (by
        have e : (row.set k ⟨x.lo + by_, x.hi⟩).set k ⟨x.lo + by_, x.hi + by_⟩ = (m.take (k + 1)).map (addN by_) ++ m.drop (k + 1) := by
          rw [List.set_set, hrow, drop_cons hx, take_snoc hx, List.map_append, List.append_assoc, List.set_append_right _ _ (by simp; omega)]
          simp [Nat.min_eq_left hk, addN]
        rw [e] at ho3
        simpa [hrl] using ho3)
      have hgw : w.heap.size ≤ g := (ho.1.lt g rfl).1
      have W1 : Hid (wrap64 (x.lo + by_) = x.lo + by_) := hid (IntWalk.wrap64_in _ ⟨by omega, by omega⟩)
      have W2 : Hid (wrap64 (x.hi + by_) = x.hi + by_) := hid (IntWalk.wrap64_in _ ⟨by omega, by omega⟩)
      clear hx hxo hrx ho2 hrx2 ho3 hrow ho hrl
      go_wp2_with fail
      go_roundw
      case rel => exact ⟨k + 1, by omega, by push_cast; rfl, by rw [W1.out, W2.out]; exact hfin.out, (hB.setCell hgw _).setCell hgw _⟩
      case measure => simp [intOf]; omega
    · obtain rfl : k = m.length := by omega
      have hr := ho.rel
      rw [List.drop_length, List.append_nil, List.take_length] at hr
      clear ho
      go_wp2_with fail
      refine (Norm_calls _ _ _ (by simpa using hr) (by simp; omega)).mono ?_
      rintro e w3 ⟨y, rfl, ho3, hB3⟩
      go_wp2_with fail
      go_ret
      exact ⟨_, rfl, by rw [hF.out]; exact ho3.base hB.size, hB.trans (hB3.mono hB.size)⟩
end Go.Proofs.YtmkmikacfilbpaaGreat
namespace Go.Um
theorem plain_len_from {last n : Int} {l : List Span} (h : plainFrom last l = true) (hn : ∀ s ∈ l, s.hi ≤ n) (hl : l ≠ []) : last + 2 * l.length ≤ n := by
  induction l generalizing last with
  | nil => exact absurd rfl hl
  | cons s r ih =>
    obtain ⟨h1, h2⟩ := plainFrom_cons.1 h
    have h3 := hn s (List.mem_cons_self ..)
    cases r with
    | nil => simp; omega
    | cons t u =>
      have := ih h2 (fun x hx => hn x (List.mem_cons_of_mem _ hx)) (by simp)
      simp only [List.length_cons] at this ⊢
      omega
theorem plain_len {n : Nat} {l : List Span} (h : plain l = true) (hn : inB n l) : l.length ≤ n + 1 := by
  cases l with
  | nil => simp
  | cons s r =>
    obtain ⟨h1, h2⟩ := plainFrom_cons.1 h
    have h3 := hn s (List.mem_cons_self ..)
    cases r with
    | nil => simp
    | cons t u =>
      have := plain_len_from h2 (fun x hx => (hn x (List.mem_cons_of_mem _ hx)).2) (by simp)
      simp only [List.length_cons] at this ⊢
      omega
theorem plusFold_len {b : List Span} {n m : Int} {K : Nat} (hb : neL b) (hbn : inB m b) (hnm : n + m + 1 ≤ K) (hnm2 : n + m ≤ 1073741824) (hnm0 : 0 ≤ n + m) (hK : 65536 ≤ K) {a : List Span} : ∀ {out : List Span}, neL a → inB n a → neL out → inB (n + m) out → out.length ≤ K → (a.foldl (plusStep b) out).length ≤ K := by
  induction a with
  | nil => intro out _ _ _ _ h; exact h
  | cons x r ih =>
    intro out ha hn h1 h2 h3
    obtain ⟨s1, s2, s3⟩ := plusStep_spec hb h1 (ha x (List.mem_cons_self ..)) hbn (hn x (List.mem_cons_self ..)) h2 hnm2
    refine ih (fun s hs => ha s (List.mem_cons_of_mem _ hs)) (fun s hs => hn s (List.mem_cons_of_mem _ hs)) s1 s2 ?_
    unfold plusStep at s2 ⊢
    split
    · rename_i hc
      rw [if_pos hc] at s2
      have := plain_len (n := (n + m).toNat) (normF_plain (out ++ b.map (addS x))) (by rw [Int.toNat_of_nonneg hnm0]; exact s2)
      omega
    · omega
end Go.Um
namespace Go.Proofs.YtmkmikacfilbpaaGreat
open Go.Proofs Go.Um Go.RowKit
/-- term.plus: the sums of a number of one set and one of another. -/
def plusPart (a b : List Span) (k : Nat) : List Span := (a.take k).foldl (plusStep b) []
theorem plusPart_succ {a b : List Span} {k : Nat} {x : Span} (h : a[k]? = some x) : plusPart a b (k + 1) = plusStep b (plusPart a b k) x := by
  unfold plusPart; rw [take_snoc h, List.foldl_append]; rfl
set_option maxHeartbeats 2000000 in
set_option maxRecDepth 100000 in
theorem plus_calls (a b : List Span) (v u : Value) (w : World) (ha : spansR.rel w (upto w.heap.size) [v] a) (hb : spansR.rel w (upto w.heap.size) [u] b) (hbl : b.length ≤ 3000000) (hal : a.length ≤ 1073741824)
    (hane : neL a) (hbne : neL b) (han : inB 300000000 a) (hbn : inB 300000000 b) :
    Calls Tryz.prog 177 #[v, u] w fun e w' => ∃ z, e = .returned z ∧ OwnS 64 w' w.heap.size z (plusF a b) ∧ Below w.heap.size w w' := by
  obtain ⟨A1, cc1, rfl, hcc1, hmm1⟩ := list_form ha
  obtain ⟨A2, cc2, rfl, hcc2, hmm2⟩ := list_form hb
  unfold maxLen at hmm1 hmm2
  have hF : Hid (plusF a b = normF (plusPart a b a.length)) := hid (by unfold plusF plusPart; rw [List.take_length])
  have hlen : ∀ k, (plusPart a b k).length ≤ 600000001 := fun k => plusFold_len (K := 600000001) hbne hbn (by decide) (by decide) (by decide) (by decide) (fun s hs => hane s (List.mem_of_mem_take hs)) (fun s hs => han s (List.mem_of_mem_take hs)) (fun s hs => by cases hs) (fun s hs => by cases hs) (by simp)
  obtain ⟨inf, hi0, hz0, hz1, hz2⟩ := info_parts info46
  go_enter Tryz.func177, Tryz.ntmps177
  go_wp2_with fail
  go_loopw [12, 5] (fun vi vo wr => ∃ k : Nat, k ≤ a.length ∧ vi = .int .i64 k ∧ OwnS 64 wr w.heap.size vo (plusPart a b k) ∧ Below w.heap.size w wr) (fun vi _ _ => a.length - (intOf vi).toNat)
  case atStart => exact ⟨0, Nat.zero_le _, rfl, ⟨World.ownsRow_nil _ _ _ _, fun y hy => by cases hy⟩, Below.refl _ _⟩
  case round =>
    obtain ⟨k, hk, rfl, ho, hB⟩ := hrel
    obtain ⟨wo, hwo⟩ : ∃ wo, wo = wr := ⟨_, rfl⟩
    subst hwo
    have hra := spansR.mono (below_cells hB) (fun _ h => h) ha
    have hlk := hlen k
    by_cases hlt : k < a.length
    · obtain ⟨x, hx⟩ := at_lt hlt
      have hlt' : (k : Int) < a.length := by omega
      obtain ⟨bb, o, hA, hbb, c1, c2, x1, x2⟩ := span_at hra hx
      obtain rfl := hA
      have hxb := han x (List.mem_of_getElem? hx)
      have hxn := hane x (List.mem_of_getElem? hx)
      have hst := hid (plusPart_succ (b := b) hx)
      have HO := hid ho
      have HR := hid hx
      clear hx hra ho
      obtain ⟨P, hP⟩ : ∃ P, P = plusPart a b k := ⟨_, rfl⟩
      rw [← hP] at HO hst hlk
      clear hP
      go_wp2_with fail
      go_loopw [18, 5] (fun vi vo wr => ∃ j : Nat, j ≤ b.length ∧ vi = .int .i64 j ∧ OwnS 64 wr w.heap.size vo (P ++ (b.take j).map (addS x)) ∧ Below w.heap.size w wr ∧ wo.heap.size + 1 ≤ wr.heap.size ∧ vo.ownBlock ≠ some wo.heap.size ∧ wr.heap[wo.heap.size]? = some (.cells #[.int .i64 x.lo, .int .i64 x.hi] 64)) (fun vi _ _ => b.length - (intOf vi).toNat)
      case atStart =>
        exact ⟨0, Nat.zero_le _, rfl, by simpa using (show OwnS _ _ _ _ _ from ⟨HO.out.1.alloc _, HO.out.2⟩), hB.alloc hB.size _, by simp, fun h => absurd (HO.out.1.lt _ h).2 (by omega), heap_alloc_new wo _⟩
      case round =>
        obtain ⟨j, hj, rfl, ho, hB2, hsz, hnb, hq⟩ := hrel
        have q1 := cell_of_row wr wo.heap.size 0 _ _ _ hq
        have q2 := cell_of_row wr wo.heap.size 1 _ _ _ hq
        replace q1 : wr.cell? ⟨wo.heap.size, 0, none⟩ = some (.int .i64 x.lo) := q1
        replace q2 : wr.cell? ⟨wo.heap.size, 1, none⟩ = some (.int .i64 x.hi) := q2
        have hrb := spansR.mono (below_cells hB2) (fun _ h => h) hb
        by_cases hjl : j < b.length
        · obtain ⟨y, hy⟩ := at_lt hjl
          have hjl' : (j : Int) < b.length := by omega
          obtain ⟨b2, o2, hA2, hb2, d1, d2, y1, y2⟩ := span_at hrb hy
          obtain rfl := hA2
          have hyb := hbn y (List.mem_of_getElem? hy)
          have hyn := hbne y (List.mem_of_getElem? hy)
          have q1' : ∀ o1, (wr.alloc o1).cell? ⟨wo.heap.size, 0, none⟩ = some (.int .i64 x.lo) := fun o1 => (((Below.refl wr.heap.size wr).alloc (Nat.le_refl _) o1).cell (p := ⟨wo.heap.size, 0, none⟩) (show wo.heap.size < wr.heap.size by omega)).trans q1
          have q2' : ∀ o1, (wr.alloc o1).cell? ⟨wo.heap.size, 1, none⟩ = some (.int .i64 x.hi) := fun o1 => (((Below.refl wr.heap.size wr).alloc (Nat.le_refl _) o1).cell (p := ⟨wo.heap.size, 1, none⟩) (show wo.heap.size < wr.heap.size by omega)).trans q2
          have W1 : Hid (wrap64 (x.lo + y.lo) = x.lo + y.lo) := hid (IntWalk.wrap64_in _ ⟨by omega, by omega⟩)
          have W2 : Hid (wrap64 (x.hi + y.hi) = x.hi + y.hi) := hid (IntWalk.wrap64_in _ ⟨by omega, by omega⟩)
          have hsn : Hid (P ++ (b.take (j + 1)).map (addS x) = (P ++ (b.take j).map (addS x)) ++ [addS x y]) := hid (by rw [take_snoc hy, List.map_append, List.append_assoc]; rfl)
          have hl2 : (P ++ (b.take j).map (addS x)).length ≤ 603000001 := by simp; omega
          have HO2 := hid ho
          clear hy hrb ho
          have hbs : b2 < wr.heap.size := Nat.lt_of_lt_of_le hb2 hB2.size
          have HQ := hid hq
          have HNB := hid hnb
          clear hq hnb
          go_wp2_with (at_builtin; refine Hid.out ?_)
          refine hid ?_
          refine Go.wpList_append_own_at _ rfl _ _ 65 rfl w.heap.size 64 inf _ 2 16 Tryz.underlying65 hi0 hz0 hz1 hz2 rfl (by decide) _ _ _ rfl ((HO2.out.1.alloc _).alloc _) ⟨wr.heap.size + 1, 0, none⟩ 1 1 [.int .i64 (x.lo + y.lo), .int .i64 (x.hi + y.hi)] rfl rfl
            (news_at (w := wr.alloc _) (cs := #[_, _]) (by simp)) (by simp [Value.oneCell']) (by unfold maxLen; omega) (by omega) (by simp; have := hB2.size; omega) ?_
          intro v' w3 hown3 hg3 _ hloc3
          have hB3 : Below w.heap.size wr w3 := (((Below.refl _ wr).alloc hB2.size _).alloc (by simp; have := hB2.size; omega) _).trans (below_grown ((HO2.out.1.alloc _).alloc _) hg3 (Nat.le_refl _) (by simp; have := hB2.size; omega))
          have ho3 : OwnS 64 w3 w.heap.size v' ((P ++ (b.take j).map (addS x)) ++ [addS x y]) := OwnS.push (x := addS x y) hown3 HO2.out.2 ⟨⟨by simp only [addS]; omega, by simp only [addS]; omega⟩, ⟨by simp only [addS]; omega, by simp only [addS]; omega⟩⟩
          rw [← hsn.out] at ho3
          have hq3 : w3.heap[wo.heap.size]? = some (.cells #[.int .i64 x.lo, .int .i64 x.hi] 64) := by
            rw [hg3.block wo.heap.size (by simp; omega) (fun h => HNB.out h.symm)]
            exact ((((Below.refl wr.heap.size wr).alloc (Nat.le_refl _) _).alloc (by simp) _).block wo.heap.size (by omega)).trans HQ.out
          have hnb3 : v'.ownBlock ≠ some wo.heap.size := by
            rcases hloc3 with h | h
            · rw [h]; exact HNB.out
            · rw [h]; simp; omega
          have hsz3 : wo.heap.size + 1 ≤ w3.heap.size := by have := hB3.size; have := hg3.size; simp at this; omega
          clear hown3 hg3 hloc3
          go_wp2_with fail
          refine ⟨⟨j + 1, by omega, by push_cast; rfl, ho3, hB2.trans hB3, hsz3, hnb3, hq3⟩, ?_⟩
          simp [intOf]; omega
        · obtain rfl : j = b.length := by omega
          rw [List.take_length] at ho
          have hpl : (P ++ b.map (addS x)).length ≤ 603000001 := by simp; omega
          have hpe := hst.out
          unfold plusStep at hpe
          by_cases hbig : 65536 < (P ++ b.map (addS x)).length
          · rw [if_pos hbig] at hpe
            have hbig' : (65536 : Int) < ((P ++ b.map (addS x)).length : Nat) := by omega
            obtain ⟨A3, c3, hv3, hc3, hm3⟩ := list_form ho.rel
            subst hv3
            have hN := Norm_calls (P ++ b.map (addS x)) _ wr ho.rel (by omega)
            rw [← hpe] at hN
            obtain ⟨M, hM⟩ : ∃ M, M = plusPart a b (k + 1) := ⟨_, rfl⟩
            rw [← hM] at hN
            have HM := hid hM
            generalize P ++ b.map (addS x) = R at *
            clear hM
            clear hrb hst hpe q1 q2 hq hnb ho HO hlen
            go_wp2_with fail
            refine hN.mono ?_
            rintro e w4 ⟨z, rfl, ho4, hB4⟩
            go_wp2_with fail
            refine ⟨⟨k + 1, by omega, by push_cast; rfl, ?_, hB2.trans (hB4.mono hB2.size)⟩, ?_⟩
            · have := ho4.base hB2.size
              rw [← HM.out]; exact this
            · simp [intOf]; omega
          · rw [if_neg hbig] at hpe
            have hbig' : ¬ (65536 : Int) < ((P ++ b.map (addS x)).length : Nat) := by omega
            have HE := hid hpe
            obtain ⟨R, hR⟩ : ∃ R, R = P ++ b.map (addS x) := ⟨_, rfl⟩
            rw [← hR] at ho HE hbig' 
            obtain ⟨A3, c3, hv3, hc3, hm3⟩ := list_form ho.rel
            subst hv3
            have HO3 := hid ho
            clear hrb hst hpe q1 q2 hq hnb ho HO hlen hpl hbig hR
            go_wp2_with fail
            refine ⟨⟨k + 1, by omega, by push_cast; rfl, by rw [HE.out]; exact HO3.out, hB2⟩, ?_⟩
            simp [intOf]; omega
    · obtain rfl : k = a.length := by omega
      have hN := Norm_calls (plusPart a b a.length) _ wo ho.rel (by omega)
      rw [← hF.out] at hN
      obtain ⟨A3, c3, rfl, hc3, hm3⟩ := list_form ho.rel
      clear hra hlk hlen ho
      go_wp2_with fail
      refine hN.mono ?_
      rintro e w4 ⟨z, rfl, ho4, hB4⟩
      go_wp2_with fail
      go_ret
      exact ⟨_, rfl, ho4.base hB.size, hB.trans (hB4.mono hB.size)⟩
end Go.Proofs.YtmkmikacfilbpaaGreat
