/-
  The program's parts: bits, Right, Whole, Value, as plain arithmetic. The program's terms: small, outer, plain, rising, numbers, Right, as plain arithmetic. The program's term.Right.
-/
import Derived.Test.YthfcbbdghggefaaGreatRows
import Derived.Test.YthfcbbdghggefaaGreatPa
import Derived.Test.YthfcbbdghggefaaGreatPd
import Derived.Laws.BitsLemmas
import Derived.Deep.QuietTactic
import Derived.BigQuiet
namespace Go.Proofs.YthfcbbdghggefaaGreat
open Go.Proofs Go.Um Go.RowKit
def pval (p : Part) : Value := .agg #[.int .i64 p.at_, .int .i64 p.drop, .int .i64 p.take, .int .i64 p.up]
theorem beq_t {a b : Int} (h : a = b) : (a == b) = true := by simpa using h
theorem beq_f {a b : Int} (h : ¬ a = b) : (a == b) = false := by simpa using h
set_option maxHeartbeats 1000000 in
set_option maxRecDepth 100000 in
theorem bits_calls (p : Part) (w : World) : Calls Tryz.prog 115 #[pval p] w fun e w' => e = .returned (.bool (bitsF p)) ∧ Below w.heap.size w w' := by
  unfold pval
  obtain ⟨a, d, t, u⟩ := p
  dsimp only
  by_cases h0 : 0 ≤ d
  by_cases h1 : d < 21
  by_cases h2 : 1 ≤ t
  by_cases h3 : t ≤ 21
  by_cases h4 : 0 ≤ u
  by_cases h5 : u < 21
  by_cases h6 : u = 0
  · have hb : bitsF ⟨a, d, t, u⟩ = true := decide_eq_true (by dsimp only; omega)
    have h7 := beq_t h6
    rw [hb]
    clear hb h6
    go_enter Tryz.func115, Tryz.ntmps115
    go_wp2_with fail
    go_ret
    exact ⟨rfl, (Below.refl _ _).alloc (Nat.le_refl _) _⟩
  have h7 := beq_f h6
  by_cases h8 : t ≤ 6
  all_goals
    first
      | (have hb : bitsF ⟨a, d, t, u⟩ = true := decide_eq_true (by dsimp only; omega)
         rw [hb]
         clear hb)
      | (have hb : bitsF ⟨a, d, t, u⟩ = false := decide_eq_false (by dsimp only; omega)
         rw [hb]
         clear hb)
    go_enter Tryz.func115, Tryz.ntmps115
    go_wp2_with fail
    go_ret
    exact ⟨rfl, (Below.refl _ _).alloc (Nat.le_refl _) _⟩
set_option maxHeartbeats 1000000 in
set_option maxRecDepth 100000 in
theorem Right_calls (p : Part) (n : Int) (w : World) : Calls Tryz.prog 105 #[pval p, .int .i64 n] w fun e w' => e = .returned (.bool (rightP p n)) ∧ Below w.heap.size w w' := by
  have hc := fun W => bits_calls p W
  have hr : rightP p n = (decide (0 ≤ p.at_) && decide (p.at_ < n) && bitsF p) := rfl
  rw [hr]
  clear hr
  unfold pval at hc ⊢
  generalize bitsF p = bb at hc ⊢
  obtain ⟨a, d, t, u⟩ := p
  dsimp only at hc ⊢
  by_cases h0 : 0 ≤ a
  by_cases h1 : a < n
  · go_enter Tryz.func105, Tryz.ntmps105
    go_wp2_with (go_at_call 115; refine (hc _).mono ?_; rintro e w' ⟨rfl, hB⟩)
    go_ret
    refine ⟨by simp [h0, h1], ((Below.refl w.heap.size w).alloc (Nat.le_refl _) _).trans (hB.mono (by simp))⟩
  all_goals
    go_enter Tryz.func105, Tryz.ntmps105
    go_wp2_with fail
    go_ret
    exact ⟨by simp; intros; exfalso; omega, (Below.refl _ _).alloc (Nat.le_refl _) _⟩
set_option maxHeartbeats 1000000 in
set_option maxRecDepth 100000 in
theorem Whole_calls (a : Int) (w : World) : Calls Tryz.prog 44 #[.int .i64 a] w fun e w' => e = .returned (pval (wholeP a)) ∧ Below w.heap.size w w' := by
  unfold pval wholeP
  go_enter Tryz.func44, Tryz.ntmps44
  go_wp2_with fail
  exact bodyPost_ret (v := .agg #[.int .i64 a, .int .i64 0, .int .i64 21, .int .i64 0]) (by simp [results, Tryz.results44, go_sem]) rfl ⟨rfl, (Below.refl _ _).alloc (Nat.le_refl _) _⟩
theorem wrap64_pw {k : Int} (h : k ≤ 21) : wrap64 (2 ^ k.toNat) = pw k := by
  show wrap64 (pw k) = pw k
  have h1 := pw_21 h
  have h2 := pw_pos k
  exact IntWalk.wrap64_in _ ⟨by omega, by omega⟩
theorem mask_eq {k : Int} (h : k ≤ 21) : wrap64 (wrap64 (2 ^ k.toNat) - 1) = pw k - 1 := by
  rw [wrap64_pw h]
  have h1 := pw_21 h
  have h2 := pw_pos k
  exact IntWalk.wrap64_in _ ⟨by omega, by omega⟩
theorem and_mask {a k : Int} (h0 : 0 ≤ a) (h1 : a < 9223372036854775808) (hk : k ≤ 21) : bits .and .i64 a (pw k - 1) = a % pw k :=
  bits_mask .i64 63 (by decide) (fun n h2 h3 => by rw [IntKind.wrap_i64]; omega) k.toNat (by omega) a h0 h1
theorem div_bound {x d : Int} (h0 : 0 ≤ x) (h1 : x < 9223372036854775808) : 0 ≤ x / pw d ∧ x / pw d < 9223372036854775808 := by
  refine ⟨Int.ediv_nonneg h0 (by have := pw_pos d; omega), ?_⟩
  have := Int.ediv_le_self (pw d) h0
  omega
set_option maxHeartbeats 1000000 in
set_option maxRecDepth 100000 in
theorem Value_calls (p : Part) (x : Int) (w : World) : Calls Tryz.prog 106 #[pval p, .int .i64 x] w fun e w' =>
    e = .returned (if bitsF p = true ∧ 0 ≤ x ∧ x ≤ 2097151 then .tuple #[.int .i64 (valF p x), .bool true] else .tuple #[.int .i64 0, .bool false]) ∧ Below w.heap.size w w' := by
  have hc := fun W => bits_calls p W
  unfold pval at hc ⊢
  by_cases hb : bitsF p = true
  · have hbb := bitsF_iff.1 hb
    have hle := valF_le hb x
    have hge := valF_nonneg p x
    rw [hb] at hc ⊢
    have hv : valF p x = x / pw p.drop % pw p.take * pw p.up := rfl
    rw [hv] at hle hge ⊢
    obtain ⟨a, d, t, u⟩ := p
    dsimp only at hc hbb hle hge ⊢
    clear hv hb
    by_cases h0 : 0 ≤ x
    by_cases h1 : x ≤ 2097151
    · obtain ⟨q1, q2, q3, q4, q5, q6, q7⟩ := hbb
      rw [if_pos ⟨rfl, h0, h1⟩]
      have h0' : ¬ x < 0 := by omega
      have h1' : ¬ 2097151 < x := by omega
      have hdv := div_bound (d := d) h0 (by omega)
      have HV : Hid (wrap64 (bits BinOp.and IntKind.i64 (x / 2 ^ d.toNat) (wrap64 (wrap64 (2 ^ t.toNat) - 1)) * 2 ^ u.toNat) = x / pw d % pw t * pw u) := hid (by
        rw [mask_eq q4, show x / 2 ^ d.toNat = x / pw d from rfl, and_mask hdv.1 hdv.2 q4, show (2 : Int) ^ u.toNat = pw u from rfl]
        exact IntWalk.wrap64_in _ ⟨by omega, by omega⟩)
      clear hdv hle hge
      go_enter Tryz.func106, Tryz.ntmps106
      go_wp2_with (go_at_call 115; refine (hc _).mono ?_; rintro e w' ⟨rfl, hB⟩)
      have hBw : Below w.heap.size w w' := ((Below.refl w.heap.size w).alloc (Nat.le_refl _) _).trans (hB.mono (by simp))
      have c1 := (hB.cell (p := ⟨w.heap.size, 1, none⟩) (by simp)).trans (show _ = some (.int .i64 d) by go_simp)
      have c2 := (hB.cell (p := ⟨w.heap.size, 2, none⟩) (by simp)).trans (show _ = some (.int .i64 t) by go_simp)
      have c3 := (hB.cell (p := ⟨w.heap.size, 3, none⟩) (by simp)).trans (show _ = some (.int .i64 u) by go_simp)
      go_quiet (fail)
      go_wp2_with fail
      go_ret2
      exact ⟨by rw [HV.out]; rfl, below_drewN hBw _⟩
    all_goals
      clear hbb hle hge
      rw [if_neg (by omega)]
      first
        | (have h0' : x < 0 := by omega
           clear h0)
        | (have h0' : ¬ x < 0 := by omega
           have h1' : 2097151 < x := by omega
           clear h1)
      go_enter Tryz.func106, Tryz.ntmps106
      go_wp2_with (go_at_call 115; refine (hc _).mono ?_; rintro e w' ⟨rfl, hB⟩)
      go_ret2
      exact ⟨rfl, ((Below.refl w.heap.size w).alloc (Nat.le_refl _) _).trans (hB.mono (by simp))⟩
  · have hb' : bitsF p = false := by simpa using hb
    rw [hb'] at hc
    rw [if_neg (fun h => hb h.1)]
    obtain ⟨a, d, t, u⟩ := p
    dsimp only at hc ⊢
    clear hb hb'
    go_enter Tryz.func106, Tryz.ntmps106
    go_wp2_with (go_at_call 115; refine (hc _).mono ?_; rintro e w' ⟨rfl, hB⟩)
    go_ret2
    exact ⟨rfl, ((Below.refl w.heap.size w).alloc (Nat.le_refl _) _).trans (hB.mono (by simp))⟩
end Go.Proofs.YthfcbbdghggefaaGreat
namespace Go.Proofs.YthfcbbdghggefaaGreat
open Go.Proofs Go.Um Go.RowKit
def tval (t : Term) (v : Value) : Value := .agg #[.int .i64 t.base, .int .i64 t.drop, .int .i64 t.take, .int .i64 t.up, .int .i64 t.sum, v]
set_option maxHeartbeats 1000000 in
set_option maxRecDepth 100000 in
theorem tsmall_calls (x : Int) (w : World) : Calls Tryz.prog 154 #[.int .i64 x] w fun e w' => e = .returned (.bool (smallN x)) ∧ Below w.heap.size w w' := by
  by_cases h0 : -1114111 ≤ x
  by_cases h1 : x ≤ 1114111
  all_goals
    first
      | (have hb : smallN x = true := smallN_iff.2 (by omega)
         rw [hb]
         clear hb)
      | (have hb : smallN x = false := Bool.eq_false_iff.2 (fun h => by have := smallN_iff.1 h; omega)
         rw [hb]
         clear hb)
    go_enter Tryz.func154, Tryz.ntmps154
    go_wp2_with fail
    go_ret
    exact ⟨rfl, Below.refl _ _⟩
set_option maxHeartbeats 1000000 in
set_option maxRecDepth 100000 in
theorem outer_calls (t : Term) (v : Value) (w : World) : Calls Tryz.prog 107 #[tval t v] w fun e w' => e = .returned (pval (outerT t)) ∧ Below w.heap.size w w' := by
  unfold pval tval outerT
  obtain ⟨b, d, k, u, s, ps⟩ := t
  dsimp only
  go_enter Tryz.func107, Tryz.ntmps107
  go_wp2_with fail
  exact bodyPost_ret (v := .agg #[.int .i64 0, .int .i64 d, .int .i64 k, .int .i64 u]) (by simp [results, Tryz.results107, go_sem]) rfl ⟨rfl, (((Below.refl w.heap.size w).alloc (Nat.le_refl _) _).alloc (by simp) _)⟩
def restR (l : List Part) : Nat → Bool
  | 0 => risingP l
  | j + 1 => match l[j]? with | some q => risesP q.up (l.drop (j + 1)) | none => true
theorem restR_zero {l : List Part} {x : Part} (h : l[0]? = some x) : restR l 0 = restR l 1 := by
  cases l with
  | nil => cases h
  | cons y r => simp [restR, risingP]
theorem restR_succ {l : List Part} {q x : Part} {j : Nat} (hq : l[j]? = some q) (h : l[j + 1]? = some x) : restR l (j + 1) = (decide (q.up < x.up) && restR l (j + 2)) := by
  simp only [restR, hq, h]
  rw [drop_cons h]
  rfl
theorem restR_end {l : List Part} : restR l l.length = true := by
  cases hl : l.length with
  | zero => simp [restR, List.eq_nil_of_length_eq_zero hl, risingP]
  | succ j =>
    have : l[j]? = some l[j] := List.getElem?_eq_getElem (by omega)
    simp only [restR, this]
    rw [List.drop_eq_nil_of_le (by omega)]
    rfl
set_option maxHeartbeats 1000000 in
set_option maxRecDepth 100000 in
theorem rising_calls (l : List Part) (v : Value) (w : World) (h : (listR partR).rel w (upto w.heap.size) [v] l) : Calls Tryz.prog 155 #[v] w fun e w' => e = .returned (.bool (risingP l && decide (l.length ≤ 4))) ∧ Below w.heap.size w w' := by
  obtain ⟨A, c, rfl, hc, hm⟩ := list_form h
  unfold maxLen at hm
  go_enter Tryz.func155, Tryz.ntmps155
  go_wp2_with fail
  go_loopw [7] (fun vi wr => ∃ k : Nat, k ≤ l.length ∧ vi = .int .i64 k ∧ Hid (restR l 0 = restR l k) ∧ Below w.heap.size w wr) (fun vi _ => l.length - (intOf vi).toNat)
  case atStart => exact ⟨0, Nat.zero_le _, rfl, hid rfl, Below.refl _ _⟩
  case round =>
    obtain ⟨k, hk, rfl, HR, hB⟩ := hrel
    have hr := (listR partR).mono (below_cells hB) (fun _ h => h) h
    by_cases hlt : k < l.length
    · obtain ⟨x, hx⟩ := at_lt hlt
      have hlt' : (k : Int) < l.length := by omega
      obtain ⟨b, o, rfl, hb, p1, p2, p3, p4, hok⟩ := part_at hr hx
      have hbs : b < wr.heap.size := Nat.lt_of_lt_of_le hb hB.size
      cases k with
      | zero =>
        have HR2 : Hid (restR l 0 = restR l 1) := hid (restR_zero hx)
        clear hx HR hr
        simp only [Nat.zero_mul, Nat.add_zero] at p1 p2 p3 p4
        go_wp2_with fail
        go_quiet (fail)
        go_wp2_with fail
        go_roundw
        case rel => exact ⟨1, by omega, rfl, HR2, below_drewN (hB.alloc hB.size _) _⟩
        case measure => simp [intOf]; omega
      | succ j =>
        have hj : j < l.length := by omega
        obtain ⟨q, hq⟩ := at_lt hj
        obtain ⟨b', o', hbo, _, r1, r2, r3, r4, _⟩ := part_at hr hq
        simp only [Option.some.injEq, Addr.mk.injEq, and_true] at hbo
        obtain ⟨rfl, rfl⟩ := hbo
        have hst := restR_succ hq hx
        have hj' : ((j : Int) + 1) < l.length := by omega
        have r4' : ∀ o1, (wr.alloc o1).cell? ⟨b, o + j * 4 + 3, none⟩ = some (.int .i64 q.up) := fun o1 => (((Below.refl wr.heap.size wr).alloc (Nat.le_refl _) o1).cell (p := ⟨b, o + j * 4 + 3, none⟩) hbs).trans r4
        have hpos : decide (0 < (j : Int) + 1) = true := decide_eq_true (by omega)
        by_cases hup : q.up < x.up
        · have HR2 : Hid (restR l 0 = restR l (j + 2)) := hid (by rw [HR.out, hst, decide_eq_true hup]; rfl)
          have hup1 : ¬ x.up ≤ q.up := by omega
          have hup2 : decide (x.up ≤ q.up) = false := decide_eq_false hup1
          clear hx HR hr hst hup hq
          go_wp2_with fail
          go_quiet (fail)
          go_wp2_with fail
          go_roundw
          case rel => exact ⟨j + 2, by omega, by push_cast; rfl, HR2, below_drewN (hB.alloc hB.size _) _⟩
          case measure => simp [intOf]; omega
        · have HR2 : Hid (risingP l = false) := hid (by rw [show risingP l = restR l 0 from rfl, HR.out, hst, decide_eq_false hup]; rfl)
          have hup1 : x.up ≤ q.up := by omega
          have hup2 : decide (x.up ≤ q.up) = true := decide_eq_true hup1
          clear hx HR hr hst hup hq
          go_wp2_with fail
          go_quiet (fail)
          go_wp2_with fail
          go_ret
          exact ⟨by rw [HR2.out]; rfl, below_drewN (hB.alloc hB.size _) _⟩
    · obtain rfl : k = l.length := by omega
      have HR2 : Hid (risingP l = true) := hid (by rw [show risingP l = restR l 0 from rfl, HR.out, restR_end])
      clear HR hr
      by_cases h4 : l.length ≤ 4
      · have h4' : (l.length : Int) ≤ 4 := by omega
        have H4 : Hid (decide (l.length ≤ 4) = true) := hid (decide_eq_true h4)
        clear h4
        go_wp2_with fail
        go_ret
        exact ⟨by rw [HR2.out, H4.out]; rfl, hB⟩
      · have h4' : ¬ (l.length : Int) ≤ 4 := by omega
        have H4 : Hid (decide (l.length ≤ 4) = false) := hid (decide_eq_false h4)
        clear h4
        go_wp2_with fail
        go_ret
        exact ⟨by rw [HR2.out, H4.out]; rfl, hB⟩
set_option maxHeartbeats 1000000 in
set_option maxRecDepth 100000 in
theorem plain_calls (t : Term) (v : Value) (w : World) : Calls Tryz.prog 136 #[tval t v] w fun e w' => e = .returned (.bool (plainT t)) ∧ Below w.heap.size w w' := by
  have ho := fun W => outer_calls t v W
  have hw := fun W => Whole_calls 0 W
  unfold pval outerT at ho
  unfold pval wholeP at hw
  unfold tval at ho ⊢
  obtain ⟨b, d, k, u, s, ps⟩ := t
  dsimp only at ho hw ⊢
  by_cases h0 : b = 0
  · subst h0
    have hF : Hid (plainT ⟨0, d, k, u, s, ps⟩ = decide (d = 0 ∧ k = 21 ∧ u = 0)) := hid (by unfold plainT; simp)
    go_enter Tryz.func136, Tryz.ntmps136
    go_wp2_with first
      | (go_at_call 107; refine (ho _).mono ?_; rintro e w1 ⟨rfl, hB1⟩)
      | (go_at_call 44; refine (hw _).mono ?_; rintro e w2 ⟨rfl, hB2⟩)
    all_goals
      go_ret
      refine ⟨?_, (((Below.refl w.heap.size w).alloc (Nat.le_refl _) _).trans (hB1.mono (by simp))).trans (hB2.mono (Nat.le_trans (by simp) hB1.size))⟩
      rw [hF.out]
      first
        | (rw [decide_eq_true (by omega)]; rfl)
        | (rw [decide_eq_false (by omega)]; rfl)
  · have h0' : (b == 0) = false := beq_f h0
    have hF : Hid (plainT ⟨b, d, k, u, s, ps⟩ = false) := hid (decide_eq_false fun h => h0 h.1)
    clear h0
    go_enter Tryz.func136, Tryz.ntmps136
    go_wp2_with fail
    go_ret
    exact ⟨by rw [hF.out]; rfl, (Below.refl w.heap.size w).alloc (Nat.le_refl _) _⟩
set_option maxHeartbeats 2000000 in
set_option maxRecDepth 100000 in
theorem numbers_calls (t : Term) (v : Value) (w : World) (h : (listR partR).rel w (upto w.heap.size) [v] t.parts) : Calls Tryz.prog 135 #[tval t v] w fun e w' => e = .returned (.bool (numbersF t)) ∧ Below w.heap.size w w' := by
  obtain ⟨A, c, rfl, hc, hm⟩ := list_form h
  have hs1 := fun W => tsmall_calls t.base W
  have hs2 := fun W => tsmall_calls t.sum W
  have ho := fun W => outer_calls t (.slice A t.parts.length c) W
  have hr := fun W => Right_calls (outerT t) 1 W
  have hp := fun W (hW : Below w.heap.size w W) => rising_calls t.parts _ W ((listR partR).below h hW hW.size)
  have hN : numbersF t = (smallN t.base && smallN t.sum && bitsF (outerT t) && (risingP t.parts && decide (t.parts.length ≤ 4))) := by unfold numbersF; simp [Bool.and_assoc]
  have hR : rightP (outerT t) 1 = bitsF (outerT t) := by unfold rightP outerT; simp
  rw [hN]
  rw [hR] at hr
  clear hN hR
  unfold pval outerT at ho
  unfold pval outerT at hr
  dsimp only at ho hr
  unfold tval at ho ⊢
  have e1 : bitsF (outerT t) = bitsF ⟨0, t.drop, t.take, t.up⟩ := rfl
  rw [e1]
  generalize bitsF ⟨0, t.drop, t.take, t.up⟩ = bb at *
  generalize smallN t.base = b1 at *
  generalize smallN t.sum = b2 at *
  generalize (risingP t.parts && decide (t.parts.length ≤ 4)) = b3 at *
  clear h e1
  obtain ⟨b, d, k, u, s, ps⟩ := t
  dsimp only at *
  have HP := hid hp
  clear hp
  cases b1
  · go_enter Tryz.func135, Tryz.ntmps135
    go_wp2_with (go_at_call 154; refine (hs1 _).mono ?_; rintro e w1 ⟨rfl, hB1⟩)
    go_ret
    exact ⟨rfl, ((Below.refl w.heap.size w).alloc (Nat.le_refl _) _).trans (hB1.mono (by simp))⟩
  cases b2
  · go_enter Tryz.func135, Tryz.ntmps135
    go_wp2_with fail
    refine (hs1 _).mono ?_
    rintro e w1 ⟨rfl, hB1⟩
    rw [World.size_alloc] at hB1
    obtain ⟨c0, c1, c2, c3, c4, c5⟩ := box6 hB1
    have hBw1 := ((Below.refl w.heap.size w).alloc (Nat.le_refl _) _).trans (hB1.mono (Nat.le_succ _))
    go_wp2_with fail
    refine (hs2 _).mono ?_
    rintro e w2 ⟨rfl, hB2⟩
    go_wp2_with fail
    go_ret
    exact ⟨rfl, hBw1.trans (hB2.mono hBw1.size)⟩
  cases bb
  · go_enter Tryz.func135, Tryz.ntmps135
    go_wp2_with fail
    refine (hs1 _).mono ?_
    rintro e w1 ⟨rfl, hB1⟩
    rw [World.size_alloc] at hB1
    obtain ⟨c0, c1, c2, c3, c4, c5⟩ := box6 hB1
    have hBw1 := ((Below.refl w.heap.size w).alloc (Nat.le_refl _) _).trans (hB1.mono (Nat.le_succ _))
    go_wp2_with fail
    refine (hs2 _).mono ?_
    rintro e w2 ⟨rfl, hB2⟩
    obtain ⟨d0, d1, d2, d3, d4, d5⟩ := box6 (hB1.trans (hB2.mono (by have := hB1.size; simp at this; omega)))
    have hBw2 := hBw1.trans (hB2.mono hBw1.size)
    go_wp2_with first
      | (go_at_call 107; refine (ho _).mono ?_; rintro e w3 ⟨rfl, hB3⟩)
      | (go_at_call 105; refine (hr _).mono ?_; rintro e w4 ⟨rfl, hB4⟩)
    go_ret
    have hBw3 := hBw2.trans (hB3.mono hBw2.size)
    exact ⟨rfl, hBw3.trans (hB4.mono hBw3.size)⟩
  · go_enter Tryz.func135, Tryz.ntmps135
    go_wp2_with fail
    refine (hs1 _).mono ?_
    rintro e w1 ⟨rfl, hB1⟩
    rw [World.size_alloc] at hB1
    obtain ⟨c0, c1, c2, c3, c4, c5⟩ := box6 hB1
    have hBw1 := ((Below.refl w.heap.size w).alloc (Nat.le_refl _) _).trans (hB1.mono (Nat.le_succ _))
    go_wp2_with fail
    refine (hs2 _).mono ?_
    rintro e w2 ⟨rfl, hB2⟩
    have hB12 := hB1.trans (hB2.mono (by have := hB1.size; simp at this; omega))
    obtain ⟨d0, d1, d2, d3, d4, d5⟩ := box6 hB12
    have hBw2 := hBw1.trans (hB2.mono hBw1.size)
    go_wp2_with first
      | (go_at_call 107; refine (ho _).mono ?_; rintro e w3 ⟨rfl, hB3⟩)
    refine (hr _).mono ?_
    rintro e w4 ⟨rfl, hB4⟩
    have hBw3 := hBw2.trans (hB3.mono hBw2.size)
    have hBw4 := hBw3.trans (hB4.mono hBw3.size)
    have hle : w.heap.size + 1 ≤ w2.heap.size := by have := hB12.size; simp at this; omega
    obtain ⟨g0, g1, g2, g3, g4, g5⟩ := box6 ((hB12.trans (hB3.mono hle)).trans (hB4.mono (Nat.le_trans hle hB3.size)))
    go_wp2_with fail
    refine (HP.out _ hBw4).mono ?_
    rintro e w5 ⟨rfl, hB5⟩
    go_wp2_with fail
    go_ret
    exact ⟨by cases b3 <;> rfl, hBw4.trans (hB5.mono hBw4.size)⟩
end Go.Proofs.YthfcbbdghggefaaGreat
namespace Go.Proofs.YthfcbbdghggefaaGreat
open Go.Proofs Go.Um Go.RowKit
theorem domF_sort {s : Int} (h : s = 1 ∨ s = 2) : (((domF s).length : Int) == 0) = false := by
  rcases h with rfl | rfl <;> rfl
theorem domF_none {s : Int} (h : ¬ (s = 1 ∨ s = 2)) : domF s = [] := by
  unfold domF; rw [if_neg (by omega), if_neg (by omega)]
/-- a part's four cells in a later world. -/
theorem box4 {w W : World} {x0 x1 x2 x3 : Value} {t : TypeId} (hB : Below (w.heap.size + 1) (w.alloc (.cells #[x0, x1, x2, x3] t)) W) :
    W.cell? ⟨w.heap.size, 0, none⟩ = some x0 ∧ W.cell? ⟨w.heap.size, 1, none⟩ = some x1 ∧ W.cell? ⟨w.heap.size, 2, none⟩ = some x2 ∧ W.cell? ⟨w.heap.size, 3, none⟩ = some x3 :=
  ⟨(hB.cell (p := ⟨w.heap.size, 0, none⟩) (by simp)).trans (by go_simp), (hB.cell (p := ⟨w.heap.size, 1, none⟩) (by simp)).trans (by go_simp), (hB.cell (p := ⟨w.heap.size, 2, none⟩) (by simp)).trans (by go_simp), (hB.cell (p := ⟨w.heap.size, 3, none⟩) (by simp)).trans (by go_simp)⟩
set_option maxHeartbeats 2000000 in
set_option maxRecDepth 100000 in
theorem tRight_calls (t : Term) (v : Value) (inn out n : Int) (w : World) (h : (listR partR).rel w (upto w.heap.size) [v] t.parts) : Calls Tryz.prog 118 #[tval t v, .int .i64 inn, .int .i64 out, .int .i64 n] w fun e w' => e = .returned (.bool (rightF t inn out n)) ∧ Below w.heap.size w w' := by
  obtain ⟨A, c, rfl, hc, hm⟩ := list_form h
  unfold maxLen at hm
  have HN := hid fun W (hW : Below w.heap.size w W) => numbers_calls t (.slice A t.parts.length c) W ((listR partR).below h hW hW.size)
  have HP := hid fun W => plain_calls t (.slice A t.parts.length c) W
  have HF : Hid (rightF t inn out n = (sortF inn && sortF out && numbersF t && t.parts.all (fun p => rightP p n && decide (inn = 2 → p = wholeP p.at_)) && decide (inn = 2 → t.parts.length ≤ 1) && decide (out = 2 → plainT t = true))) := hid rfl
  unfold tval at HN HP ⊢
  obtain ⟨b, d, k, u, s, ps⟩ := t
  dsimp only at HN HP HF h hc ⊢
  by_cases hi : inn = 1 ∨ inn = 2
  · by_cases hO : out = 1 ∨ out = 2
    · have ei := domF_sort hi
      have eo := domF_sort hO
      have si : sortF inn = true := decide_eq_true hi
      have so : sortF out = true := decide_eq_true hO
      rw [si, so] at HF
      clear si so
      cases hn : numbersF ⟨b, d, k, u, s, ps⟩
      · rw [hn] at HN HF
        clear hi hO hn
        go_enter Tryz.func118, Tryz.ntmps118
        go_wp2_with fail
        refine (Domain_calls inn _).mono ?_
        rintro e w1 ⟨v1, rfl, ho1, hB1⟩
        obtain ⟨A1, c1, rfl, hc1, hm1⟩ := list_form ho1.rel
        clear ho1
        have hBw1 := ((Below.refl w.heap.size w).alloc (Nat.le_refl _) _).trans (hB1.mono (by simp))
        rw [World.size_alloc] at hB1
        go_wp2_with fail
        refine (Domain_calls out _).mono ?_
        rintro e w2 ⟨v2, rfl, ho2, hB2⟩
        obtain ⟨A2, c2, rfl, hc2, hm2⟩ := list_form ho2.rel
        clear ho2
        have hBw2 := hBw1.trans (hB2.mono hBw1.size)
        have hB12 := hB1.trans (hB2.mono (by have := hB1.size; simp at this; omega))
        obtain ⟨d0, d1, d2, d3, d4, d5⟩ := box6 hB12
        go_wp2_with fail
        refine (HN.out _ hBw2).mono ?_
        rintro e w3 ⟨rfl, hB3⟩
        have hBw3 := hBw2.trans (hB3.mono hBw2.size)
        have hB13 := hB12.trans (hB3.mono (by have := hB12.size; simp at this; omega))
        obtain ⟨g0, g1, g2, g3, g4, g5⟩ := box6 hB13
        have hlt3 : w.heap.size < w3.heap.size := by have := hB13.size; simp at this; omega
        clear d0 d1 d2 d3 d4 d5 hB1 hB2 hB3 hB12
        go_wp2_with fail
        go_ret
        exact ⟨by rw [HF.out]; rfl, hBw3⟩
      · rw [hn] at HN HF
        clear hi hO hn
        go_enter Tryz.func118, Tryz.ntmps118
        go_wp2_with fail
        refine (Domain_calls inn _).mono ?_
        rintro e w1 ⟨v1, rfl, ho1, hB1⟩
        obtain ⟨A1, c1, rfl, hc1, hm1⟩ := list_form ho1.rel
        clear ho1
        have hBw1 := ((Below.refl w.heap.size w).alloc (Nat.le_refl _) _).trans (hB1.mono (by simp))
        rw [World.size_alloc] at hB1
        go_wp2_with fail
        refine (Domain_calls out _).mono ?_
        rintro e w2 ⟨v2, rfl, ho2, hB2⟩
        obtain ⟨A2, c2, rfl, hc2, hm2⟩ := list_form ho2.rel
        clear ho2
        have hBw2 := hBw1.trans (hB2.mono hBw1.size)
        have hB12 := hB1.trans (hB2.mono (by have := hB1.size; simp at this; omega))
        obtain ⟨d0, d1, d2, d3, d4, d5⟩ := box6 hB12
        go_wp2_with fail
        refine (HN.out _ hBw2).mono ?_
        rintro e w3 ⟨rfl, hB3⟩
        have hBw3 := hBw2.trans (hB3.mono hBw2.size)
        have hB13 := hB12.trans (hB3.mono (by have := hB12.size; simp at this; omega))
        obtain ⟨g0, g1, g2, g3, g4, g5⟩ := box6 hB13
        have hlt3 : w.heap.size < w3.heap.size := by have := hB13.size; simp at this; omega
        clear d0 d1 d2 d3 d4 d5 hB1 hB2 hB3 hB12
        clear ei eo HN
        go_wp2_with fail
        go_loopw [29] (fun vi wr => ∃ k' : Nat, k' ≤ ps.length ∧ vi = .int .i64 k' ∧ Hid ((ps.drop k').all (fun p => rightP p n && decide (inn = 2 → p = wholeP p.at_)) = ps.all (fun p => rightP p n && decide (inn = 2 → p = wholeP p.at_))) ∧ Below w3.heap.size w3 wr) (fun vi _ => ps.length - (intOf vi).toNat)
        case atStart => exact ⟨0, Nat.zero_le _, rfl, hid rfl, Below.refl _ _⟩
        case round =>
          obtain ⟨j, hj, rfl, HR, hB⟩ := hrel
          obtain ⟨wo, hwo⟩ : ∃ wo, wo = wr := ⟨_, rfl⟩
          subst hwo
          have hBw : Below w.heap.size w wo := hBw3.trans (hB.mono hBw3.size)
          have hr := (listR partR).mono (below_cells hBw) (fun _ h => h) h
          by_cases hlt : j < ps.length
          · obtain ⟨x, hx⟩ := at_lt hlt
            have hlt' : (j : Int) < ps.length := by omega
            obtain ⟨bb, o, rfl, hb, p1, p2, p3, p4, hok⟩ := part_at hr hx
            have HR2 : Hid (((rightP x n && decide (inn = 2 → x = wholeP x.at_)) && (ps.drop (j + 1)).all (fun p => rightP p n && decide (inn = 2 → p = wholeP p.at_))) = ps.all (fun p => rightP p n && decide (inn = 2 → p = wholeP p.at_))) := hid (by have := HR.out; rw [drop_cons hx] at this; exact this)
            clear hx hr HR hb
            cases hrp : rightP x n
            · have hF : Hid (ps.all (fun p => rightP p n && decide (inn = 2 → p = wholeP p.at_)) = false) := hid (by rw [← HR2.out, hrp]; rfl)
              have HC := hid fun W => Right_calls x n W
              rw [hrp] at HC
              unfold pval at HC
              clear HR2 hrp
              go_wp2_with fail
              have ha0 : (wo.alloc (.cells #[.int .i64 x.at_, .int .i64 x.drop, .int .i64 x.take, .int .i64 x.up] 72)).heap.size = wo.heap.size + 1 := by simp
              have haB := (Below.refl wo.heap.size wo).alloc (Nat.le_refl _) (.cells #[.int .i64 x.at_, .int .i64 x.drop, .int .i64 x.take, .int .i64 x.up] 72)
              obtain ⟨l0, l1, l2, l3⟩ := box4 (Below.refl (wo.heap.size + 1) (wo.alloc (.cells #[.int .i64 x.at_, .int .i64 x.drop, .int .i64 x.take, .int .i64 x.up] 72)))
              generalize (wo.alloc (.cells #[.int .i64 x.at_, .int .i64 x.drop, .int .i64 x.take, .int .i64 x.up] 72)) = wa at *
              obtain ⟨ι, W, ⟨i0, hi0⟩, hW, Wsur⟩ := ext_class wa.drew
              have hne : Nonempty ι := ⟨i0⟩
              have WS := hid Wsur; clear Wsur
              have HW := hid hW; clear hW
              have Hi0 := hid hi0; clear hi0
              refine region_anyL (S := fun w' => ∃ i, w' = W i) (last := 15) (by kernel_rfl) ?_
              have hwd : wo.heap.size < wa.drew.heap.size := by show wo.heap.size < wa.heap.size; omega
              have M0 : ∀ i, (W i).cell? ⟨wo.heap.size, 0, none⟩ = some (.int .i64 x.at_) := fun i => ((HW.out i).cell (p := ⟨wo.heap.size, 0, none⟩) hwd).trans l0
              have M1 : ∀ i, (W i).cell? ⟨wo.heap.size, 1, none⟩ = some (.int .i64 x.drop) := fun i => ((HW.out i).cell (p := ⟨wo.heap.size, 1, none⟩) hwd).trans l1
              have M2 : ∀ i, (W i).cell? ⟨wo.heap.size, 2, none⟩ = some (.int .i64 x.take) := fun i => ((HW.out i).cell (p := ⟨wo.heap.size, 2, none⟩) hwd).trans l2
              have M3 : ∀ i, (W i).cell? ⟨wo.heap.size, 3, none⟩ = some (.int .i64 x.up) := fun i => ((HW.out i).cell (p := ⟨wo.heap.size, 3, none⟩) hwd).trans l3
              refine anyL_seg 0 2 (by kernel_rfl) (fun _ _ _ _ _ h => h) ⟨i0, Hi0.out.symm⟩ (f := 13) rfl (by kernel_rfl) (by kernel_rfl) ?_
              simp only [List.drop_zero, List.take_succ_cons, List.take_zero]
              repeat go_big_quiet_step (fail)
              refine wpQuiet_nil ?_
              refine anyL_act (i := 2) (by kernel_rfl) rfl rfl ?_
              intro K hK
              go_wp2_with fail
              refine (HC.out _).mono ?_
              rintro e w7 ⟨rfl, hB7⟩
              have hS7 := WS.out i0 w7 (by rw [Hi0.out]; exact hB7)
              have hB7' : Below wa.heap.size wa w7 := ⟨hB7.os, hB7.tape, hB7.output, hB7.size, hB7.block⟩
              have hsz7 : wo.heap.size < w7.heap.size := by have := hB7'.size; omega
              have m0 := (hB7'.cell (p := ⟨wo.heap.size, 0, none⟩) (show wo.heap.size < wa.heap.size by omega)).trans l0
              have m1 := (hB7'.cell (p := ⟨wo.heap.size, 1, none⟩) (show wo.heap.size < wa.heap.size by omega)).trans l1
              have m2 := (hB7'.cell (p := ⟨wo.heap.size, 2, none⟩) (show wo.heap.size < wa.heap.size by omega)).trans l2
              have m3 := (hB7'.cell (p := ⟨wo.heap.size, 3, none⟩) (show wo.heap.size < wa.heap.size by omega)).trans l3
              have hoa : Below wo.heap.size wo w7 := haB.trans (hB7'.mono (by omega))
              have hBw7 : Below w.heap.size w w7 := hBw.trans (hoa.mono hBw.size)
              have hB37 : Below w3.heap.size w3 w7 := hB.trans (hoa.mono hB.size)
              clear hB7 hoa
              go_wp2_with fail
              refine hK.out _ _ (fun _ => hS7) ?_
              clear hK K
              refine anyL_seg 3 8 (by kernel_rfl) (fun _ _ _ _ _ h => h) hS7 (f := 4) rfl (by kernel_rfl) (by kernel_rfl) ?_
              simp only [List.drop_succ_cons, List.drop_zero, List.take_succ_cons, List.take_zero]
              repeat go_big_quiet_step (fail)
              refine wpQuiet_nil ?_
              refine anyL_skip (i := 11) (by kernel_rfl) rfl (by rfl) hS7 ?_
              go_simp
              refine anyL_seg 12 3 (by kernel_rfl) (fun _ _ _ _ _ h => h) hS7 (f := 0) rfl (by kernel_rfl) (by kernel_rfl) ?_
              simp only [List.drop_succ_cons, List.drop_zero, List.take_succ_cons, List.take_zero]
              repeat go_big_quiet_step (fail)
              refine wpQuiet_nil ?_
              refine anyL_done (by kernel_rfl) ?_ 0
              go_wp2_with fail
              go_ret
              exact ⟨by rw [HF.out, hF.out]; simp, hBw7⟩
            · have HC := hid fun W => Right_calls x n W
              rw [hrp] at HC
              unfold pval at HC
              by_cases hi2 : inn = 2
              · have hi2' := beq_t hi2
                subst hi2
                by_cases hxw : x = wholeP x.at_
                · have HR3 : Hid ((ps.drop (j + 1)).all (fun p => rightP p n && decide ((2 : Int) = 2 → p = wholeP p.at_)) = ps.all (fun p => rightP p n && decide ((2 : Int) = 2 → p = wholeP p.at_))) := hid (by rw [← HR2.out, hrp, decide_eq_true (fun _ => hxw)]; rfl)
                  have hw := fun W => Whole_calls x.at_ W
                  unfold pval wholeP at hw
                  have e1 : x.drop = 0 := by rw [hxw]; rfl
                  have e2 : x.take = 21 := by rw [hxw]; rfl
                  have e3 : x.up = 0 := by rw [hxw]; rfl
                  have HC2 := hid hw
                  rw [e1, e2, e3] at HC
                  rw [e1] at p2
                  rw [e2] at p3
                  rw [e3] at p4
                  clear HR2 hrp hxw hw e1 e2 e3
                  go_wp2_with fail
                  have ha0 : (wo.alloc (.cells #[.int .i64 x.at_, .int .i64 0, .int .i64 21, .int .i64 0] 72)).heap.size = wo.heap.size + 1 := by simp
                  have haB := (Below.refl wo.heap.size wo).alloc (Nat.le_refl _) (.cells #[.int .i64 x.at_, .int .i64 0, .int .i64 21, .int .i64 0] 72)
                  obtain ⟨l0, l1, l2, l3⟩ := box4 (Below.refl (wo.heap.size + 1) (wo.alloc (.cells #[.int .i64 x.at_, .int .i64 0, .int .i64 21, .int .i64 0] 72)))
                  generalize (wo.alloc (.cells #[.int .i64 x.at_, .int .i64 0, .int .i64 21, .int .i64 0] 72)) = wa at *
                  obtain ⟨ι, W, ⟨i0, hi0⟩, hW, Wsur⟩ := ext_class wa.drew
                  have hne : Nonempty ι := ⟨i0⟩
                  have WS := hid Wsur; clear Wsur
                  have HW := hid hW; clear hW
                  have Hi0 := hid hi0; clear hi0
                  refine region_anyL (S := fun w' => ∃ i, w' = W i) (last := 15) (by kernel_rfl) ?_
                  have hwd : wo.heap.size < wa.drew.heap.size := by show wo.heap.size < wa.heap.size; omega
                  have M0 : ∀ i, (W i).cell? ⟨wo.heap.size, 0, none⟩ = some (.int .i64 x.at_) := fun i => ((HW.out i).cell (p := ⟨wo.heap.size, 0, none⟩) hwd).trans l0
                  have M1 : ∀ i, (W i).cell? ⟨wo.heap.size, 1, none⟩ = some (.int .i64 0) := fun i => ((HW.out i).cell (p := ⟨wo.heap.size, 1, none⟩) hwd).trans l1
                  have M2 : ∀ i, (W i).cell? ⟨wo.heap.size, 2, none⟩ = some (.int .i64 21) := fun i => ((HW.out i).cell (p := ⟨wo.heap.size, 2, none⟩) hwd).trans l2
                  have M3 : ∀ i, (W i).cell? ⟨wo.heap.size, 3, none⟩ = some (.int .i64 0) := fun i => ((HW.out i).cell (p := ⟨wo.heap.size, 3, none⟩) hwd).trans l3
                  refine anyL_seg 0 2 (by kernel_rfl) (fun _ _ _ _ _ h => h) ⟨i0, Hi0.out.symm⟩ (f := 13) rfl (by kernel_rfl) (by kernel_rfl) ?_
                  simp only [List.drop_zero, List.take_succ_cons, List.take_zero]
                  repeat go_big_quiet_step (fail)
                  refine wpQuiet_nil ?_
                  refine anyL_act (i := 2) (by kernel_rfl) rfl rfl ?_
                  intro K hK
                  go_wp2_with fail
                  refine (HC.out _).mono ?_
                  rintro e w7 ⟨rfl, hB7⟩
                  have hS7 := WS.out i0 w7 (by rw [Hi0.out]; exact hB7)
                  have hB7' : Below wa.heap.size wa w7 := ⟨hB7.os, hB7.tape, hB7.output, hB7.size, hB7.block⟩
                  have hsz7 : wo.heap.size < w7.heap.size := by have := hB7'.size; omega
                  have m0 := (hB7'.cell (p := ⟨wo.heap.size, 0, none⟩) (show wo.heap.size < wa.heap.size by omega)).trans l0
                  have m1 := (hB7'.cell (p := ⟨wo.heap.size, 1, none⟩) (show wo.heap.size < wa.heap.size by omega)).trans l1
                  have m2 := (hB7'.cell (p := ⟨wo.heap.size, 2, none⟩) (show wo.heap.size < wa.heap.size by omega)).trans l2
                  have m3 := (hB7'.cell (p := ⟨wo.heap.size, 3, none⟩) (show wo.heap.size < wa.heap.size by omega)).trans l3
                  have hoa : Below wo.heap.size wo w7 := haB.trans (hB7'.mono (by omega))
                  have hBw7 : Below w.heap.size w w7 := hBw.trans (hoa.mono hBw.size)
                  have hB37 : Below w3.heap.size w3 w7 := hB.trans (hoa.mono hB.size)
                  clear hB7 hoa
                  go_wp2_with fail
                  refine hK.out _ _ (fun _ => hS7) ?_
                  clear hK K
                  obtain ⟨i7, hi7⟩ := hS7
                  have Hi7 : Hid (W i7 = w7) := hid hi7.symm; clear hi7
                  refine anyL_seg 3 8 (by kernel_rfl) (fun _ _ _ _ _ h => h) ⟨i7, Hi7.out.symm⟩ (f := 4) rfl (by kernel_rfl) (by kernel_rfl) ?_
                  simp only [List.drop_succ_cons, List.drop_zero, List.take_succ_cons, List.take_zero]
                  repeat go_big_quiet_step (fail)
                  refine wpQuiet_nil ?_
                  refine anyL_actG (i := 11) (by kernel_rfl) rfl (by rfl) ?_
                  intro K hK
                  go_wp2_with fail
                  refine (HC2.out _).mono ?_
                  rintro e w8 ⟨rfl, hB8⟩
                  have hS8 := WS.out i7 w8 (by rw [Hi7.out]; exact hB8)
                  have hB38 : Below w3.heap.size w7 w8 := hB8.mono (Nat.le_trans (Nat.le_trans hB.size (by omega)) hB7'.size)
                  go_wp2_with fail
                  refine hK.out _ _ (fun _ => hS8) ?_
                  clear hK K
                  refine anyL_seg 12 3 (by kernel_rfl) (fun _ _ _ _ _ h => h) hS8 (f := 0) rfl (by kernel_rfl) (by kernel_rfl) ?_
                  simp only [List.drop_succ_cons, List.drop_zero, List.take_succ_cons, List.take_zero]
                  repeat go_big_quiet_step (fail)
                  refine wpQuiet_nil ?_
                  refine anyL_done (by kernel_rfl) ?_ 0
                  go_wp2_with fail
                  go_roundw
                  case rel => exact ⟨j + 1, by omega, by push_cast; rfl, HR3, hB37.trans hB38⟩
                  case measure => simp [intOf]; omega
                · have hF : Hid (ps.all (fun p => rightP p n && decide ((2 : Int) = 2 → p = wholeP p.at_)) = false) := hid (by rw [← HR2.out, hrp, decide_eq_false (fun h => hxw (h rfl))]; rfl)
                  have hw := fun W => Whole_calls x.at_ W
                  unfold pval wholeP at hw
                  have HC2 := hid hw
                  have hne : ¬ (x.drop = 0 ∧ x.take = 21 ∧ x.up = 0) := fun h => hxw (by obtain ⟨xa, xd, xt, xu⟩ := x; simp only [wholeP, Part.mk.injEq, true_and]; exact h)
                  clear HR2 hrp hxw hw
                  by_cases y1 : x.drop = 0
                  · rw [y1] at HC hne p2
                    by_cases y2 : x.take = 21
                    · rw [y2] at HC hne p3
                      have y3 : ¬ x.up = 0 := fun h => hne ⟨rfl, rfl, h⟩
                      have y3' := beq_f y3
                      clear hne
                      go_wp2_with fail
                      have ha0 : (wo.alloc (.cells #[.int .i64 x.at_, .int .i64 0, .int .i64 21, .int .i64 x.up] 72)).heap.size = wo.heap.size + 1 := by simp
                      have haB := (Below.refl wo.heap.size wo).alloc (Nat.le_refl _) (.cells #[.int .i64 x.at_, .int .i64 0, .int .i64 21, .int .i64 x.up] 72)
                      obtain ⟨l0, l1, l2, l3⟩ := box4 (Below.refl (wo.heap.size + 1) (wo.alloc (.cells #[.int .i64 x.at_, .int .i64 0, .int .i64 21, .int .i64 x.up] 72)))
                      generalize (wo.alloc (.cells #[.int .i64 x.at_, .int .i64 0, .int .i64 21, .int .i64 x.up] 72)) = wa at *
                      obtain ⟨ι, W, ⟨i0, hi0⟩, hW, Wsur⟩ := ext_class wa.drew
                      have hne : Nonempty ι := ⟨i0⟩
                      have WS := hid Wsur; clear Wsur
                      have HW := hid hW; clear hW
                      have Hi0 := hid hi0; clear hi0
                      refine region_anyL (S := fun w' => ∃ i, w' = W i) (last := 15) (by kernel_rfl) ?_
                      have hwd : wo.heap.size < wa.drew.heap.size := by show wo.heap.size < wa.heap.size; omega
                      have M0 : ∀ i, (W i).cell? ⟨wo.heap.size, 0, none⟩ = some (.int .i64 x.at_) := fun i => ((HW.out i).cell (p := ⟨wo.heap.size, 0, none⟩) hwd).trans l0
                      have M1 : ∀ i, (W i).cell? ⟨wo.heap.size, 1, none⟩ = some (.int .i64 0) := fun i => ((HW.out i).cell (p := ⟨wo.heap.size, 1, none⟩) hwd).trans l1
                      have M2 : ∀ i, (W i).cell? ⟨wo.heap.size, 2, none⟩ = some (.int .i64 21) := fun i => ((HW.out i).cell (p := ⟨wo.heap.size, 2, none⟩) hwd).trans l2
                      have M3 : ∀ i, (W i).cell? ⟨wo.heap.size, 3, none⟩ = some (.int .i64 x.up) := fun i => ((HW.out i).cell (p := ⟨wo.heap.size, 3, none⟩) hwd).trans l3
                      refine anyL_seg 0 2 (by kernel_rfl) (fun _ _ _ _ _ h => h) ⟨i0, Hi0.out.symm⟩ (f := 13) rfl (by kernel_rfl) (by kernel_rfl) ?_
                      simp only [List.drop_zero, List.take_succ_cons, List.take_zero]
                      repeat go_big_quiet_step (fail)
                      refine wpQuiet_nil ?_
                      refine anyL_act (i := 2) (by kernel_rfl) rfl rfl ?_
                      intro K hK
                      go_wp2_with fail
                      refine (HC.out _).mono ?_
                      rintro e w7 ⟨rfl, hB7⟩
                      have hS7 := WS.out i0 w7 (by rw [Hi0.out]; exact hB7)
                      have hB7' : Below wa.heap.size wa w7 := ⟨hB7.os, hB7.tape, hB7.output, hB7.size, hB7.block⟩
                      have hsz7 : wo.heap.size < w7.heap.size := by have := hB7'.size; omega
                      have m0 := (hB7'.cell (p := ⟨wo.heap.size, 0, none⟩) (show wo.heap.size < wa.heap.size by omega)).trans l0
                      have m1 := (hB7'.cell (p := ⟨wo.heap.size, 1, none⟩) (show wo.heap.size < wa.heap.size by omega)).trans l1
                      have m2 := (hB7'.cell (p := ⟨wo.heap.size, 2, none⟩) (show wo.heap.size < wa.heap.size by omega)).trans l2
                      have m3 := (hB7'.cell (p := ⟨wo.heap.size, 3, none⟩) (show wo.heap.size < wa.heap.size by omega)).trans l3
                      have hoa : Below wo.heap.size wo w7 := haB.trans (hB7'.mono (by omega))
                      have hBw7 : Below w.heap.size w w7 := hBw.trans (hoa.mono hBw.size)
                      have hB37 : Below w3.heap.size w3 w7 := hB.trans (hoa.mono hB.size)
                      clear hB7 hoa
                      go_wp2_with fail
                      refine hK.out _ _ (fun _ => hS7) ?_
                      clear hK K
                      obtain ⟨i7, hi7⟩ := hS7
                      have Hi7 : Hid (W i7 = w7) := hid hi7.symm; clear hi7
                      refine anyL_seg 3 8 (by kernel_rfl) (fun _ _ _ _ _ h => h) ⟨i7, Hi7.out.symm⟩ (f := 4) rfl (by kernel_rfl) (by kernel_rfl) ?_
                      simp only [List.drop_succ_cons, List.drop_zero, List.take_succ_cons, List.take_zero]
                      repeat go_big_quiet_step (fail)
                      refine wpQuiet_nil ?_
                      refine anyL_actG (i := 11) (by kernel_rfl) rfl (by rfl) ?_
                      intro K hK
                      go_wp2_with fail
                      refine (HC2.out _).mono ?_
                      rintro e w8 ⟨rfl, hB8⟩
                      have hS8 := WS.out i7 w8 (by rw [Hi7.out]; exact hB8)
                      have hB38 : Below w3.heap.size w7 w8 := hB8.mono (Nat.le_trans (Nat.le_trans hB.size (by omega)) hB7'.size)
                      go_wp2_with fail
                      refine hK.out _ _ (fun _ => hS8) ?_
                      clear hK K
                      refine anyL_seg 12 3 (by kernel_rfl) (fun _ _ _ _ _ h => h) hS8 (f := 0) rfl (by kernel_rfl) (by kernel_rfl) ?_
                      simp only [List.drop_succ_cons, List.drop_zero, List.take_succ_cons, List.take_zero]
                      repeat go_big_quiet_step (fail)
                      refine wpQuiet_nil ?_
                      refine anyL_done (by kernel_rfl) ?_ 0
                      go_wp2_with fail
                      go_ret
                      exact ⟨by rw [HF.out, hF.out]; simp, hBw7.trans (hB8.mono (Nat.le_trans hBw.size (by omega)))⟩
                    · have y2' := beq_f y2
                      clear hne
                      go_wp2_with fail
                      have ha0 : (wo.alloc (.cells #[.int .i64 x.at_, .int .i64 0, .int .i64 x.take, .int .i64 x.up] 72)).heap.size = wo.heap.size + 1 := by simp
                      have haB := (Below.refl wo.heap.size wo).alloc (Nat.le_refl _) (.cells #[.int .i64 x.at_, .int .i64 0, .int .i64 x.take, .int .i64 x.up] 72)
                      obtain ⟨l0, l1, l2, l3⟩ := box4 (Below.refl (wo.heap.size + 1) (wo.alloc (.cells #[.int .i64 x.at_, .int .i64 0, .int .i64 x.take, .int .i64 x.up] 72)))
                      generalize (wo.alloc (.cells #[.int .i64 x.at_, .int .i64 0, .int .i64 x.take, .int .i64 x.up] 72)) = wa at *
                      obtain ⟨ι, W, ⟨i0, hi0⟩, hW, Wsur⟩ := ext_class wa.drew
                      have hne : Nonempty ι := ⟨i0⟩
                      have WS := hid Wsur; clear Wsur
                      have HW := hid hW; clear hW
                      have Hi0 := hid hi0; clear hi0
                      refine region_anyL (S := fun w' => ∃ i, w' = W i) (last := 15) (by kernel_rfl) ?_
                      have hwd : wo.heap.size < wa.drew.heap.size := by show wo.heap.size < wa.heap.size; omega
                      have M0 : ∀ i, (W i).cell? ⟨wo.heap.size, 0, none⟩ = some (.int .i64 x.at_) := fun i => ((HW.out i).cell (p := ⟨wo.heap.size, 0, none⟩) hwd).trans l0
                      have M1 : ∀ i, (W i).cell? ⟨wo.heap.size, 1, none⟩ = some (.int .i64 0) := fun i => ((HW.out i).cell (p := ⟨wo.heap.size, 1, none⟩) hwd).trans l1
                      have M2 : ∀ i, (W i).cell? ⟨wo.heap.size, 2, none⟩ = some (.int .i64 x.take) := fun i => ((HW.out i).cell (p := ⟨wo.heap.size, 2, none⟩) hwd).trans l2
                      have M3 : ∀ i, (W i).cell? ⟨wo.heap.size, 3, none⟩ = some (.int .i64 x.up) := fun i => ((HW.out i).cell (p := ⟨wo.heap.size, 3, none⟩) hwd).trans l3
                      refine anyL_seg 0 2 (by kernel_rfl) (fun _ _ _ _ _ h => h) ⟨i0, Hi0.out.symm⟩ (f := 13) rfl (by kernel_rfl) (by kernel_rfl) ?_
                      simp only [List.drop_zero, List.take_succ_cons, List.take_zero]
                      repeat go_big_quiet_step (fail)
                      refine wpQuiet_nil ?_
                      refine anyL_act (i := 2) (by kernel_rfl) rfl rfl ?_
                      intro K hK
                      go_wp2_with fail
                      refine (HC.out _).mono ?_
                      rintro e w7 ⟨rfl, hB7⟩
                      have hS7 := WS.out i0 w7 (by rw [Hi0.out]; exact hB7)
                      have hB7' : Below wa.heap.size wa w7 := ⟨hB7.os, hB7.tape, hB7.output, hB7.size, hB7.block⟩
                      have hsz7 : wo.heap.size < w7.heap.size := by have := hB7'.size; omega
                      have m0 := (hB7'.cell (p := ⟨wo.heap.size, 0, none⟩) (show wo.heap.size < wa.heap.size by omega)).trans l0
                      have m1 := (hB7'.cell (p := ⟨wo.heap.size, 1, none⟩) (show wo.heap.size < wa.heap.size by omega)).trans l1
                      have m2 := (hB7'.cell (p := ⟨wo.heap.size, 2, none⟩) (show wo.heap.size < wa.heap.size by omega)).trans l2
                      have m3 := (hB7'.cell (p := ⟨wo.heap.size, 3, none⟩) (show wo.heap.size < wa.heap.size by omega)).trans l3
                      have hoa : Below wo.heap.size wo w7 := haB.trans (hB7'.mono (by omega))
                      have hBw7 : Below w.heap.size w w7 := hBw.trans (hoa.mono hBw.size)
                      have hB37 : Below w3.heap.size w3 w7 := hB.trans (hoa.mono hB.size)
                      clear hB7 hoa
                      go_wp2_with fail
                      refine hK.out _ _ (fun _ => hS7) ?_
                      clear hK K
                      obtain ⟨i7, hi7⟩ := hS7
                      have Hi7 : Hid (W i7 = w7) := hid hi7.symm; clear hi7
                      refine anyL_seg 3 8 (by kernel_rfl) (fun _ _ _ _ _ h => h) ⟨i7, Hi7.out.symm⟩ (f := 4) rfl (by kernel_rfl) (by kernel_rfl) ?_
                      simp only [List.drop_succ_cons, List.drop_zero, List.take_succ_cons, List.take_zero]
                      repeat go_big_quiet_step (fail)
                      refine wpQuiet_nil ?_
                      refine anyL_actG (i := 11) (by kernel_rfl) rfl (by rfl) ?_
                      intro K hK
                      go_wp2_with fail
                      refine (HC2.out _).mono ?_
                      rintro e w8 ⟨rfl, hB8⟩
                      have hS8 := WS.out i7 w8 (by rw [Hi7.out]; exact hB8)
                      have hB38 : Below w3.heap.size w7 w8 := hB8.mono (Nat.le_trans (Nat.le_trans hB.size (by omega)) hB7'.size)
                      go_wp2_with fail
                      refine hK.out _ _ (fun _ => hS8) ?_
                      clear hK K
                      refine anyL_seg 12 3 (by kernel_rfl) (fun _ _ _ _ _ h => h) hS8 (f := 0) rfl (by kernel_rfl) (by kernel_rfl) ?_
                      simp only [List.drop_succ_cons, List.drop_zero, List.take_succ_cons, List.take_zero]
                      repeat go_big_quiet_step (fail)
                      refine wpQuiet_nil ?_
                      refine anyL_done (by kernel_rfl) ?_ 0
                      go_wp2_with fail
                      go_ret
                      exact ⟨by rw [HF.out, hF.out]; simp, hBw7.trans (hB8.mono (Nat.le_trans hBw.size (by omega)))⟩
                  · have y1' := beq_f y1
                    clear hne
                    go_wp2_with fail
                    have ha0 : (wo.alloc (.cells #[.int .i64 x.at_, .int .i64 x.drop, .int .i64 x.take, .int .i64 x.up] 72)).heap.size = wo.heap.size + 1 := by simp
                    have haB := (Below.refl wo.heap.size wo).alloc (Nat.le_refl _) (.cells #[.int .i64 x.at_, .int .i64 x.drop, .int .i64 x.take, .int .i64 x.up] 72)
                    obtain ⟨l0, l1, l2, l3⟩ := box4 (Below.refl (wo.heap.size + 1) (wo.alloc (.cells #[.int .i64 x.at_, .int .i64 x.drop, .int .i64 x.take, .int .i64 x.up] 72)))
                    generalize (wo.alloc (.cells #[.int .i64 x.at_, .int .i64 x.drop, .int .i64 x.take, .int .i64 x.up] 72)) = wa at *
                    obtain ⟨ι, W, ⟨i0, hi0⟩, hW, Wsur⟩ := ext_class wa.drew
                    have hne : Nonempty ι := ⟨i0⟩
                    have WS := hid Wsur; clear Wsur
                    have HW := hid hW; clear hW
                    have Hi0 := hid hi0; clear hi0
                    refine region_anyL (S := fun w' => ∃ i, w' = W i) (last := 15) (by kernel_rfl) ?_
                    have hwd : wo.heap.size < wa.drew.heap.size := by show wo.heap.size < wa.heap.size; omega
                    have M0 : ∀ i, (W i).cell? ⟨wo.heap.size, 0, none⟩ = some (.int .i64 x.at_) := fun i => ((HW.out i).cell (p := ⟨wo.heap.size, 0, none⟩) hwd).trans l0
                    have M1 : ∀ i, (W i).cell? ⟨wo.heap.size, 1, none⟩ = some (.int .i64 x.drop) := fun i => ((HW.out i).cell (p := ⟨wo.heap.size, 1, none⟩) hwd).trans l1
                    have M2 : ∀ i, (W i).cell? ⟨wo.heap.size, 2, none⟩ = some (.int .i64 x.take) := fun i => ((HW.out i).cell (p := ⟨wo.heap.size, 2, none⟩) hwd).trans l2
                    have M3 : ∀ i, (W i).cell? ⟨wo.heap.size, 3, none⟩ = some (.int .i64 x.up) := fun i => ((HW.out i).cell (p := ⟨wo.heap.size, 3, none⟩) hwd).trans l3
                    refine anyL_seg 0 2 (by kernel_rfl) (fun _ _ _ _ _ h => h) ⟨i0, Hi0.out.symm⟩ (f := 13) rfl (by kernel_rfl) (by kernel_rfl) ?_
                    simp only [List.drop_zero, List.take_succ_cons, List.take_zero]
                    repeat go_big_quiet_step (fail)
                    refine wpQuiet_nil ?_
                    refine anyL_act (i := 2) (by kernel_rfl) rfl rfl ?_
                    intro K hK
                    go_wp2_with fail
                    refine (HC.out _).mono ?_
                    rintro e w7 ⟨rfl, hB7⟩
                    have hS7 := WS.out i0 w7 (by rw [Hi0.out]; exact hB7)
                    have hB7' : Below wa.heap.size wa w7 := ⟨hB7.os, hB7.tape, hB7.output, hB7.size, hB7.block⟩
                    have hsz7 : wo.heap.size < w7.heap.size := by have := hB7'.size; omega
                    have m0 := (hB7'.cell (p := ⟨wo.heap.size, 0, none⟩) (show wo.heap.size < wa.heap.size by omega)).trans l0
                    have m1 := (hB7'.cell (p := ⟨wo.heap.size, 1, none⟩) (show wo.heap.size < wa.heap.size by omega)).trans l1
                    have m2 := (hB7'.cell (p := ⟨wo.heap.size, 2, none⟩) (show wo.heap.size < wa.heap.size by omega)).trans l2
                    have m3 := (hB7'.cell (p := ⟨wo.heap.size, 3, none⟩) (show wo.heap.size < wa.heap.size by omega)).trans l3
                    have hoa : Below wo.heap.size wo w7 := haB.trans (hB7'.mono (by omega))
                    have hBw7 : Below w.heap.size w w7 := hBw.trans (hoa.mono hBw.size)
                    have hB37 : Below w3.heap.size w3 w7 := hB.trans (hoa.mono hB.size)
                    clear hB7 hoa
                    go_wp2_with fail
                    refine hK.out _ _ (fun _ => hS7) ?_
                    clear hK K
                    obtain ⟨i7, hi7⟩ := hS7
                    have Hi7 : Hid (W i7 = w7) := hid hi7.symm; clear hi7
                    refine anyL_seg 3 8 (by kernel_rfl) (fun _ _ _ _ _ h => h) ⟨i7, Hi7.out.symm⟩ (f := 4) rfl (by kernel_rfl) (by kernel_rfl) ?_
                    simp only [List.drop_succ_cons, List.drop_zero, List.take_succ_cons, List.take_zero]
                    repeat go_big_quiet_step (fail)
                    refine wpQuiet_nil ?_
                    refine anyL_actG (i := 11) (by kernel_rfl) rfl (by rfl) ?_
                    intro K hK
                    go_wp2_with fail
                    refine (HC2.out _).mono ?_
                    rintro e w8 ⟨rfl, hB8⟩
                    have hS8 := WS.out i7 w8 (by rw [Hi7.out]; exact hB8)
                    have hB38 : Below w3.heap.size w7 w8 := hB8.mono (Nat.le_trans (Nat.le_trans hB.size (by omega)) hB7'.size)
                    go_wp2_with fail
                    refine hK.out _ _ (fun _ => hS8) ?_
                    clear hK K
                    refine anyL_seg 12 3 (by kernel_rfl) (fun _ _ _ _ _ h => h) hS8 (f := 0) rfl (by kernel_rfl) (by kernel_rfl) ?_
                    simp only [List.drop_succ_cons, List.drop_zero, List.take_succ_cons, List.take_zero]
                    repeat go_big_quiet_step (fail)
                    refine wpQuiet_nil ?_
                    refine anyL_done (by kernel_rfl) ?_ 0
                    go_wp2_with fail
                    go_ret
                    exact ⟨by rw [HF.out, hF.out]; simp, hBw7.trans (hB8.mono (Nat.le_trans hBw.size (by omega)))⟩
              · have hi2' := beq_f hi2
                have HR3 : Hid ((ps.drop (j + 1)).all (fun p => rightP p n && decide (inn = 2 → p = wholeP p.at_)) = ps.all (fun p => rightP p n && decide (inn = 2 → p = wholeP p.at_))) := hid (by rw [← HR2.out, hrp, decide_eq_true (fun h => absurd h hi2)]; rfl)
                clear HR2 hrp hi2
                go_wp2_with fail
                have ha0 : (wo.alloc (.cells #[.int .i64 x.at_, .int .i64 x.drop, .int .i64 x.take, .int .i64 x.up] 72)).heap.size = wo.heap.size + 1 := by simp
                have haB := (Below.refl wo.heap.size wo).alloc (Nat.le_refl _) (.cells #[.int .i64 x.at_, .int .i64 x.drop, .int .i64 x.take, .int .i64 x.up] 72)
                obtain ⟨l0, l1, l2, l3⟩ := box4 (Below.refl (wo.heap.size + 1) (wo.alloc (.cells #[.int .i64 x.at_, .int .i64 x.drop, .int .i64 x.take, .int .i64 x.up] 72)))
                generalize (wo.alloc (.cells #[.int .i64 x.at_, .int .i64 x.drop, .int .i64 x.take, .int .i64 x.up] 72)) = wa at *
                obtain ⟨ι, W, ⟨i0, hi0⟩, hW, Wsur⟩ := ext_class wa.drew
                have hne : Nonempty ι := ⟨i0⟩
                have WS := hid Wsur; clear Wsur
                have HW := hid hW; clear hW
                have Hi0 := hid hi0; clear hi0
                refine region_anyL (S := fun w' => ∃ i, w' = W i) (last := 15) (by kernel_rfl) ?_
                have hwd : wo.heap.size < wa.drew.heap.size := by show wo.heap.size < wa.heap.size; omega
                have M0 : ∀ i, (W i).cell? ⟨wo.heap.size, 0, none⟩ = some (.int .i64 x.at_) := fun i => ((HW.out i).cell (p := ⟨wo.heap.size, 0, none⟩) hwd).trans l0
                have M1 : ∀ i, (W i).cell? ⟨wo.heap.size, 1, none⟩ = some (.int .i64 x.drop) := fun i => ((HW.out i).cell (p := ⟨wo.heap.size, 1, none⟩) hwd).trans l1
                have M2 : ∀ i, (W i).cell? ⟨wo.heap.size, 2, none⟩ = some (.int .i64 x.take) := fun i => ((HW.out i).cell (p := ⟨wo.heap.size, 2, none⟩) hwd).trans l2
                have M3 : ∀ i, (W i).cell? ⟨wo.heap.size, 3, none⟩ = some (.int .i64 x.up) := fun i => ((HW.out i).cell (p := ⟨wo.heap.size, 3, none⟩) hwd).trans l3
                refine anyL_seg 0 2 (by kernel_rfl) (fun _ _ _ _ _ h => h) ⟨i0, Hi0.out.symm⟩ (f := 13) rfl (by kernel_rfl) (by kernel_rfl) ?_
                simp only [List.drop_zero, List.take_succ_cons, List.take_zero]
                repeat go_big_quiet_step (fail)
                refine wpQuiet_nil ?_
                refine anyL_act (i := 2) (by kernel_rfl) rfl rfl ?_
                intro K hK
                go_wp2_with fail
                refine (HC.out _).mono ?_
                rintro e w7 ⟨rfl, hB7⟩
                have hS7 := WS.out i0 w7 (by rw [Hi0.out]; exact hB7)
                have hB7' : Below wa.heap.size wa w7 := ⟨hB7.os, hB7.tape, hB7.output, hB7.size, hB7.block⟩
                have hsz7 : wo.heap.size < w7.heap.size := by have := hB7'.size; omega
                have m0 := (hB7'.cell (p := ⟨wo.heap.size, 0, none⟩) (show wo.heap.size < wa.heap.size by omega)).trans l0
                have m1 := (hB7'.cell (p := ⟨wo.heap.size, 1, none⟩) (show wo.heap.size < wa.heap.size by omega)).trans l1
                have m2 := (hB7'.cell (p := ⟨wo.heap.size, 2, none⟩) (show wo.heap.size < wa.heap.size by omega)).trans l2
                have m3 := (hB7'.cell (p := ⟨wo.heap.size, 3, none⟩) (show wo.heap.size < wa.heap.size by omega)).trans l3
                have hoa : Below wo.heap.size wo w7 := haB.trans (hB7'.mono (by omega))
                have hBw7 : Below w.heap.size w w7 := hBw.trans (hoa.mono hBw.size)
                have hB37 : Below w3.heap.size w3 w7 := hB.trans (hoa.mono hB.size)
                clear hB7 hoa
                go_wp2_with fail
                refine hK.out _ _ (fun _ => hS7) ?_
                clear hK K
                refine anyL_seg 3 8 (by kernel_rfl) (fun _ _ _ _ _ h => h) hS7 (f := 4) rfl (by kernel_rfl) (by kernel_rfl) ?_
                simp only [List.drop_succ_cons, List.drop_zero, List.take_succ_cons, List.take_zero]
                repeat go_big_quiet_step (fail)
                refine wpQuiet_nil ?_
                refine anyL_skip (i := 11) (by kernel_rfl) rfl (by rfl) hS7 ?_
                go_simp
                refine anyL_seg 12 3 (by kernel_rfl) (fun _ _ _ _ _ h => h) hS7 (f := 0) rfl (by kernel_rfl) (by kernel_rfl) ?_
                simp only [List.drop_succ_cons, List.drop_zero, List.take_succ_cons, List.take_zero]
                repeat go_big_quiet_step (fail)
                refine wpQuiet_nil ?_
                refine anyL_done (by kernel_rfl) ?_ 0
                go_wp2_with fail
                go_roundw
                case rel => exact ⟨j + 1, by omega, by push_cast; rfl, HR3, hB37⟩
                case measure => simp [intOf]; omega
          · obtain rfl : j = ps.length := by omega
            have hA : ps.all (fun p => rightP p n && decide (inn = 2 → p = wholeP p.at_)) = true := by rw [← HR.out, List.drop_length]; rfl
            rw [hA] at HF
            clear hA HR hr
            have q0 := (hB.cell (p := ⟨w.heap.size, 0, none⟩) hlt3).trans g0
            have q1 := (hB.cell (p := ⟨w.heap.size, 1, none⟩) hlt3).trans g1
            have q2 := (hB.cell (p := ⟨w.heap.size, 2, none⟩) hlt3).trans g2
            have q3 := (hB.cell (p := ⟨w.heap.size, 3, none⟩) hlt3).trans g3
            have q4 := (hB.cell (p := ⟨w.heap.size, 4, none⟩) hlt3).trans g4
            have q5 := (hB.cell (p := ⟨w.heap.size, 5, none⟩) hlt3).trans g5
            clear g0 g1 g2 g3 g4 g5
            by_cases hi2 : inn = 2
            · have hi2' := beq_t hi2
              subst hi2
              by_cases hl1 : ps.length ≤ 1
              · have hl1' : (ps.length : Int) ≤ 1 := by omega
                have HF2 : Hid (rightF ⟨b, d, k, u, s, ps⟩ 2 out n = decide (out = 2 → plainT ⟨b, d, k, u, s, ps⟩ = true)) := hid (by rw [HF.out, decide_eq_true (fun _ => hl1)]; simp)
                clear HF hl1
                by_cases ho2 : out = 2
                · have ho2' := beq_t ho2
                  subst ho2
                  go_wp2_with fail
                  refine (HP.out _).mono ?_
                  rintro e w5 ⟨rfl, hB5⟩
                  go_wp2_with fail
                  go_ret
                  exact ⟨by rw [HF2.out]; simp, hBw.trans (hB5.mono hBw.size)⟩
                · have ho2' := beq_f ho2
                  have HF3 : Hid (decide (out = 2 → plainT ⟨b, d, k, u, s, ps⟩ = true) = true) := hid (decide_eq_true fun h => absurd h ho2)
                  have ho2n : (out != 2) = true := by simp [ho2]
                  go_wp2_with fail
                  go_ret
                  exact ⟨by rw [HF2.out, HF3.out]; rfl, hBw⟩
              · have hl1' : ¬ (ps.length : Int) ≤ 1 := by omega
                have HF2 : Hid (rightF ⟨b, d, k, u, s, ps⟩ 2 out n = false) := hid (by rw [HF.out, decide_eq_false (fun h => hl1 (h rfl))]; simp)
                clear HF hl1
                go_wp2_with fail
                go_ret
                exact ⟨by rw [HF2.out]; rfl, hBw⟩
            · have hi2' := beq_f hi2
              have HF2 : Hid (rightF ⟨b, d, k, u, s, ps⟩ inn out n = decide (out = 2 → plainT ⟨b, d, k, u, s, ps⟩ = true)) := hid (by rw [HF.out, decide_eq_true (fun h => absurd h hi2)]; simp)
              have hi2n : (inn != 2) = true := by simp [hi2]
              clear HF
              by_cases ho2 : out = 2
              · have ho2' := beq_t ho2
                subst ho2
                go_wp2_with fail
                refine (HP.out _).mono ?_
                rintro e w5 ⟨rfl, hB5⟩
                go_wp2_with fail
                go_ret
                exact ⟨by rw [HF2.out]; simp, hBw.trans (hB5.mono hBw.size)⟩
              · have ho2' := beq_f ho2
                have HF3 : Hid (decide (out = 2 → plainT ⟨b, d, k, u, s, ps⟩ = true) = true) := hid (decide_eq_true fun h => absurd h ho2)
                have ho2n : (out != 2) = true := by simp [ho2]
                go_wp2_with fail
                go_ret
                exact ⟨by rw [HF2.out, HF3.out]; rfl, hBw⟩
    · have eo : domF out = [] := domF_none hO
      have ei := domF_sort hi
      have hF : Hid (rightF ⟨b, d, k, u, s, ps⟩ inn out n = false) := hid (by rw [HF.out, show sortF out = false from decide_eq_false hO]; simp)
      clear HN HP HF h hi hO
      go_enter Tryz.func118, Tryz.ntmps118
      go_wp2_with fail
      refine (Domain_calls inn _).mono ?_
      rintro e w1 ⟨v1, rfl, ho1, hB1⟩
      obtain ⟨A1, c1, rfl, hc1, hm1⟩ := list_form ho1.rel
      clear ho1
      go_wp2_with fail
      refine (Domain_calls out _).mono ?_
      rintro e w2 ⟨v2, rfl, ho2, hB2⟩
      rw [eo] at ho2
      obtain ⟨A2, c2, rfl, hc2, hm2⟩ := list_form ho2.rel
      clear ho2
      go_wp2_with fail
      go_ret
      have hBw1 := ((Below.refl w.heap.size w).alloc (Nat.le_refl _) _).trans (hB1.mono (by simp))
      exact ⟨by rw [hF.out]; rfl, hBw1.trans (hB2.mono hBw1.size)⟩
  · have ei : domF inn = [] := domF_none hi
    have hF : Hid (rightF ⟨b, d, k, u, s, ps⟩ inn out n = false) := hid (by rw [HF.out, show sortF inn = false from decide_eq_false hi]; simp)
    clear HN HP HF h hi
    go_enter Tryz.func118, Tryz.ntmps118
    go_wp2_with fail
    refine (Domain_calls inn _).mono ?_
    rintro e w1 ⟨v1, rfl, ho1, hB1⟩
    rw [ei] at ho1
    obtain ⟨A1, c1, rfl, hc1, hm1⟩ := list_form ho1.rel
    clear ho1
    go_wp2_with fail
    go_ret
    have hBw1 := ((Below.refl w.heap.size w).alloc (Nat.le_refl _) _).trans (hB1.mono (by simp))
    exact ⟨by rw [hF.out]; rfl, hBw1⟩
end Go.Proofs.YthfcbbdghggefaaGreat
