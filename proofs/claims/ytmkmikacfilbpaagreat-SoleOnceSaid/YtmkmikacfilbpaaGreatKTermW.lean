/-
  The program's parts: bits, Right, Whole, Value, as plain arithmetic. The program's terms: small, outer, plain, rising, numbers, Right, as plain arithmetic.
-/
import Derived.Test.YtmkmikacfilbpaaGreatRows
import Derived.Test.YtmkmikacfilbpaaGreatKBase
import Derived.Test.YtmkmikacfilbpaaGreatKPlain
import Derived.Test.YtmkmikacfilbpaaGreatKHead
import Derived.Laws.BitsLemmas
import Derived.Deep.QuietTactic
import Derived.BigQuiet
namespace Go.Proofs.YtmkmikacfilbpaaGreat
open Go.Proofs Go.Um Go.RowKit
def pval (p : Part) : Value := .agg #[.int .i64 p.at_, .int .i64 p.drop, .int .i64 p.take, .int .i64 p.up]
theorem beq_t {a b : Int} (h : a = b) : (a == b) = true := by simpa using h
theorem beq_f {a b : Int} (h : ¬ a = b) : (a == b) = false := by simpa using h
set_option maxHeartbeats 1000000 in
set_option maxRecDepth 100000 in
theorem bits_calls (p : Part) (w : World) : Calls Tryz.prog 127 #[pval p] w fun e w' => e = .returned (.bool (bitsF p)) ∧ Below w.heap.size w w' := by
  unfold pval
  obtain ⟨a, d, t, u⟩ := p
  dsimp only
  by_cases h0 : 0 ≤ d
  by_cases h1 : d < 21
  by_cases h2 : 1 ≤ t
  by_cases h3 : t ≤ 21
  by_cases h4 : 0 ≤ u
  by_cases h5 : u < 21
  by_cases h6 : u = 0
  · have hb : bitsF ⟨a, d, t, u⟩ = true := decide_eq_true (by dsimp only; omega)
    have h7 := beq_t h6
    rw [hb]
    clear hb h6
    go_enter Tryz.func127, Tryz.ntmps127
    go_wp2_with fail
    go_ret
    exact ⟨rfl, (Below.refl _ _).alloc (Nat.le_refl _) _⟩
  have h7 := beq_f h6
  by_cases h8 : t ≤ 6
  all_goals
    first
      | (have hb : bitsF ⟨a, d, t, u⟩ = true := decide_eq_true (by dsimp only; omega)
         rw [hb]
         clear hb)
      | (have hb : bitsF ⟨a, d, t, u⟩ = false := decide_eq_false (by dsimp only; omega)
         rw [hb]
         clear hb)
    go_enter Tryz.func127, Tryz.ntmps127
    go_wp2_with fail
    go_ret
    exact ⟨rfl, (Below.refl _ _).alloc (Nat.le_refl _) _⟩
set_option maxHeartbeats 1000000 in
set_option maxRecDepth 100000 in
theorem Right_calls (p : Part) (n : Int) (w : World) : Calls Tryz.prog 116 #[pval p, .int .i64 n] w fun e w' => e = .returned (.bool (rightP p n)) ∧ Below w.heap.size w w' := by
  have hc := fun W => bits_calls p W
  have hr : rightP p n = (decide (0 ≤ p.at_) && decide (p.at_ < n) && bitsF p) := rfl
  rw [hr]
  clear hr
  unfold pval at hc ⊢
  generalize bitsF p = bb at hc ⊢
  obtain ⟨a, d, t, u⟩ := p
  dsimp only at hc ⊢
  by_cases h0 : 0 ≤ a
  by_cases h1 : a < n
  · go_enter Tryz.func116, Tryz.ntmps116
    go_wp2_with (go_at_call 127; refine (hc _).mono ?_; rintro e w' ⟨rfl, hB⟩)
    go_ret
    refine ⟨by simp [h0, h1], ((Below.refl w.heap.size w).alloc (Nat.le_refl _) _).trans (hB.mono (by simp))⟩
  all_goals
    go_enter Tryz.func116, Tryz.ntmps116
    go_wp2_with fail
    go_ret
    exact ⟨by simp; intros; exfalso; omega, (Below.refl _ _).alloc (Nat.le_refl _) _⟩
set_option maxHeartbeats 1000000 in
set_option maxRecDepth 100000 in
theorem Whole_calls (a : Int) (w : World) : Calls Tryz.prog 68 #[.int .i64 a] w fun e w' => e = .returned (pval (wholeP a)) ∧ Below w.heap.size w w' := by
  unfold pval wholeP
  go_enter Tryz.func68, Tryz.ntmps68
  go_wp2_with fail
  exact bodyPost_ret (v := .agg #[.int .i64 a, .int .i64 0, .int .i64 21, .int .i64 0]) (by simp [results, Tryz.results68, go_sem]) rfl ⟨rfl, (Below.refl _ _).alloc (Nat.le_refl _) _⟩
theorem wrap64_pw {k : Int} (h : k ≤ 21) : wrap64 (2 ^ k.toNat) = pw k := by
  show wrap64 (pw k) = pw k
  have h1 := pw_21 h
  have h2 := pw_pos k
  exact IntWalk.wrap64_in _ ⟨by omega, by omega⟩
theorem mask_eq {k : Int} (h : k ≤ 21) : wrap64 (wrap64 (2 ^ k.toNat) - 1) = pw k - 1 := by
  rw [wrap64_pw h]
  have h1 := pw_21 h
  have h2 := pw_pos k
  exact IntWalk.wrap64_in _ ⟨by omega, by omega⟩
theorem and_mask {a k : Int} (h0 : 0 ≤ a) (h1 : a < 9223372036854775808) (hk : k ≤ 21) : bits .and .i64 a (pw k - 1) = a % pw k :=
  bits_mask .i64 63 (by decide) (fun n h2 h3 => by rw [IntKind.wrap_i64]; omega) k.toNat (by omega) a h0 h1
theorem div_bound {x d : Int} (h0 : 0 ≤ x) (h1 : x < 9223372036854775808) : 0 ≤ x / pw d ∧ x / pw d < 9223372036854775808 := by
  refine ⟨Int.ediv_nonneg h0 (by have := pw_pos d; omega), ?_⟩
  have := Int.ediv_le_self (pw d) h0
  omega
set_option maxHeartbeats 1000000 in
set_option maxRecDepth 100000 in
theorem Value_calls (p : Part) (x : Int) (w : World) : Calls Tryz.prog 117 #[pval p, .int .i64 x] w fun e w' =>
    e = .returned (if bitsF p = true ∧ 0 ≤ x ∧ x ≤ 2097151 then .tuple #[.int .i64 (valF p x), .bool true] else .tuple #[.int .i64 0, .bool false]) ∧ Below w.heap.size w w' := by
  have hc := fun W => bits_calls p W
  unfold pval at hc ⊢
  by_cases hb : bitsF p = true
  · have hbb := bitsF_iff.1 hb
    have hle := valF_le hb x
    have hge := valF_nonneg p x
    rw [hb] at hc ⊢
    have hv : valF p x = x / pw p.drop % pw p.take * pw p.up := rfl
    rw [hv] at hle hge ⊢
    obtain ⟨a, d, t, u⟩ := p
    dsimp only at hc hbb hle hge ⊢
    clear hv hb
    by_cases h0 : 0 ≤ x
    by_cases h1 : x ≤ 2097151
    · obtain ⟨q1, q2, q3, q4, q5, q6, q7⟩ := hbb
      rw [if_pos ⟨rfl, h0, h1⟩]
      have h0' : ¬ x < 0 := by omega
      have h1' : ¬ 2097151 < x := by omega
      have hdv := div_bound (d := d) h0 (by omega)
      have HV : Hid (wrap64 (bits BinOp.and IntKind.i64 (x / 2 ^ d.toNat) (wrap64 (wrap64 (2 ^ t.toNat) - 1)) * 2 ^ u.toNat) = x / pw d % pw t * pw u) := hid (by
        rw [mask_eq q4, show x / 2 ^ d.toNat = x / pw d from rfl, and_mask hdv.1 hdv.2 q4, show (2 : Int) ^ u.toNat = pw u from rfl]
        exact IntWalk.wrap64_in _ ⟨by omega, by omega⟩)
      clear hdv hle hge
      go_enter Tryz.func117, Tryz.ntmps117
      go_wp2_with (go_at_call 127; refine (hc _).mono ?_; rintro e w' ⟨rfl, hB⟩)
      have hBw : Below w.heap.size w w' := ((Below.refl w.heap.size w).alloc (Nat.le_refl _) _).trans (hB.mono (by simp))
      have c1 := (hB.cell (p := ⟨w.heap.size, 1, none⟩) (by simp)).trans (show _ = some (.int .i64 d) by go_simp)
      have c2 := (hB.cell (p := ⟨w.heap.size, 2, none⟩) (by simp)).trans (show _ = some (.int .i64 t) by go_simp)
      have c3 := (hB.cell (p := ⟨w.heap.size, 3, none⟩) (by simp)).trans (show _ = some (.int .i64 u) by go_simp)
      go_quiet (fail)
      go_wp2_with fail
      go_ret2
      exact ⟨by rw [HV.out]; rfl, below_drewN hBw _⟩
    all_goals
      clear hbb hle hge
      rw [if_neg (by omega)]
      first
        | (have h0' : x < 0 := by omega
           clear h0)
        | (have h0' : ¬ x < 0 := by omega
           have h1' : 2097151 < x := by omega
           clear h1)
      go_enter Tryz.func117, Tryz.ntmps117
      go_wp2_with (go_at_call 127; refine (hc _).mono ?_; rintro e w' ⟨rfl, hB⟩)
      go_ret2
      exact ⟨rfl, ((Below.refl w.heap.size w).alloc (Nat.le_refl _) _).trans (hB.mono (by simp))⟩
  · have hb' : bitsF p = false := by simpa using hb
    rw [hb'] at hc
    rw [if_neg (fun h => hb h.1)]
    obtain ⟨a, d, t, u⟩ := p
    dsimp only at hc ⊢
    clear hb hb'
    go_enter Tryz.func117, Tryz.ntmps117
    go_wp2_with (go_at_call 127; refine (hc _).mono ?_; rintro e w' ⟨rfl, hB⟩)
    go_ret2
    exact ⟨rfl, ((Below.refl w.heap.size w).alloc (Nat.le_refl _) _).trans (hB.mono (by simp))⟩
end Go.Proofs.YtmkmikacfilbpaaGreat
namespace Go.Proofs.YtmkmikacfilbpaaGreat
open Go.Proofs Go.Um Go.RowKit
def tval (t : Term) (v : Value) : Value := .agg #[.int .i64 t.base, .int .i64 t.drop, .int .i64 t.take, .int .i64 t.up, .int .i64 t.sum, v]
set_option maxHeartbeats 1000000 in
set_option maxRecDepth 100000 in
theorem tsmall_calls (x : Int) (w : World) : Calls Tryz.prog 172 #[.int .i64 x] w fun e w' => e = .returned (.bool (smallN x)) ∧ Below w.heap.size w w' := by
  by_cases h0 : -1114111 ≤ x
  by_cases h1 : x ≤ 1114111
  all_goals
    first
      | (have hb : smallN x = true := smallN_iff.2 (by omega)
         rw [hb]
         clear hb)
      | (have hb : smallN x = false := Bool.eq_false_iff.2 (fun h => by have := smallN_iff.1 h; omega)
         rw [hb]
         clear hb)
    go_enter Tryz.func172, Tryz.ntmps172
    go_wp2_with fail
    go_ret
    exact ⟨rfl, Below.refl _ _⟩
set_option maxHeartbeats 1000000 in
set_option maxRecDepth 100000 in
theorem outer_calls (t : Term) (v : Value) (w : World) : Calls Tryz.prog 118 #[tval t v] w fun e w' => e = .returned (pval (outerT t)) ∧ Below w.heap.size w w' := by
  unfold pval tval outerT
  obtain ⟨b, d, k, u, s, ps⟩ := t
  dsimp only
  go_enter Tryz.func118, Tryz.ntmps118
  go_wp2_with fail
  exact bodyPost_ret (v := .agg #[.int .i64 0, .int .i64 d, .int .i64 k, .int .i64 u]) (by simp [results, Tryz.results118, go_sem]) rfl ⟨rfl, (((Below.refl w.heap.size w).alloc (Nat.le_refl _) _).alloc (by simp) _)⟩
def restR (l : List Part) : Nat → Bool
  | 0 => risingP l
  | j + 1 => match l[j]? with | some q => risesP q.up (l.drop (j + 1)) | none => true
theorem restR_zero {l : List Part} {x : Part} (h : l[0]? = some x) : restR l 0 = restR l 1 := by
  cases l with
  | nil => cases h
  | cons y r => simp [restR, risingP]
theorem restR_succ {l : List Part} {q x : Part} {j : Nat} (hq : l[j]? = some q) (h : l[j + 1]? = some x) : restR l (j + 1) = (decide (q.up < x.up) && restR l (j + 2)) := by
  simp only [restR, hq, h]
  rw [drop_cons h]
  rfl
theorem restR_end {l : List Part} : restR l l.length = true := by
  cases hl : l.length with
  | zero => simp [restR, List.eq_nil_of_length_eq_zero hl, risingP]
  | succ j =>
    have : l[j]? = some l[j] := List.getElem?_eq_getElem (by omega)
    simp only [restR, this]
    rw [List.drop_eq_nil_of_le (by omega)]
    rfl
set_option maxHeartbeats 1000000 in
set_option maxRecDepth 100000 in
theorem rising_calls (l : List Part) (v : Value) (w : World) (h : (listR partR).rel w (upto w.heap.size) [v] l) : Calls Tryz.prog 173 #[v] w fun e w' => e = .returned (.bool (risingP l && decide (l.length ≤ 4))) ∧ Below w.heap.size w w' := by
  obtain ⟨A, c, rfl, hc, hm⟩ := list_form h
  unfold maxLen at hm
  go_enter Tryz.func173, Tryz.ntmps173
  go_wp2_with fail
  go_loopw [7] (fun vi wr => ∃ k : Nat, k ≤ l.length ∧ vi = .int .i64 k ∧ Hid (restR l 0 = restR l k) ∧ Below w.heap.size w wr) (fun vi _ => l.length - (intOf vi).toNat)
  case atStart => exact ⟨0, Nat.zero_le _, rfl, hid rfl, Below.refl _ _⟩
  case round =>
    obtain ⟨k, hk, rfl, HR, hB⟩ := hrel
    have hr := (listR partR).mono (below_cells hB) (fun _ h => h) h
    by_cases hlt : k < l.length
    · obtain ⟨x, hx⟩ := at_lt hlt
      have hlt' : (k : Int) < l.length := by omega
      obtain ⟨b, o, rfl, hb, p1, p2, p3, p4, hok⟩ := part_at hr hx
      have hbs : b < wr.heap.size := Nat.lt_of_lt_of_le hb hB.size
      cases k with
      | zero =>
        have HR2 : Hid (restR l 0 = restR l 1) := hid (restR_zero hx)
        clear hx HR hr
        simp only [Nat.zero_mul, Nat.add_zero] at p1 p2 p3 p4
        go_wp2_with fail
        go_quiet (fail)
        go_wp2_with fail
        go_roundw
        case rel => exact ⟨1, by omega, rfl, HR2, below_drewN (hB.alloc hB.size _) _⟩
        case measure => simp [intOf]; omega
      | succ j =>
        have hj : j < l.length := by omega
        obtain ⟨q, hq⟩ := at_lt hj
        obtain ⟨b', o', hbo, _, r1, r2, r3, r4, _⟩ := part_at hr hq
        simp only [Option.some.injEq, Addr.mk.injEq, and_true] at hbo
        obtain ⟨rfl, rfl⟩ := hbo
        have hst := restR_succ hq hx
        have hj' : ((j : Int) + 1) < l.length := by omega
        have r4' : ∀ o1, (wr.alloc o1).cell? ⟨b, o + j * 4 + 3, none⟩ = some (.int .i64 q.up) := fun o1 => (((Below.refl wr.heap.size wr).alloc (Nat.le_refl _) o1).cell (p := ⟨b, o + j * 4 + 3, none⟩) hbs).trans r4
        have hpos : decide (0 < (j : Int) + 1) = true := decide_eq_true (by omega)
        by_cases hup : q.up < x.up
        · have HR2 : Hid (restR l 0 = restR l (j + 2)) := hid (by rw [HR.out, hst, decide_eq_true hup]; rfl)
          have hup1 : ¬ x.up ≤ q.up := by omega
          have hup2 : decide (x.up ≤ q.up) = false := decide_eq_false hup1
          clear hx HR hr hst hup hq
          go_wp2_with fail
          go_quiet (fail)
          go_wp2_with fail
          go_roundw
          case rel => exact ⟨j + 2, by omega, by push_cast; rfl, HR2, below_drewN (hB.alloc hB.size _) _⟩
          case measure => simp [intOf]; omega
        · have HR2 : Hid (risingP l = false) := hid (by rw [show risingP l = restR l 0 from rfl, HR.out, hst, decide_eq_false hup]; rfl)
          have hup1 : x.up ≤ q.up := by omega
          have hup2 : decide (x.up ≤ q.up) = true := decide_eq_true hup1
          clear hx HR hr hst hup hq
          go_wp2_with fail
          go_quiet (fail)
          go_wp2_with fail
          go_ret
          exact ⟨by rw [HR2.out]; rfl, below_drewN (hB.alloc hB.size _) _⟩
    · obtain rfl : k = l.length := by omega
      have HR2 : Hid (risingP l = true) := hid (by rw [show risingP l = restR l 0 from rfl, HR.out, restR_end])
      clear HR hr
      by_cases h4 : l.length ≤ 4
      · have h4' : (l.length : Int) ≤ 4 := by omega
        have H4 : Hid (decide (l.length ≤ 4) = true) := hid (decide_eq_true h4)
        clear h4
        go_wp2_with fail
        go_ret
        exact ⟨by rw [HR2.out, H4.out]; rfl, hB⟩
      · have h4' : ¬ (l.length : Int) ≤ 4 := by omega
        have H4 : Hid (decide (l.length ≤ 4) = false) := hid (decide_eq_false h4)
        clear h4
        go_wp2_with fail
        go_ret
        exact ⟨by rw [HR2.out, H4.out]; rfl, hB⟩
set_option maxHeartbeats 1000000 in
set_option maxRecDepth 100000 in
theorem plain_calls (t : Term) (v : Value) (w : World) : Calls Tryz.prog 164 #[tval t v] w fun e w' => e = .returned (.bool (plainT t)) ∧ Below w.heap.size w w' := by
  have ho := fun W => outer_calls t v W
  have hw := fun W => Whole_calls 0 W
  unfold pval outerT at ho
  unfold pval wholeP at hw
  unfold tval at ho ⊢
  obtain ⟨b, d, k, u, s, ps⟩ := t
  dsimp only at ho hw ⊢
  by_cases h0 : b = 0
  · subst h0
    have hF : Hid (plainT ⟨0, d, k, u, s, ps⟩ = decide (d = 0 ∧ k = 21 ∧ u = 0)) := hid (by unfold plainT; simp)
    go_enter Tryz.func164, Tryz.ntmps164
    go_wp2_with first
      | (go_at_call 118; refine (ho _).mono ?_; rintro e w1 ⟨rfl, hB1⟩)
      | (go_at_call 68; refine (hw _).mono ?_; rintro e w2 ⟨rfl, hB2⟩)
    all_goals
      go_ret
      refine ⟨?_, (((Below.refl w.heap.size w).alloc (Nat.le_refl _) _).trans (hB1.mono (by simp))).trans (hB2.mono (Nat.le_trans (by simp) hB1.size))⟩
      rw [hF.out]
      first
        | (rw [decide_eq_true (by omega)]; rfl)
        | (rw [decide_eq_false (by omega)]; rfl)
  · have h0' : (b == 0) = false := beq_f h0
    have hF : Hid (plainT ⟨b, d, k, u, s, ps⟩ = false) := hid (decide_eq_false fun h => h0 h.1)
    clear h0
    go_enter Tryz.func164, Tryz.ntmps164
    go_wp2_with fail
    go_ret
    exact ⟨by rw [hF.out]; rfl, (Below.refl w.heap.size w).alloc (Nat.le_refl _) _⟩
set_option maxHeartbeats 2000000 in
set_option maxRecDepth 100000 in
theorem numbers_calls (t : Term) (v : Value) (w : World) (h : (listR partR).rel w (upto w.heap.size) [v] t.parts) : Calls Tryz.prog 163 #[tval t v] w fun e w' => e = .returned (.bool (numbersF t)) ∧ Below w.heap.size w w' := by
  obtain ⟨A, c, rfl, hc, hm⟩ := list_form h
  have hs1 := fun W => tsmall_calls t.base W
  have hs2 := fun W => tsmall_calls t.sum W
  have ho := fun W => outer_calls t (.slice A t.parts.length c) W
  have hr := fun W => Right_calls (outerT t) 1 W
  have hp := fun W (hW : Below w.heap.size w W) => rising_calls t.parts _ W ((listR partR).below h hW hW.size)
  have hN : numbersF t = (smallN t.base && smallN t.sum && bitsF (outerT t) && (risingP t.parts && decide (t.parts.length ≤ 4))) := by unfold numbersF; simp [Bool.and_assoc]
  have hR : rightP (outerT t) 1 = bitsF (outerT t) := by unfold rightP outerT; simp
  rw [hN]
  rw [hR] at hr
  clear hN hR
  unfold pval outerT at ho
  unfold pval outerT at hr
  dsimp only at ho hr
  unfold tval at ho ⊢
  have e1 : bitsF (outerT t) = bitsF ⟨0, t.drop, t.take, t.up⟩ := rfl
  rw [e1]
  generalize bitsF ⟨0, t.drop, t.take, t.up⟩ = bb at *
  generalize smallN t.base = b1 at *
  generalize smallN t.sum = b2 at *
  generalize (risingP t.parts && decide (t.parts.length ≤ 4)) = b3 at *
  clear h e1
  obtain ⟨b, d, k, u, s, ps⟩ := t
  dsimp only at *
  have HP := hid hp
  clear hp
  cases b1
  · go_enter Tryz.func163, Tryz.ntmps163
    go_wp2_with (go_at_call 172; refine (hs1 _).mono ?_; rintro e w1 ⟨rfl, hB1⟩)
    go_ret
    exact ⟨rfl, ((Below.refl w.heap.size w).alloc (Nat.le_refl _) _).trans (hB1.mono (by simp))⟩
  cases b2
  · go_enter Tryz.func163, Tryz.ntmps163
    go_wp2_with fail
    refine (hs1 _).mono ?_
    rintro e w1 ⟨rfl, hB1⟩
    rw [World.size_alloc] at hB1
    obtain ⟨c0, c1, c2, c3, c4, c5⟩ := box6 hB1
    have hBw1 := ((Below.refl w.heap.size w).alloc (Nat.le_refl _) _).trans (hB1.mono (Nat.le_succ _))
    go_wp2_with fail
    refine (hs2 _).mono ?_
    rintro e w2 ⟨rfl, hB2⟩
    go_wp2_with fail
    go_ret
    exact ⟨rfl, hBw1.trans (hB2.mono hBw1.size)⟩
  cases bb
  · go_enter Tryz.func163, Tryz.ntmps163
    go_wp2_with fail
    refine (hs1 _).mono ?_
    rintro e w1 ⟨rfl, hB1⟩
    rw [World.size_alloc] at hB1
    obtain ⟨c0, c1, c2, c3, c4, c5⟩ := box6 hB1
    have hBw1 := ((Below.refl w.heap.size w).alloc (Nat.le_refl _) _).trans (hB1.mono (Nat.le_succ _))
    go_wp2_with fail
    refine (hs2 _).mono ?_
    rintro e w2 ⟨rfl, hB2⟩
    obtain ⟨d0, d1, d2, d3, d4, d5⟩ := box6 (hB1.trans (hB2.mono (by have := hB1.size; simp at this; omega)))
    have hBw2 := hBw1.trans (hB2.mono hBw1.size)
    go_wp2_with first
      | (go_at_call 118; refine (ho _).mono ?_; rintro e w3 ⟨rfl, hB3⟩)
      | (go_at_call 116; refine (hr _).mono ?_; rintro e w4 ⟨rfl, hB4⟩)
    go_ret
    have hBw3 := hBw2.trans (hB3.mono hBw2.size)
    exact ⟨rfl, hBw3.trans (hB4.mono hBw3.size)⟩
  · go_enter Tryz.func163, Tryz.ntmps163
    go_wp2_with fail
    refine (hs1 _).mono ?_
    rintro e w1 ⟨rfl, hB1⟩
    rw [World.size_alloc] at hB1
    obtain ⟨c0, c1, c2, c3, c4, c5⟩ := box6 hB1
    have hBw1 := ((Below.refl w.heap.size w).alloc (Nat.le_refl _) _).trans (hB1.mono (Nat.le_succ _))
    go_wp2_with fail
    refine (hs2 _).mono ?_
    rintro e w2 ⟨rfl, hB2⟩
    have hB12 := hB1.trans (hB2.mono (by have := hB1.size; simp at this; omega))
    obtain ⟨d0, d1, d2, d3, d4, d5⟩ := box6 hB12
    have hBw2 := hBw1.trans (hB2.mono hBw1.size)
    go_wp2_with first
      | (go_at_call 118; refine (ho _).mono ?_; rintro e w3 ⟨rfl, hB3⟩)
    refine (hr _).mono ?_
    rintro e w4 ⟨rfl, hB4⟩
    have hBw3 := hBw2.trans (hB3.mono hBw2.size)
    have hBw4 := hBw3.trans (hB4.mono hBw3.size)
    have hle : w.heap.size + 1 ≤ w2.heap.size := by have := hB12.size; simp at this; omega
    obtain ⟨g0, g1, g2, g3, g4, g5⟩ := box6 ((hB12.trans (hB3.mono hle)).trans (hB4.mono (Nat.le_trans hle hB3.size)))
    go_wp2_with fail
    refine (HP.out _ hBw4).mono ?_
    rintro e w5 ⟨rfl, hB5⟩
    go_wp2_with fail
    go_ret
    exact ⟨by cases b3 <;> rfl, hBw4.trans (hB5.mono hBw4.size)⟩
end Go.Proofs.YtmkmikacfilbpaaGreat
