/-
  Walks over span, word and desc that the statements of layer 16 reach.
-/
import Derived.Test.YtmkmikacfilbpaaGreatKSpanW
namespace Go.Proofs.YtmkmikacfilbpaaGreat
open Go.RowKit Go.Um
set_option maxHeartbeats 400000 in
theorem Meets_calls (a b : List Span) (v u : Value) (w : World) (ha : spansR.rel w (upto w.heap.size) [v] a) (hb : spansR.rel w (upto w.heap.size) [u] b) (hla : a.length ≤ 1073741824) (hlb : b.length ≤ 1073741824) :
    Calls Tryz.prog 132 #[v, u] w fun e w' => e = .returned (.bool (!(meetF a b).isEmpty)) ∧ Below w.heap.size w w' := by
  have hc := Meet_calls a b v u w ha hb hla hlb
  have hml := meetF_length a b
  generalize meetF a b = m at hc hml ⊢
  have HC := hid hc; clear hc ha hb
  cases m with
  | nil =>
    go_enter Tryz.func132, Tryz.ntmps132
    go_wp2_with fail
    refine HC.out.mono ?_
    rintro e w1 ⟨x, rfl, ho, hB⟩
    obtain ⟨A, c, rfl, _, _⟩ := list_form ho.rel
    clear ho
    go_wp2_with fail
    go_ret
    exact ⟨by simp, hB⟩
  | cons p ps =>
    have hl : (0 : Int) < ((p :: ps).length : Int) := by simp
    have hl2 : (0 : Int) < (ps.length : Int) + 1 := by omega
    go_enter Tryz.func132, Tryz.ntmps132
    go_wp2_with fail
    refine HC.out.mono ?_
    rintro e w1 ⟨x, rfl, ho, hB⟩
    obtain ⟨A, c, rfl, _, _⟩ := list_form ho.rel
    clear ho
    go_wp2_with fail
    go_ret
    exact ⟨by simp, hB⟩

/-- word.Domain. -/
def domF (s : Int) : List Span := if s = 1 then [⟨0, 255⟩] else if s = 2 then [⟨0, 55295⟩, ⟨57344, 1114111⟩] else []
set_option maxHeartbeats 400000 in
theorem Domain_calls (s : Int) (w : World) : Calls Tryz.prog 83 #[.int .i64 s] w fun e w' => ∃ u, e = .returned u ∧ OwnS 64 w' w.heap.size u (domF s) ∧ Below w.heap.size w w' := by
  by_cases h1 : s = 1
  · subst h1
    go_enter Tryz.func83, Tryz.ntmps83
    go_wp2_with fail
    go_ret
    refine ⟨_, rfl, ⟨World.ownsRow_lit w #[.int .i64 0, .int .i64 255] 1 (Nat.le_refl _) (by decide) rfl, ?_⟩, (Below.refl _ _).alloc (Nat.le_refl _) _⟩
    intro x hx; simp [domF] at hx; subst hx; exact ⟨I64.of (by decide) (by decide), I64.of (by decide) (by decide)⟩
  · have e1 : (s == 1) = false := by simpa using h1
    by_cases h2 : s = 2
    · subst h2
      go_enter Tryz.func83, Tryz.ntmps83
      go_wp2_with fail
      go_ret
      refine ⟨_, rfl, ⟨World.ownsRow_lit w #[.int .i64 0, .int .i64 55295, .int .i64 57344, .int .i64 1114111] 2 (Nat.le_refl _) (by decide) rfl, ?_⟩, (Below.refl _ _).alloc (Nat.le_refl _) _⟩
      intro x hx; simp [domF] at hx; rcases hx with rfl | rfl <;> exact ⟨I64.of (by decide) (by decide), I64.of (by decide) (by decide)⟩
    · have e2 : (s == 2) = false := by simpa using h2
      have hd : domF s = [] := by simp [domF, h1, h2]
      rw [hd]
      clear hd h1 h2
      go_enter Tryz.func83, Tryz.ntmps83
      go_wp2_with fail
      go_ret
      exact ⟨_, rfl, ⟨World.ownsRow_nil _ _ _ _, by simp⟩, Below.refl _ _⟩

theorem gaps_length (lo : Int) (l : List Span) : (gaps lo l).length = l.length + 1 := by
  induction l generalizing lo with
  | nil => rfl
  | cons x r ih => simp [gaps, ih]

set_option maxHeartbeats 1000000 in
set_option maxRecDepth 100000 in
theorem Minus_calls (a b : List Span) (v u : Value) (w : World) (ha : spansR.rel w (upto w.heap.size) [v] a) (hb : spansR.rel w (upto w.heap.size) [u] b) (hla : a.length ≤ 1073741824) (hlb : b.length < 1073741824) :
    Calls Tryz.prog 61 #[v, u] w fun e w' => ∃ x, e = .returned x ∧ OwnS 64 w' w.heap.size x (minusF a b) ∧ Below w.heap.size w w' := by
  obtain ⟨inf, hi0, hz0, hz1, hz2⟩ := info_parts info46
  go_enter Tryz.func61, Tryz.ntmps61
  go_wp2_with fail
  refine (Norm_calls b _ _ hb (by omega)).mono ?_
  rintro e w1 ⟨x, rfl, ho1, hb1⟩
  have hnl := normF_length b
  have hnp : ∀ s ∈ normF b, okS s := plainFrom_ok (normF_plain b)
  have ry := ho1.rel
  obtain ⟨A1, c1, rfl, hc1, hm1⟩ := list_form ry
  unfold maxLen at hm1
  clear ho1 hb
  go_wp2_with fail
  go_loopw [5, 6, 12] (fun vr vf vi wr => ∃ (k : Nat) (rest : List Span) (from_ : Int), k ≤ (normF b).length ∧ vi = .int .i64 k ∧ vf = .int .i64 from_ ∧ -1073741824 ≤ from_ ∧ from_ ≤ 1073741825 ∧ rest.length ≤ k ∧ OwnS 64 wr w1.heap.size vr rest ∧
      rest ++ gaps from_ ((normF b).drop k) = gaps (-1073741824) (normF b) ∧ Below w1.heap.size w1 wr) (fun _ _ vi _ => (normF b).length - (intOf vi).toNat)
  case atStart => exact ⟨0, [], -1073741824, Nat.zero_le _, rfl, rfl, by decide, by decide, Nat.zero_le _, ⟨World.ownsRow_nil _ _ _ _, by simp⟩, by simp, Below.refl _ _⟩
  case round =>
    obtain ⟨k, rest, fr, hk, rfl, rfl, hf1, hf2, hrk, ho, hg, hB⟩ := hrel
    have HG := hid hg; clear hg
    have hr := spansR.mono (below_cells hB) (fun _ h => h) ry
    have hsz := hB.size
    by_cases hlt : k < (normF b).length
    · obtain ⟨x, hx⟩ := at_lt hlt
      obtain ⟨b1, o1, rfl, hb1', h1, h2, hp1, hp2⟩ := span_at hr hx
      obtain ⟨q1, q2, q3⟩ := hnp x (List.mem_of_getElem? hx)
      have hlt' : (k : Int) < (normF b).length := by omega
      have HG2 : Hid ((rest ++ [⟨fr, x.lo - 1⟩]) ++ gaps (x.hi + 1) ((normF b).drop (k + 1)) = gaps (-1073741824) (normF b)) := hid (by have := HG.out; rw [drop_cons hx] at this; simpa [gaps] using this)
      clear hx hr
      go_wp2_with (at_builtin; refine Hid.out ?_)
      refine hid ?_
      refine wpList_append_own _ rfl _ _ 65 rfl w1.heap.size 64 inf _ 2 16 Tryz.underlying65 hi0 hz0 hz1 hz2 rfl (by decide) _ _ _ rfl ((ho.1.alloc _).alloc _) ⟨wr.heap.size + 1, 0, none⟩ 1 1 [.int .i64 fr, .int .i64 (x.lo - 1)] rfl rfl
        (news_at (w := wr.alloc _) (cs := #[_, _]) (by simp)) (by simp [Value.oneCell']) (by unfold maxLen; omega) (by omega) (by simp; omega) ?_
      intro v' w3 hown3 hg3 hn3
      have hB3 : Below w1.heap.size w1 w3 := ((hB.alloc hsz _).alloc (by simp; omega) _).trans (below_grown ((ho.1.alloc _).alloc _) hg3 (Nat.le_refl _) (by simp; omega))
      have ho3 : OwnS 64 w3 w1.heap.size v' (rest ++ [⟨fr, x.lo - 1⟩]) := OwnS.push hown3 ho.2 ⟨I64.of (by show _ ≤ fr; omega) (by show fr ≤ _; omega), I64.of (by show _ ≤ x.lo - 1; omega) (by show x.lo - 1 ≤ _; omega)⟩
      have hx1 : w3.cell? ⟨wr.heap.size, 1, none⟩ = some (.int .i64 x.hi) := by
        refine hg3.cell (by go_simp) (fun h => ?_)
        have h5 := ((ho.1).lt _ h.symm).2
        simp at h5
      clear hown3 hg3 hn3
      go_wp2_with fail
      refine ⟨⟨k + 1, rest ++ [⟨fr, x.lo - 1⟩], x.hi + 1, by omega, by go_num, rfl, by omega, by omega, by simp; omega, ho3, HG2.out, hB3⟩, ?_⟩
      simp [intOf]; omega
    · have hke : k = (normF b).length := by omega
      subst hke
      have hfin : Hid (rest ++ [⟨fr, 1073741824⟩] = gaps (-1073741824) (normF b)) := hid (by have := HG.out; simpa [gaps] using this)
      clear HG hr
      go_wp2_with (at_builtin; refine Hid.out ?_)
      refine hid ?_
      refine wpList_append_own _ rfl _ _ 65 rfl w1.heap.size 64 inf _ 2 16 Tryz.underlying65 hi0 hz0 hz1 hz2 rfl (by decide) _ _ _ rfl (ho.1.alloc _) ⟨wr.heap.size, 0, none⟩ 1 1 [.int .i64 fr, .int .i64 1073741824] rfl rfl
        (news_at (w := wr) (cs := #[_, _]) rfl) (by simp [Value.oneCell']) (by unfold maxLen; omega) (by omega) (by simp; omega) ?_
      intro v' w3 hown3 hg3 hn3
      have hB3 : Below w1.heap.size w1 w3 := (hB.alloc hsz _).trans (below_grown (ho.1.alloc _) hg3 (Nat.le_refl _) (by simp; omega))
      have ho3 : OwnS 64 w3 w1.heap.size v' (rest ++ [⟨fr, 1073741824⟩]) := OwnS.push hown3 ho.2 ⟨I64.of (by show _ ≤ fr; omega) (by show fr ≤ _; omega), I64.of (by show _ ≤ (1073741824 : Int); decide) (by show (1073741824 : Int) ≤ _; decide)⟩
      have hB4 : Below w.heap.size w w3 := hb1.trans (hB3.mono hb1.size)
      have hra : spansR.rel w3 (upto w3.heap.size) [v] a := spansR.below ha hB4 hB4.size
      have hlen : (rest ++ [(⟨fr, 1073741824⟩ : Span)]).length ≤ 1073741824 := by simp; omega
      clear hown3 hg3 hn3
      go_wp2_with fail
      refine (Meet_calls a (rest ++ [⟨fr, 1073741824⟩]) _ _ _ hra ho3.rel hla hlen).mono ?_
      rintro e w4 ⟨y, rfl, ho4, hb4⟩
      go_wp2_with fail
      go_ret
      refine ⟨_, rfl, ?_, hB4.trans (hb4.mono hB4.size)⟩
      rw [hfin.out] at ho4
      exact ho4.base hB4.size

set_option maxHeartbeats 400000 in
theorem Within_calls (a b : List Span) (v u : Value) (w : World) (ha : spansR.rel w (upto w.heap.size) [v] a) (hb : spansR.rel w (upto w.heap.size) [u] b) (hla : a.length ≤ 1073741824) (hlb : b.length < 1073741824) :
    Calls Tryz.prog 130 #[v, u] w fun e w' => e = .returned (.bool ((minusF a b).isEmpty)) ∧ Below w.heap.size w w' := by
  have hc := Minus_calls a b v u w ha hb hla hlb
  generalize minusF a b = m at hc ⊢
  have HC := hid hc; clear hc ha hb
  cases m with
  | nil =>
    go_enter Tryz.func130, Tryz.ntmps130
    go_wp2_with fail
    refine HC.out.mono ?_
    rintro e w1 ⟨x, rfl, ho, hB⟩
    obtain ⟨A, c, rfl, _, _⟩ := list_form ho.rel
    clear ho
    go_wp2_with fail
    go_ret
    exact ⟨by simp, hB⟩
  | cons p ps =>
    have hl : (((p :: ps).length : Int) == 0) = false := by simp; omega
    have hl2 : ((ps.length : Int) + 1 == 0) = false := by simp; omega
    go_enter Tryz.func130, Tryz.ntmps130
    go_wp2_with fail
    refine HC.out.mono ?_
    rintro e w1 ⟨x, rfl, ho, hB⟩
    obtain ⟨A, c, rfl, _, _⟩ := list_form ho.rel
    clear ho
    go_wp2_with fail
    go_ret
    exact ⟨by simp, hB⟩

end Go.Proofs.YtmkmikacfilbpaaGreat
namespace Go.Proofs.YtmkmikacfilbpaaGreat
open Go.RowKit Go.Um
set_option maxHeartbeats 1000000 in
theorem SCheck_calls (l : List Span) (v : Value) (w : World) (h : spansR.rel w (upto w.heap.size) [v] l) : Calls Tryz.prog 129 #[v] w fun e w' => e = .returned (.bool (plain l)) ∧ Below w.heap.size w w' := by
  obtain ⟨A, c, rfl, hc, hm⟩ := list_form h
  unfold maxLen at hm
  go_enter Tryz.func129, Tryz.ntmps129
  go_wp2_with fail
  go_loopw [3, 8] (fun vlast vi wr => ∃ (k : Nat) (last : Int), k ≤ l.length ∧ vi = .int .i64 k ∧ vlast = .int .i64 last ∧ -1073741826 ≤ last ∧ last ≤ 1073741824 ∧ plainFrom last (l.drop k) = plain l ∧ Below w.heap.size w wr) (fun _ vi _ => l.length - (intOf vi).toNat)
  case atStart => exact ⟨0, -1073741826, Nat.zero_le _, rfl, rfl, by decide, by decide, rfl, Below.refl _ _⟩
  case round =>
    obtain ⟨k, last, hk, rfl, rfl, hl1, hl2, hp, hB⟩ := hrel
    have HP := hid hp; clear hp
    have hr := spansR.mono (below_cells hB) (fun _ h => h) h
    by_cases hlt : k < l.length
    · obtain ⟨x, hx⟩ := at_lt hlt
      obtain ⟨b1, o1, rfl, hb1, h1, h2, hp1, hp2⟩ := span_at hr hx
      have hlt' : (k : Int) < l.length := by omega
      have hBa : ∀ o, Below w.heap.size w (wr.alloc o) := fun o => hB.alloc hB.size o
      have HP2 : Hid ((if x.hi < x.lo ∨ x.lo < -1073741824 ∨ 1073741824 < x.hi ∨ x.lo ≤ last + 1 then false else plainFrom x.hi (l.drop (k + 1))) = plain l) := hid (by have := HP.out; rw [drop_cons hx] at this; exact this)
      clear hx hr hp1 hp2
      by_cases c1 : x.hi < x.lo
      · have hF : Hid (false = plain l) := hid (by have := HP2.out; rwa [if_pos (by omega)] at this)
        go_wp2_with fail
        go_ret
        exact ⟨by rw [← hF.out]; rfl, hBa _⟩
      · by_cases c2 : x.lo < -1073741824
        · have hF : Hid (false = plain l) := hid (by have := HP2.out; rwa [if_pos (by omega)] at this)
          go_wp2_with fail
          go_ret
          exact ⟨by rw [← hF.out]; rfl, hBa _⟩
        · by_cases c3 : 1073741824 < x.hi
          · have hF : Hid (false = plain l) := hid (by have := HP2.out; rwa [if_pos (by omega)] at this)
            go_wp2_with fail
            go_ret
            exact ⟨by rw [← hF.out]; rfl, hBa _⟩
          · by_cases c4 : x.lo ≤ last + 1
            · have hF : Hid (false = plain l) := hid (by have := HP2.out; rwa [if_pos (by omega)] at this)
              go_wp2_with fail
              go_ret
              exact ⟨by rw [← hF.out]; rfl, hBa _⟩
            · have HP3 : Hid (plainFrom x.hi (l.drop (k + 1)) = plain l) := hid (by have := HP2.out; rwa [if_neg (by omega)] at this)
              go_wp2_with fail
              refine ⟨⟨k + 1, x.hi, by omega, by go_num, rfl, by omega, by omega, HP3.out, hBa _⟩, ?_⟩
              simp [intOf]; omega
    · have hke : k = l.length := by omega
      subst hke
      have hF : Hid (true = plain l) := hid (by have := HP.out; simpa [plainFrom] using this)
      clear HP hr
      go_wp2_with fail
      go_ret
      exact ⟨by rw [← hF.out]; rfl, hB⟩

def stateF (n s : Int) : Bool := decide (0 ≤ s) && decide (s < n)
set_option maxHeartbeats 400000 in
theorem state_calls (a b c d : Int) (v u : Value) (s : Int) (w : World) : Calls Tryz.prog 107 #[.agg #[.int .i64 a, .int .i64 b, .int .i64 c, .int .i64 d, v, u], .int .i64 s] w fun e w' => e = .returned (.bool (stateF c s)) ∧ Below w.heap.size w w' := by
  by_cases h1 : 0 ≤ s
  · by_cases h2 : s < c
    · go_enter Tryz.func107, Tryz.ntmps107
      go_wp2_with fail
      go_ret
      exact ⟨by simp [stateF, h1, h2], (Below.refl _ _).alloc (Nat.le_refl _) _⟩
    · go_enter Tryz.func107, Tryz.ntmps107
      go_wp2_with fail
      go_ret
      exact ⟨by simp [stateF, h1, h2], (Below.refl _ _).alloc (Nat.le_refl _) _⟩
  · go_enter Tryz.func107, Tryz.ntmps107
    go_wp2_with fail
    go_ret
    exact ⟨by simp [stateF]; omega, (Below.refl _ _).alloc (Nat.le_refl _) _⟩

/-- desc's guards. -/
def guardOk (s : Int) (g : List Span) : Bool := !(g.isEmpty || decide (64 < g.length) || !plain g || !(minusF g (domF s)).isEmpty)
def guardsF (s : Int) (l : List (List Span)) : Bool := if 4 < l.length then false else l.all (guardOk s)
set_option maxHeartbeats 1000000 in
set_option maxRecDepth 100000 in
theorem guards_calls (s : Int) (l : List (List Span)) (v : Value) (w : World) (h : (listR spansR).rel w (upto w.heap.size) [v] l) : Calls Tryz.prog 108 #[.int .i64 s, v] w fun e w' => e = .returned (.bool (guardsF s l)) ∧ Below w.heap.size w w' := by
  obtain ⟨A, c, rfl, hc, hm⟩ := list_form h
  unfold maxLen at hm
  by_cases hbig : 4 < l.length
  · have hF : guardsF s l = false := by simp [guardsF, hbig]
    rw [hF]
    have hb' : (4 : Int) < l.length := by omega
    clear hF h hbig
    go_enter Tryz.func108, Tryz.ntmps108
    go_wp2_with fail
    go_ret
    exact ⟨rfl, Below.refl _ _⟩
  · have hF : guardsF s l = l.all (guardOk s) := by simp [guardsF, hbig]
    rw [hF]
    have hb' : ¬ (4 : Int) < l.length := by omega
    clear hF hbig
    go_enter Tryz.func108, Tryz.ntmps108
    go_wp2_with fail
    refine (Domain_calls s _).mono ?_
    rintro e w1 ⟨u, rfl, ho, hB1⟩
    have hdl : (domF s).length < 1073741824 := by
      unfold domF; split
      · simp
      · split <;> simp
    have hu := ho.rel
    obtain ⟨A2, c2, rfl, _, hm2⟩ := list_form hu
    clear ho
    go_wp2_with fail
    go_loopw [15] (fun vi wr => ∃ k : Nat, k ≤ l.length ∧ vi = .int .i64 k ∧ (l.drop k).all (guardOk s) = l.all (guardOk s) ∧ Below w1.heap.size w1 wr) (fun vi _ => l.length - (intOf vi).toNat)
    case atStart => exact ⟨0, Nat.zero_le _, rfl, rfl, Below.refl _ _⟩
    case round =>
      obtain ⟨k, hk, rfl, hp, hB⟩ := hrel
      have HP := hid hp; clear hp
      have hBw : Below w.heap.size w wr := hB1.trans (hB.mono hB1.size)
      have hr := (listR spansR).mono (below_cells hBw) (fun _ h => h) h
      by_cases hlt : k < l.length
      · obtain ⟨x, hx⟩ := at_lt hlt
        obtain ⟨b1, o1, y, rfl, hb1, hy, h1⟩ := list_at1 rfl hr hx
        obtain ⟨A3, c3, rfl, hc3, hm3⟩ := list_form hy
        unfold maxLen at hm3
        have hlt' : (k : Int) < l.length := by omega
        have HP2 : Hid ((guardOk s x && (l.drop (k + 1)).all (guardOk s)) = l.all (guardOk s)) := hid (by have := HP.out; rw [drop_cons hx] at this; exact this)
        have hyw : spansR.rel wr (upto wr.heap.size) [.slice A3 x.length c3] x := spansR.mono (fun _ _ => rfl) (fun b hb => Nat.lt_of_lt_of_le hb hBw.size) hy
        have huw : spansR.rel wr (upto wr.heap.size) [.slice A2 (domF s).length c2] (domF s) := spansR.below hu hB hB.size
        clear hx hr hy
        by_cases e1 : x = []
        · subst e1
          have hG : Hid (false = l.all (guardOk s)) := hid (by rw [← HP2.out]; simp [guardOk])
          go_wp2_with fail
          go_ret
          exact ⟨by rw [← hG.out]; rfl, hBw⟩
        · have e1' : ((x.length : Int) == 0) = false := by
            have : x.length ≠ 0 := fun h => e1 (List.eq_nil_of_length_eq_zero h)
            simp; exact e1
          by_cases e2 : 64 < x.length
          · have e2' : (64 : Int) < x.length := by omega
            have hG : Hid (false = l.all (guardOk s)) := hid (by rw [← HP2.out]; simp [guardOk, e2])
            clear e1
            go_wp2_with fail
            go_ret
            exact ⟨by rw [← hG.out]; rfl, hBw⟩
          · have e2' : ¬ (64 : Int) < x.length := by omega
            have hsc := SCheck_calls x _ wr hyw
            cases e3 : plain x with
            | false =>
              have hG : Hid (false = l.all (guardOk s)) := hid (by rw [← HP2.out]; simp [guardOk, e3])
              rw [e3] at hsc
              have HS := hid hsc
              clear e1 e2 e3 hsc
              go_wp2_with fail
              refine HS.out.mono ?_
              rintro e w2 ⟨rfl, hB2⟩
              go_wp2_with fail
              go_ret
              exact ⟨by rw [← hG.out]; rfl, hBw.trans (hB2.mono hBw.size)⟩
            | true =>
              rw [e3] at hsc
              have HS := hid hsc
              have hwi : ∀ W, Below wr.heap.size wr W → Calls Tryz.prog 130 #[.slice A3 x.length c3, .slice A2 (domF s).length c2] W fun e w' => e = .returned (.bool ((minusF x (domF s)).isEmpty)) ∧ Below W.heap.size W w' :=
                fun W hW => Within_calls x (domF s) _ _ W (spansR.below hyw hW hW.size) (spansR.below huw hW hW.size) (by omega) hdl
              cases e4 : (minusF x (domF s)).isEmpty with
              | false =>
                have hG : Hid (false = l.all (guardOk s)) := hid (by rw [← HP2.out]; simp [guardOk, e4])
                rw [e4] at hwi
                have HW := hid hwi
                clear e1 e2 e3 e4 hsc hwi
                go_wp2_with fail
                refine HS.out.mono ?_
                rintro e w2 ⟨rfl, hB2⟩
                go_wp2_with fail
                refine (HW.out _ hB2).mono ?_
                rintro e w3 ⟨rfl, hB3⟩
                go_wp2_with fail
                go_ret
                exact ⟨by rw [← hG.out]; rfl, hBw.trans ((hB2.mono hBw.size).trans (hB3.mono (Nat.le_trans hBw.size hB2.size)))⟩
              | true =>
                have hG : Hid ((l.drop (k + 1)).all (guardOk s) = l.all (guardOk s)) := hid (by rw [← HP2.out]; have : guardOk s x = true := by simp [guardOk, e3, e4, e1]; omega
                                                                                                rw [this]; rfl)
                rw [e4] at hwi
                have HW := hid hwi
                clear e1 e2 e3 e4 hsc hwi
                go_wp2_with fail
                refine HS.out.mono ?_
                rintro e w2 ⟨rfl, hB2⟩
                go_wp2_with fail
                refine (HW.out _ hB2).mono ?_
                rintro e w3 ⟨rfl, hB3⟩
                go_wp2_with fail
                refine ⟨⟨k + 1, by omega, by go_num, hG.out, hB.trans ((hB2.mono hB.size).trans (hB3.mono (Nat.le_trans hB.size hB2.size)))⟩, ?_⟩
                simp [intOf]; omega
      · have hke : k = l.length := by omega
        subst hke
        have hG : Hid (true = l.all (guardOk s)) := hid (by have := HP.out; simpa using this)
        clear HP hr
        go_wp2_with fail
        go_ret
        exact ⟨by rw [← hG.out]; rfl, hBw⟩
end Go.Proofs.YtmkmikacfilbpaaGreat
