/-
  What escapes bytes: escape.Url.
-/
import Derived.Test.YthfcbbdghggefaaGreatQEsD
import Derived.Test.YthfcbbdghggefaaGreatQEsR
import Derived.Test.YthfcbbdghggefaaGreatQOwnX
namespace Go.Proofs.YthfcbbdghggefaaGreat
open Go.RowKit Go.Um Go.Proofs
theorem infoRu : (Tryz.prog.info? 46).map (fun i => (i.zero, i.size, i.bytes)) = some (some (.agg #[.int .i64 0, .int .i64 0, .slice none 0 0, .int .i64 0, .slice none 0 0]), 5, 72) := by kernel_rfl
theorem cellA (W : World) (o : Obj) (b j : Nat) (h : b < W.heap.size) : (W.alloc o).cell? ⟨b, j, none⟩ = W.cell? ⟨b, j, none⟩ := World.cell?_of_block (Below.heap_alloc _ _ _ h)
theorem fx_ne {α : Type} {e t : TypeId} {r : RepOf α} {w : World} {b0 g : Nat} {X : Nat → Prop} {v : Value} {xs : List α} {cs : Array Value} (h : FX e r w b0 X v xs) (hg : w.heap[g]? = some (.cells cs t)) (hne : e ≠ t) : v.ownBlock ≠ some g := fun he => Tag.ne (h.tag g he) ⟨cs, _, hg⟩ hne rfl
theorem nibble_calls (d base : Int) (hd : d = 0 ∨ d = 4) (hb : base = 48 ∨ base = 55) (w : World) : Calls Tryz.prog 71 #[.int .i64 d, .int .i64 base] w (SetPost (nibL d base) w) := by
  rcases hd with rfl | rfl <;> rcases hb with rfl | rfl
  · exact nibble048 w
  · exact nibble055 w
  · exact nibble448 w
  · exact nibble455 w
theorem one_final {W : World} {b : Nat} {S : Nat → Prop} (h : W.heap[b]? = some (.cells #[.int .i64 0, .slice none 0 0, .slice none 0 0] 49)) (hS : S b) : (listR finalR).rel W S [.slice (some ⟨b, 0, none⟩) 1 1] [⟨0, [], []⟩] := by
  refine ⟨_, 1, 1, rfl, rfl, Nat.le_refl _, by unfold maxLen; omega, .inr ⟨b, 0, rfl, hS, fun i x hx => ?_⟩⟩
  cases i with
  | succ i => simp at hx
  | zero =>
    simp at hx
    subst hx
    refine ⟨[.int .i64 0, .slice none 0 0, .slice none 0 0], ⟨_, _, rfl, (okI (by omega) : I64 0), list_nil _ _ _, list_nil _ _ _⟩, fun j u hu => ?_⟩
    rw [cell_of_row _ _ _ _ _ _ h]
    simpa using hu
theorem idx2 (W : World) (i : Nat) (hi : i < 2) : (Instr.index 112 (.agg #[.int .i64 48, .int .i64 55]) (.int .i64 i)).run Tryz.prog W = .ok (.int .i64 (if i = 0 then 48 else 55)) W := by
  obtain rfl | rfl : i = 0 ∨ i = 1 := by omega
  · kernel_rfl
  · kernel_rfl
theorem nibL_len (d b : Int) : (nibL d b).length ≤ 16 := by
  unfold nibL
  split
  · split <;> simp
  · simp
theorem six9' {W : World} {b : Nat} {x0 x1 x2 x3 x4 x5 : Value} {t : TypeId} {ι : Type} {Wc : ι → World} (hc : ∀ i, (Wc i).heap[b]? = W.heap[b]?) (h : W.heap[b]? = some (.cells #[x0, x1, x2, x3, x4, x5] t)) :
    (∀ i, (Wc i).cell? ⟨b, 0, none⟩ = some x0) ∧ (∀ i, (Wc i).cell? ⟨b, 1, none⟩ = some x1) ∧ (∀ i, (Wc i).cell? ⟨b, 2, none⟩ = some x2) ∧ (∀ i, (Wc i).cell? ⟨b, 3, none⟩ = some x3) ∧ (∀ i, (Wc i).cell? ⟨b, 4, none⟩ = some x4) ∧ ∀ i, (Wc i).cell? ⟨b, 5, none⟩ = some x5 :=
  ⟨fun i => cell_of_row _ _ 0 _ _ _ ((hc i).trans h), fun i => cell_of_row _ _ 1 _ _ _ ((hc i).trans h), fun i => cell_of_row _ _ 2 _ _ _ ((hc i).trans h), fun i => cell_of_row _ _ 3 _ _ _ ((hc i).trans h), fun i => cell_of_row _ _ 4 _ _ _ ((hc i).trans h), fun i => cell_of_row _ _ 5 _ _ _ ((hc i).trans h)⟩
theorem drew_below (B : Nat) (w : World) : Below B w w.drew := have h := Below.refl B w; ⟨h.os, h.tape, h.output, h.size, h.block⟩
theorem hex_len (up lo : Int) (h1 : up = 48 ∨ up = 55) (h2 : lo = 48 ∨ lo = 55) : (minusF (meetF (nibL 4 up) (nibL 0 lo)) plainP).length ≤ 100 := by
  rcases h1 with rfl | rfl <;> rcases h2 with rfl | rfl <;> decide +kernel
theorem url_get (i j : Nat) (up lo : Int) (hi : i < 2) (hj : j < 2) (h1 : up = if i = 0 then 48 else 55) (h2 : lo = if j = 0 then 48 else 55) : urlD.rules[2 * i + j + 1]? = some (hexR up lo) := by
  obtain rfl | rfl : i = 0 ∨ i = 1 := by omega
  all_goals
    obtain rfl | rfl : j = 0 ∨ j = 1 := by omega
    all_goals
      subst h1 h2
      rfl
/-- a list of one element, in a block that is there. -/
theorem one_at {α : Type} {r : RepOf α} {W : World} {b : Nat} {S : Nat → Prop} {cells : Array Value} {ty : TypeId} {x : α} (h : W.heap[b]? = some (.cells cells ty)) (hS : S b) (hr : r.rel W S cells.toList x) : (listR r).rel W S [.slice (some ⟨b, 0, none⟩) 1 1] [x] := by
  refine ⟨_, 1, 1, rfl, rfl, Nat.le_refl _, by unfold maxLen; omega, .inr ⟨b, 0, rfl, hS, fun i y hy => ?_⟩⟩
  cases i with
  | succ i => simp at hy
  | zero =>
    simp at hy
    subst hy
    refine ⟨_, hr, fun j u hu => ?_⟩
    rw [Nat.zero_mul, Nat.add_zero, Nat.zero_add, cell_of_row _ _ _ _ _ _ h]
    simpa using hu
def UrlI (w : World) (A D : Nat) (wr : World) (k : Nat) : Prop := ∃ vr X, wr.heap[D]? = some (.cells #[.int .i64 1, .int .i64 1, .int .i64 1, .int .i64 0, vr, .slice (some ⟨w.heap.size + 1, 0, none⟩) 1 1] 27) ∧ wr.heap[w.heap.size]? = some (.cells #[.int .i64 0, .int .i64 0, .int .i64 0, .int .i64 0, .slice none 0 0, .slice none 0 0] 27) ∧ wr.heap[w.heap.size + 1]? = some (.cells #[.int .i64 0, .slice none 0 0, .slice none 0 0] 49) ∧ wr.heap[A]? = some (.cells #[.int .i64 0, .int .i64 255] 75) ∧
  FX 46 ruleR wr (w.heap.size + 2) X vr (urlD.rules.take (k + 1)) ∧ (∀ g, X g → g < wr.heap.size) ∧ X D ∧ Below w.heap.size w wr ∧ w.heap.size + 1 < D ∧ D < A
set_option maxHeartbeats 2000000 in
set_option maxRecDepth 100000 in
theorem Url_calls (w : World) : Calls Tryz.prog 34 #[] w fun e w' => DescPost urlD w e w' := by
  have HPL := hid fun W => eplain_calls W
  have HC := hid fun W => Copy_calls 0 0 W (okI (by omega))
  have HON := hid fun A B n c m d W => one_calls A B n c m d W
  have HNB := hid fun d base hd hb W => nibble_calls d base hd hb W
  have HW := hid fun W => Whole_calls 0 W
  have HCN := hid fun W => Const_calls 37 W ⟨by omega, by omega⟩
  obtain ⟨inf, hi0, hz0, hz1, hz2⟩ := info_parts infoRu
  go_enter Tryz.func34, Tryz.ntmps34
  go_wp2_with fail
  refine (HPL.out _).mono ?_
  rintro e w1 ⟨u1, rfl, ho1, hB1⟩
  obtain ⟨A1, c1, rfl, _, _⟩ := list_form ho1.rel
  have HO1 := hid ho1
  have HB1 := hid hB1
  clear ho1 hB1
  go_wp2_with fail
  refine (HC.out _).mono ?_
  rintro e w2 ⟨v2, rfl, hp2, hB2⟩
  obtain ⟨A2, c2, rfl, _, _⟩ := list_form hp2
  have HP2 := hid hp2
  have HB2 := hid hB2
  unfold tval copyT
  dsimp only
  clear hp2 hB2
  go_wp2_with fail
  refine (HON.out _ _ _ _ _ _ _).mono ?_
  rintro e w3 ⟨rfl, hg3, hs3, hB3⟩
  have HG3 := hid hg3
  have HB3 := hid hB3
  have HS3 := hid hs3
  clear hg3 hB3 hs3
  go_wp2_with fail
  obtain ⟨A, hA⟩ : ∃ A, A = w3.heap.size + 1 + 1 := ⟨_, rfl⟩
  obtain ⟨D, hD⟩ : ∃ D, D = w3.heap.size + 1 := ⟨_, rfl⟩
  rw [← hA, ← hD]
  have hI : Hid (UrlI w A D (((w3.alloc (.cells #[.int .i64 0, .int .i64 0, .slice (some ⟨w2.heap.size + 1 + 1, 0, none⟩) 1 1, .int .i64 1, .slice (some ⟨w2.heap.size, 0, none⟩) 1 1] 46)).alloc (.cells #[.int .i64 1, .int .i64 1, .int .i64 1, .int .i64 0, .slice (some ⟨w3.heap.size, 0, none⟩) 1 1, .slice (some ⟨w.heap.size + 1, 0, none⟩) 1 1] 27)).alloc (.cells #[.int .i64 0, .int .i64 255] 75)) 0) := by
    have hs0 := (show w.heap.size + 2 ≤ w1.heap.size by have := HB1.out.size; simp at this; omega)
    have hs1 := HB2.out.size
    have hFt := FL.one (e := 69) (r := termR) (x := copyT 0 0) (w := w2) (b0 := w.heap.size + 2) (base := w.heap.size + 2) (cells := #[.int .i64 0, .int .i64 0, .int .i64 21, .int .i64 0, .int .i64 0, .slice A2 1 c2]) ⟨_, rfl, ⟨(okI (by omega) : I64 0), (okI (by omega) : I64 0), (okI (by omega) : I64 21), (okI (by omega) : I64 0), (okI (by omega) : I64 0)⟩, rel_low (q := listR partR) HP2.out hs0⟩ rfl (by omega)
    have hs2 := HS3.out
    have hs3 : w3.heap.size = w2.heap.size + 3 := by rw [hs2]; simp
    have hR1 := rel_fresh (rel_fresh (own_fresh (base := w.heap.size + 2) HO1.out (by simp)) HB2.out) (((Below.refl _ w2).alloc (Nat.le_refl _) _).trans (HB3.out.mono (by simp)))
    have hgd := one_at (r := spansR) (cells := #[_]) HG3.out (show Fresh (w.heap.size + 2) w3 _ from ⟨by simp; omega, by simp; omega⟩) hR1
    have hFr := FL.one (e := 46) (r := ruleR) (x := ⟨0, 0, [plainP], 1, [copyT 0 0]⟩) (w := w3) (b0 := w.heap.size + 2) (base := w.heap.size + 2) (cells := #[.int .i64 0, .int .i64 0, .slice (some ⟨w2.heap.size + 1 + 1, 0, none⟩) 1 1, .int .i64 1, .slice (some ⟨w2.heap.size, 0, none⟩) 1 1]) ⟨_, _, rfl, ⟨(okI (by omega) : I64 0), (okI (by omega) : I64 0), (okI (by omega) : I64 1)⟩, (by simpa using hgd), rel_fresh (q := listR termR) (hFt.rel (Nat.le_refl _)) HB3.out⟩ rfl (by omega)
    obtain ⟨wr, hwr⟩ : ∃ wr, wr = w3.alloc (.cells #[.int .i64 0, .int .i64 0, .slice (some ⟨w2.heap.size + 1 + 1, 0, none⟩) 1 1, .int .i64 1, .slice (some ⟨w2.heap.size, 0, none⟩) 1 1] 46) := ⟨_, rfl⟩
    rw [← hwr] at hFr ⊢
    have hBr : Below w3.heap.size w3 wr := by rw [hwr]; exact (Below.refl _ w3).alloc (Nat.le_refl _) _
    have hsr : wr.heap.size = w3.heap.size + 1 := by rw [hwr]; simp
    clear hwr
    obtain ⟨wl, hwl⟩ : ∃ wl, wl = (wr.alloc (.cells #[.int .i64 1, .int .i64 1, .int .i64 1, .int .i64 0, .slice (some ⟨w3.heap.size, 0, none⟩) 1 1, .slice (some ⟨w.heap.size + 1, 0, none⟩) 1 1] 27)).alloc (.cells #[.int .i64 0, .int .i64 255] 75) := ⟨_, rfl⟩
    rw [← hwl]
    have hBl : Below wr.heap.size wr wl := by rw [hwl]; exact ((Below.refl _ wr).alloc (Nat.le_refl _) _).alloc (by simp) _
    have hsl : wl.heap.size = wr.heap.size + 2 := by rw [hwl]; simp
    have hDl : wl.heap[D]? = some (.cells #[.int .i64 1, .int .i64 1, .int .i64 1, .int .i64 0, .slice (some ⟨w3.heap.size, 0, none⟩) 1 1, .slice (some ⟨w.heap.size + 1, 0, none⟩) 1 1] 27) := by
      rw [hwl, Below.heap_alloc _ _ _ (by simp; omega), show D = wr.heap.size by omega]
      exact heap_alloc_new _ _
    have hAl : wl.heap[A]? = some (.cells #[.int .i64 0, .int .i64 255] 75) := by
      rw [hwl, show A = (wr.alloc (.cells #[.int .i64 1, .int .i64 1, .int .i64 1, .int .i64 0, .slice (some ⟨w3.heap.size, 0, none⟩) 1 1, .slice (some ⟨w.heap.size + 1, 0, none⟩) 1 1] 27)).heap.size by simp; omega]
      exact heap_alloc_new _ _
    clear hwl
    have hB2a : Below w2.heap.size w2 w3 := ((Below.refl _ w2).alloc (Nat.le_refl _) _).trans (HB3.out.mono (by simp))
    have hB1l : Below w1.heap.size w1 wl := HB2.out.trans ((hB2a.trans ((hBr.trans (hBl.mono (by omega))).mono (by omega))).mono hs1)
    have hB0 : Below w.heap.size w ((w.alloc (.cells #[.int .i64 0, .int .i64 0, .int .i64 0, .int .i64 0, .slice none 0 0, .slice none 0 0] 27)).alloc (.cells #[.int .i64 0, .slice none 0 0, .slice none 0 0] 49)) := ((Below.refl _ w).alloc (Nat.le_refl _) _).alloc (by simp) _
    refine hid ⟨_, fun g => g = w3.heap.size ∨ g = D, hDl, ?_, ?_, hAl, ?_, fun g hg => by rcases hg with rfl | rfl <;> omega, .inr rfl, (hB0.trans (HB1.out.mono (by simp; omega))).trans (hB1l.mono (by omega)), by omega, by omega⟩
    · rw [hB1l.block _ (by omega), HB1.out.block _ (by simp; omega), Below.heap_alloc _ _ _ (by simp)]
      exact heap_alloc_new _ _
    · rw [hB1l.block _ (by omega), HB1.out.block _ (by simp)]
      have := heap_alloc_new (w.alloc (.cells #[.int .i64 0, .int .i64 0, .int .i64 0, .int .i64 0, .slice none 0 0, .slice none 0 0] 27)) (.cells #[.int .i64 0, .slice none 0 0, .slice none 0 0] 49)
      simpa using this
    · refine (FX.of (X := fun g => g = w3.heap.size) hFr (Nat.le_refl _) fun g => ⟨fun h => by rw [h]; rfl, fun h => by simp [Value.ownBlock] at h; exact h.symm⟩).keep (by omega) (fun g hg => .inl hg) (fun g hg hlt => hg.resolve_right (by omega)) (fun g hg => hBl.block g ?_) (fun g _ hg _ => hBl.block g hg)
      simp [Value.ownBlock] at hg
      omega
  generalize ((w3.alloc (.cells #[.int .i64 0, .int .i64 0, .slice (some ⟨w2.heap.size + 1 + 1, 0, none⟩) 1 1, .int .i64 1, .slice (some ⟨w2.heap.size, 0, none⟩) 1 1] 46)).alloc (.cells #[.int .i64 1, .int .i64 1, .int .i64 1, .int .i64 0, .slice (some ⟨w3.heap.size, 0, none⟩) 1 1, .slice (some ⟨w.heap.size + 1, 0, none⟩) 1 1] 27)).alloc (.cells #[.int .i64 0, .int .i64 255] 75) = wl at *
  clear hA hD HG3 HB3 HS3 HP2 HB2 HO1 HB1
  go_loopw [21] (fun vi wr => ∃ i : Nat, i ≤ 2 ∧ vi = .int .i64 i ∧ UrlI w A D wr (2 * i)) (fun vi _ => 2 - (intOf vi).toNat)
  case atStart => exact ⟨0, Nat.zero_le _, rfl, hI.out⟩
  case round =>
    clear hI
    obtain ⟨wo, hwo⟩ : ∃ wo, wo = wr := ⟨_, rfl⟩
    subst hwo
    obtain ⟨i, hi, rfl, hU⟩ := hrel
    have HU := hid hU
    clear hU
    by_cases hlt : i < 2
    · have hlt' : (i : Int) < 2 := by omega
      have hix := fun W => idx2 W i hlt
      obtain ⟨up, hup⟩ : ∃ up : Int, up = if i = 0 then 48 else 55 := ⟨_, rfl⟩
      rw [← hup] at hix
      have HUP := hid hup
      have hub : up = 48 ∨ up = 55 := by rw [hup]; split <;> simp
      have HUB := hid hub
      have hub2 : 48 ≤ up ∧ up ≤ 55 := by omega
      clear hup hub
      go_wp2_with fail
      clear hix
      go_loopw [25] (fun vj wr => ∃ j : Nat, j ≤ 2 ∧ vj = .int .i64 j ∧ UrlI w A D wr (2 * i + j)) (fun vj _ => 2 - (intOf vj).toNat)
      case atStart => exact ⟨0, Nat.zero_le _, rfl, HU.out⟩
      case round =>
        clear HU
        obtain ⟨wp, hwp⟩ : ∃ wp, wp = wr := ⟨_, rfl⟩
        subst hwp
        obtain ⟨j, hj, rfl, hV⟩ := hrel
        have HV := hid hV
        clear hV
        by_cases hltj : j < 2
        · have hltj' : (j : Int) < 2 := by omega
          have hix := fun W => idx2 W j hltj
          obtain ⟨lo, hlo⟩ : ∃ lo : Int, lo = if j = 0 then 48 else 55 := ⟨_, rfl⟩
          rw [← hlo] at hix
          have HLO := hid hlo
          have hlb : lo = 48 ∨ lo = 55 := by rw [hlo]; split <;> simp
          have HLB := hid hlb
          have hlb2 : 48 ≤ lo ∧ lo ≤ 55 := by omega
          clear hlo hlb
          go_wp2_with fail
          refine (HNB.out 4 up (.inr rfl) HUB.out _).mono ?_
          rintro e w1 ⟨v1, rfl, ho1, hB1⟩
          obtain ⟨A1', c1', rfl, _, _⟩ := list_form ho1.rel
          have HO1 := hid ho1
          have HB1 := hid hB1
          clear ho1 hB1 hix
          go_wp2_with fail
          refine (HNB.out 0 lo (.inl rfl) HLB.out _).mono ?_
          rintro e w2 ⟨v2, rfl, ho2, hB2⟩
          obtain ⟨A2', c2', rfl, _, _⟩ := list_form ho2.rel
          have HO2 := hid ho2
          have HB2 := hid (HB1.out.trans (hB2.mono HB1.out.size))
          have HR1 := hid (spansR.below HO1.out.rel hB2 hB2.size)
          clear ho2 hB2 HO1 HB1
          go_wp2_with fail
          refine (Meet_calls (nibL 4 up) (nibL 0 lo) _ _ w2 HR1.out HO2.out.rel (by have := nibL_len 4 up; omega) (by have := nibL_len 0 lo; omega)).mono ?_
          rintro e w3 ⟨v3, rfl, ho3, hB3⟩
          obtain ⟨A3', c3', rfl, _, _⟩ := list_form ho3.rel
          have HO3 := hid ho3
          have HB3 := hid (HB2.out.trans (hB3.mono HB2.out.size))
          clear ho3 hB3 HO2 HB2 HR1
          go_wp2_with fail
          refine (HPL.out _).mono ?_
          rintro e w4 ⟨v4, rfl, ho4, hB4⟩
          obtain ⟨A4', c4', rfl, _, _⟩ := list_form ho4.rel
          have HO4 := hid ho4
          have HB4 := hid (HB3.out.trans (hB4.mono HB3.out.size))
          have HR3 := hid (spansR.below HO3.out.rel hB4 hB4.size)
          have hl3 : (meetF (nibL 4 up) (nibL 0 lo)).length ≤ 32 := by have := meetF_length (nibL 4 up) (nibL 0 lo); have := nibL_len 4 up; have := nibL_len 0 lo; omega
          clear ho4 hB4 HO3 HB3
          go_wp2_with fail
          refine (Minus_calls (meetF (nibL 4 up) (nibL 0 lo)) plainP _ _ w4 HR3.out HO4.out.rel (by omega) (by decide)).mono ?_
          rintro e w5 ⟨v5, rfl, ho5, hB5⟩
          obtain ⟨A5', c5', rfl, _, _⟩ := list_form ho5.rel
          have HO5 := hid (ho5.base HB4.out.size)
          have HB5 := hid (HB4.out.trans (hB5.mono HB4.out.size))
          obtain ⟨S7, hS7⟩ : ∃ S7, S7 = minusF (meetF (nibL 4 up) (nibL 0 lo)) plainP := ⟨_, rfl⟩
          rw [← hS7] at HO5 ⊢
          have HS7 := hid hS7
          clear ho5 hB5 HO4 HB4 HR3 hl3 hS7
          go_wp2_with fail
          refine (HW.out _).mono ?_
          rintro e w6 ⟨rfl, hB6⟩
          have HB6 := hid (HB5.out.trans (hB6.mono HB5.out.size))
          have HR6 := hid (rel_fresh (own_fresh HO5.out (Nat.le_refl _)) hB6)
          clear hB6 HO5 HB5
          unfold pval wholeP
          dsimp only
          go_wp2_with fail
          refine (HW.out _).mono ?_
          rintro e w7 ⟨rfl, hB7⟩
          have HB7 := hid hB7
          clear hB7
          unfold pval wholeP
          dsimp only
          go_wp2_with fail
          obtain ⟨wq, hwq⟩ : ∃ wq, wq = (w7.alloc (.cells #[.int .i64 0, .int .i64 0, .int .i64 21, .int .i64 0] 72)).alloc (.cells #[.int .i64 lo, .int .i64 0, .int .i64 4, .int .i64 0, .int .i64 0, .slice (some ⟨w7.heap.size, 0, none⟩) 1 1] 69) := ⟨_, rfl⟩
          rw [← hwq]
          have hLO : wq.heap[w7.heap.size + 1]? = some (.cells #[.int .i64 lo, .int .i64 0, .int .i64 4, .int .i64 0, .int .i64 0, .slice (some ⟨w7.heap.size, 0, none⟩) 1 1] 69) := by
            have := heap_alloc_new (w7.alloc (.cells #[.int .i64 0, .int .i64 0, .int .i64 21, .int .i64 0] 72)) (.cells #[.int .i64 lo, .int .i64 0, .int .i64 4, .int .i64 0, .int .i64 0, .slice (some ⟨w7.heap.size, 0, none⟩) 1 1] 69)
            rw [hwq]
            simpa using this
          have hP2 : wq.heap[w7.heap.size]? = some (.cells #[.int .i64 0, .int .i64 0, .int .i64 21, .int .i64 0] 72) := by
            rw [hwq, Below.heap_alloc _ _ _ (by simp)]
            exact heap_alloc_new _ _
          have hB7q : Below w7.heap.size w7 wq := by rw [hwq]; exact ((Below.refl _ w7).alloc (Nat.le_refl _) _).alloc (by simp) _
          have hs7 := heapLtM hLO
          clear hwq
          have hB6b : Below w6.heap.size w6 ((w6.alloc (.cells #[.int .i64 0, .int .i64 0, .int .i64 21, .int .i64 0] 72)).alloc (.cells #[.int .i64 up, .int .i64 4, .int .i64 4, .int .i64 0, .int .i64 0, .slice (some ⟨w6.heap.size, 0, none⟩) 1 1] 69)) := ((Below.refl _ w6).alloc (Nat.le_refl _) _).alloc (by simp) _
          have hs6 : w6.heap.size + 2 ≤ w7.heap.size := by have := HB7.out.size; simp at this; omega
          have hHI : wq.heap[w6.heap.size + 1]? = some (.cells #[.int .i64 up, .int .i64 4, .int .i64 4, .int .i64 0, .int .i64 0, .slice (some ⟨w6.heap.size, 0, none⟩) 1 1] 69) := by
            rw [hB7q.block _ (by omega), HB7.out.block _ (by simp)]
            have := heap_alloc_new (w6.alloc (.cells #[.int .i64 0, .int .i64 0, .int .i64 21, .int .i64 0] 72)) (.cells #[.int .i64 up, .int .i64 4, .int .i64 4, .int .i64 0, .int .i64 0, .slice (some ⟨w6.heap.size, 0, none⟩) 1 1] 69)
            simpa using this
          have hP1 : wq.heap[w6.heap.size]? = some (.cells #[.int .i64 0, .int .i64 0, .int .i64 21, .int .i64 0] 72) := by
            rw [hB7q.block _ (by omega), HB7.out.block _ (by simp; omega), Below.heap_alloc _ _ _ (by simp)]
            exact heap_alloc_new _ _
          have hB6q : Below w6.heap.size w6 wq := (hB6b.trans (HB7.out.mono hB6b.size)).trans (hB7q.mono (by omega))
          have hBq : Below wp.heap.size wp wq := HB6.out.trans (hB6q.mono HB6.out.size)
          have hRq : spansR.rel wq (Fresh wp.heap.size wq) [.slice A5' S7.length c5'] S7 := rel_fresh HR6.out hB6q
          have hsw6 := HB6.out.size
          obtain ⟨vr, X, hDh, hZh, hFh, hAh, hFX, hXl, hXD, hBw, hZD, hDA⟩ := HV.out
          obtain ⟨Ar, cr, rfl⟩ := hFX.len
          have hDl := heapLtM hDh
          have hZl := heapLtM hZh
          have hFl := heapLtM hFh
          have hAl := heapLtM hAh
          obtain ⟨L, hL⟩ : ∃ L, L = urlD.rules.take (2 * i + j + 1) := ⟨_, rfl⟩
          rw [← hL] at hFX hDh
          have hLl : L.length ≤ 5 := by rw [hL]; simp [urlD]; omega
          have hLn : Hid (urlD.rules.take (2 * i + (j + 1) + 1) = L ++ [hexR up lo]) := hid (by
            rw [show 2 * i + (j + 1) + 1 = 2 * i + j + 1 + 1 by omega, List.take_add_one, url_get i j up lo hlt hltj HUP.out HLO.out, hL]
            rfl)
          have HFX := hid (hFX.later hBq)
          have HXl := hid hXl
          have HXD := hid hXD
          have HBw := hid (hBw.trans (hBq.mono hBw.size))
          have hDq := (hBq.block _ hDl).trans hDh
          have HZq := hid ((hBq.block _ hZl).trans hZh)
          have HFq := hid ((hBq.block _ hFl).trans hFh)
          have HAq := hid ((hBq.block _ hAl).trans hAh)
          have HP1 := hid hP1
          have HP2 := hid hP2
          have HRq := hid hRq
          have HBq := hid hBq
          have hsq := hBq.size
          clear hDh hZh hFh hAh hFX hXl hXD hBw hL hP1 hP2 hRq hBq HR6 HB6 HB7 hB6b hB6q hB7q HV
          have hAq := HAq.out
          have HMEET := hid fun W (hW : Below wq.heap.size wq W) => Meet_calls S7 [⟨0, 255⟩] (.slice A5' S7.length c5') (.slice (some ⟨A, 0, none⟩) 1 1) W (spansR.below (spansR.mono (fun _ _ => rfl) (fun _ hb => hb.2) HRq.out) hW hW.size)
            (one_at (r := spanR) (cells := #[.int .i64 0, .int .i64 255]) (x := ⟨0, 255⟩) ((hW.block _ (Nat.lt_of_lt_of_le hAl hsq)).trans HAq.out) (Nat.lt_of_lt_of_le (Nat.lt_of_lt_of_le hAl hsq) hW.size) ⟨rfl, okI (by simp), okI (by simp)⟩) (by rw [HS7.out]; have := hex_len up lo HUB.out HLB.out; omega) (by simp)
          clear hAq
          obtain ⟨ι, Wc, ⟨i0, hi0'⟩, hWc, Wsur⟩ := held_class wq.drew (fun g => g = D ∨ g = w6.heap.size + 1 ∨ g = w7.heap.size + 1)
          have hne : Nonempty ι := ⟨i0⟩
          have WS := hid Wsur; clear Wsur
          have HWc := hid hWc; clear hWc
          have Hi0 := hid hi0'; clear hi0'
          obtain ⟨d0, d1, d2, d3, d4, d5⟩ := six9' (Wc := Wc) (W := wq) (b := D) (fun i => HWc.out i _ (.inl rfl)) hDq
          obtain ⟨e0, e1, e2, e3, e4, e5⟩ := six9' (Wc := Wc) (W := wq) (b := w6.heap.size + 1) (fun i => HWc.out i _ (.inr (.inl rfl))) hHI
          obtain ⟨l0, l1, l2, l3, l4, l5⟩ := six9' (Wc := Wc) (W := wq) (b := w7.heap.size + 1) (fun i => HWc.out i _ (.inr (.inr rfl))) hLO
          have hS0 : ∃ i, wq.drew = Wc i := ⟨i0, Hi0.out.symm⟩
          have hDlq : D < wq.heap.size := by omega
          have HSB : Hid (∀ W, Below wq.heap.size wq W → ∃ i, W = Wc i) := hid fun W hW => WS.out W fun q hq => hW.block q (by rcases hq with rfl | rfl | rfl <;> omega)
          refine region_anyL (S := fun w' => ∃ i, w' = Wc i) (last := 13) (by kernel_rfl) ?_
          refine anyL_pick [0, 1, 2, 3, 6, 7] (by decide) (by kernel_rfl) (fun _ _ _ _ _ h => h) hS0 (f := 8) rfl (by kernel_rfl) ?_
          show wpQuiet _ _ _ _ [_, _, _, _, _, _] _
          repeat go_big_quiet_step (fail)
          refine wpQuiet_nil ?_
          refine anyL_act (i := 4) (by kernel_rfl) rfl rfl ?_
          intro K hK
          go_wp2_with fail
          refine (HMEET.out wq.drew (drew_below _ wq)).mono ?_
          rintro e w8 ⟨v8, rfl, ho8, hB8⟩
          obtain ⟨A8, c8, rfl, _, _⟩ := list_form ho8.rel
          have hB8x : Below wq.heap.size wq w8 := ⟨hB8.os, hB8.tape, hB8.output, hB8.size, hB8.block⟩
          have HR8 : Hid (spansR.rel w8 (Fresh wp.heap.size w8) [.slice A8 (meetF S7 [⟨0, 255⟩]).length c8] (hexS up lo)) := hid (by
            have := own_fresh ho8 (base := wp.heap.size) hsq
            rw [show hexS up lo = meetF S7 [⟨0, 255⟩] by rw [HS7.out]; rfl]
            exact this)
          have HB8 := hid hB8x
          go_wp2_with fail
          refine hK.out _ _ (fun _ => HSB.out _ hB8x) ?_
          clear hK K ho8 hB8 HMEET hB8x
          refine anyL_act (i := 5) (by kernel_rfl) rfl rfl ?_
          intro K hK
          go_wp2_with fail
          refine (HCN.out _).mono ?_
          rintro e w9 ⟨rfl, hB9⟩
          have HB9 := hid (HB8.out.trans (hB9.mono HB8.out.size))
          have HR9 := hid (rel_fresh HR8.out hB9)
          unfold tval constT
          dsimp only
          go_wp2_with fail
          refine hK.out _ _ (fun _ => HSB.out _ HB9.out) ?_
          clear hK K hB9 HR8 HB8
          refine anyL_act (i := 8) (by kernel_rfl) rfl rfl ?_
          intro K hK
          go_wp2_with fail
          obtain ⟨wt, hwt⟩ : ∃ wt, wt = w9.alloc (.cells #[.int .i64 0, .int .i64 0, .int .i64 21, .int .i64 0, .int .i64 37, .slice none 0 0, .int .i64 up, .int .i64 4, .int .i64 4, .int .i64 0, .int .i64 0, .slice (some ⟨w6.heap.size, 0, none⟩) 1 1, .int .i64 lo, .int .i64 0, .int .i64 4, .int .i64 0, .int .i64 0, .slice (some ⟨w7.heap.size, 0, none⟩) 1 1] 69) := ⟨_, rfl⟩
          rw [← hwt]
          have hs9 := HB9.out.size
          have hPt : ∀ b, wp.heap.size ≤ b → b < wq.heap.size → wq.heap[b]? = some (.cells #[.int .i64 0, .int .i64 0, .int .i64 21, .int .i64 0] 72) → (listR partR).rel w9 (Fresh wp.heap.size w9) [.slice (some ⟨b, 0, none⟩) 1 1] [⟨0, 0, 21, 0⟩] := fun b h1 h2 h3 =>
            one_at (r := partR) (cells := #[.int .i64 0, .int .i64 0, .int .i64 21, .int .i64 0]) ((HB9.out.block _ h2).trans h3) ⟨h1, by omega⟩ ⟨rfl, okI (by simp), okI (by simp), okI (by simp), okI (by simp)⟩
          have hFt := FL.lits (e := 69) (r := termR) (w := w9) (b0 := wp.heap.size) (base := wp.heap.size) (css := [[.int .i64 0, .int .i64 0, .int .i64 21, .int .i64 0, .int .i64 37, .slice none 0 0], [.int .i64 up, .int .i64 4, .int .i64 4, .int .i64 0, .int .i64 0, .slice (some ⟨w6.heap.size, 0, none⟩) 1 1], [.int .i64 lo, .int .i64 0, .int .i64 4, .int .i64 0, .int .i64 0, .slice (some ⟨w7.heap.size, 0, none⟩) 1 1]]) (xs := [constT 37, hexT up 4, hexT lo 0])
            (cells := #[.int .i64 0, .int .i64 0, .int .i64 21, .int .i64 0, .int .i64 37, .slice none 0 0, .int .i64 up, .int .i64 4, .int .i64 4, .int .i64 0, .int .i64 0, .slice (some ⟨w6.heap.size, 0, none⟩) 1 1, .int .i64 lo, .int .i64 0, .int .i64 4, .int .i64 0, .int .i64 0, .slice (some ⟨w7.heap.size, 0, none⟩) 1 1])
            ⟨⟨_, rfl, ⟨(okI (by omega) : I64 0), (okI (by omega) : I64 0), (okI (by omega) : I64 21), (okI (by omega) : I64 0), (okI (by omega) : I64 37)⟩, list_nil _ _ _⟩, ⟨_, rfl, ⟨(okI (by omega) : I64 up), (okI (by omega) : I64 4), (okI (by omega) : I64 4), (okI (by omega) : I64 0), (okI (by omega) : I64 0)⟩, hPt _ hsw6 (by omega) HP1.out⟩, ⟨_, rfl, ⟨(okI (by omega) : I64 lo), (okI (by omega) : I64 0), (okI (by omega) : I64 4), (okI (by omega) : I64 0), (okI (by omega) : I64 0)⟩, hPt _ (by omega) (by omega) HP2.out⟩, trivial⟩ rfl (by omega) (by unfold maxLen; simp)
          have hBt : Below w9.heap.size w9 wt := by rw [hwt]; exact (Below.refl _ w9).alloc (Nat.le_refl _) _
          rw [← hwt] at hFt
          clear hwt hPt
          have HBt := hid (HB9.out.trans (hBt.mono hs9))
          have HRt := hid (rel_fresh HR9.out hBt)
          have HFt := hid (hFt.rel (Nat.le_refl _))
          refine hK.out _ _ (fun _ => HSB.out _ HBt.out) ?_
          clear hK K hFt hBt HR9 HB9
          refine anyL_act (i := 9) (by kernel_rfl) rfl rfl ?_
          intro K hK
          go_wp2_with fail
          refine (HON.out _ _ _ _ _ _ _).mono ?_
          rintro e w10 ⟨rfl, hG10, hs10, hB10⟩
          have hst := HBt.out.size
          have HB10 := hid (HBt.out.trans (hB10.mono hst))
          have HR10 := hid (one_at (r := spansR) (cells := #[_]) hG10 (show Fresh wp.heap.size w10 _ from ⟨by omega, by omega⟩) (rel_fresh HRt.out hB10))
          have HT10 := hid (rel_fresh (q := listR termR) HFt.out hB10)
          have HS10 := hid hs10
          clear hG10 hs10
          go_wp2_with fail
          refine hK.out _ _ (fun _ => HSB.out _ HB10.out) ?_
          clear hK K hB10 HRt HFt
          refine anyL_act (i := 10) (by kernel_rfl) rfl rfl ?_
          intro K hK
          go_wp2_with fail
          obtain ⟨wr', hwr⟩ : ∃ wr', wr' = w10.alloc (.cells #[.int .i64 0, .int .i64 0, .slice (some ⟨wt.heap.size + 1, 0, none⟩) 1 1, .int .i64 1, .slice (some ⟨w9.heap.size, 0, none⟩) 3 3] 46) := ⟨_, rfl⟩
          rw [← hwr]
          have hBr : Below w10.heap.size w10 wr' := by rw [hwr]; exact (Below.refl _ w10).alloc (Nat.le_refl _) _
          have hnr : ∀ (q : Nat) (u : Value), [.int .i64 0, .int .i64 0, .slice (some ⟨wt.heap.size + 1, 0, none⟩) 1 1, .int .i64 1, .slice (some ⟨w9.heap.size, 0, none⟩) 3 3][q]? = some u → wr'.cell? ((⟨w10.heap.size, 0, none⟩ : Addr).add q) = some u := by rw [hwr]; exact news_at (w := w10) (cs := #[_, _, _, _, _]) rfl
          clear hwr
          have HBr := hid (HB10.out.trans (hBr.mono HB10.out.size))
          have HRr := hid (rel_fresh (q := listR spansR) HR10.out hBr)
          have HTr := hid (rel_fresh (q := listR termR) HT10.out hBr)
          refine hK.out _ _ (fun _ => HSB.out _ HBr.out) ?_
          clear hK K hBr HR10 HT10
          refine anyL_act (i := 11) (by kernel_rfl) rfl rfl ?_
          intro K hK
          have hFr := HFX.out.later HBr.out
          have hsr := HBr.out.size
          refine act_append_fx (r := ruleR) (v := .slice Ar L.length cr) (xs := L) _ _ 24 (by rfl) inf _ 72 Tryz.underlying24 hi0 hz0 hz1 hz2 rfl (by decide) (by rfl) hFr (fun g hg => by have := HXl.out g hg; omega) (by have := HBw.out.size; omega) ⟨w10.heap.size, 0, none⟩ 1 (hexR up lo) [.int .i64 0, .int .i64 0, .slice (some ⟨wt.heap.size + 1, 0, none⟩) 1 1, .int .i64 1, .slice (some ⟨w9.heap.size, 0, none⟩) 3 3] (by rfl)
            ⟨_, _, rfl, ⟨(okI (by omega) : I64 0), (okI (by omega) : I64 0), (okI (by omega) : I64 1)⟩, rel_elx (q := listR spansR) HRr.out HXl.out (by have := HBw.out.size; omega), rel_elx (q := listR termR) HTr.out HXl.out (by have := HBw.out.size; omega)⟩ hnr (by simp [Value.oneCell']) (by unfold maxLen; omega) (by omega) ?_
          intro v' w11 hF11 hX11 hXl11 hB11 hk11
          have HVF := hid hF11
          obtain ⟨Aw, cw, rfl⟩ := hF11.len
          have hs11 := hB11.size
          have hbk : ∀ g, g < wq.heap.size → (Value.slice Ar L.length cr).ownBlock ≠ some g → w11.heap[g]? = wq.heap[g]? := fun g h1 h2 => (hk11 g (by omega) h2).trans (HBr.out.block g h1)
          have hD11 := (hbk D hDlq (fx_ne HFX.out hDq (by decide))).trans hDq
          have hZ11 := (hbk _ (by omega) (fx_ne HFX.out HZq.out (by decide))).trans HZq.out
          have hF11' := (hbk _ (by omega) (fx_ne HFX.out HFq.out (by decide))).trans HFq.out
          have hA11 := (hbk _ (by omega) (fx_ne HFX.out HAq.out (by decide))).trans HAq.out
          have hH11 := (hbk _ (heapLtM hHI) (fx_ne HFX.out hHI (by decide))).trans hHI
          have hL11 := (hbk _ (heapLtM hLO) (fx_ne HFX.out hLO (by decide))).trans hLO
          have hS11 : ∃ i, w11 = Wc i := WS.out w11 fun q hq => by
            rcases hq with rfl | rfl | rfl
            · exact hD11.trans hDq.symm
            · exact hH11.trans hHI.symm
            · exact hL11.trans hLO.symm
          refine hK.out _ _ (fun _ => hS11) ?_
          clear hK K
          go_simp
          refine anyL_seg 12 1 (by kernel_rfl) (fun _ _ _ _ _ h => h) hS11 (f := 1) rfl (by kernel_rfl) (by kernel_rfl) ?_
          simp only [List.drop_succ_cons, List.drop_zero, List.take_succ_cons, List.take_zero]
          repeat go_big_quiet_step (fail)
          refine wpQuiet_nil ?_
          obtain ⟨f0, f1, f2, f3, f4, f5⟩ := fro6 hD11
          obtain ⟨m0, m1, m2, m3, m4, m5⟩ := six9 hD11
          refine anyL_act (i := 13) (by kernel_rfl) rfl rfl ?_
          intro K hK
          go_wp2_with fail
          refine hK.out _ _ (fun h => absurd rfl h) ?_
          clear hK K
          refine anyL_done (by kernel_rfl) ?_ 0
          have HE : Hid (UrlI w A D (w11.setCell ⟨D, 4, none⟩ (.slice Aw (L ++ [hexR up lo]).length cw)) (2 * i + (j + 1))) := hid (by
            refine ⟨_, XNew X (.slice Aw (L ++ [hexR up lo]).length cw), heap_setCell_same w11 D 4 _ _ _ hD11, ?_, ?_, ?_, ?_, fun g hg => by simpa using hXl11 g hg, .inl HXD.out, ?_⟩
            · rw [heap_setCell_other _ _ _ _ (by simp only; omega)]; exact hZ11
            · rw [heap_setCell_other _ _ _ _ (by simp only; omega)]; exact hF11'
            · rw [heap_setCell_other _ _ _ _ (by simp only; omega)]; exact hA11
            · rw [hLn.out]
              refine hF11.keep (by simp) (fun _ h => h) (fun _ h _ => h) (fun g hg => heap_setCell_other _ _ _ _ ?_) (fun g _ _ hg => heap_setCell_other _ _ _ _ ?_)
              · intro he
                exact fx_ne hF11 hD11 (by decide) (by rw [hg]; first | exact congrArg some he | exact congrArg some he.symm)
              · intro he
                exact hg (by first | (rw [← he]; exact .inl HXD.out) | (rw [he]; exact .inl HXD.out))
            · exact ⟨((HBw.out.trans (HBr.out.mono HBw.out.size)).trans (hB11.mono (by omega))).setCell (p := ⟨D, 4, none⟩) (by simp only; omega) _, hZD, hDA⟩)
          clear hS11 hF11 hX11 hXl11 hB11 hk11 hbk hD11 hZ11 hF11' hA11 hH11 hL11 f0 f1 f2 f3 f4 f5 m0 m1 m2 m3 m4 m5 d0 d1 d2 d3 d4 d5 e0 e1 e2 e3 e4 e5 l0 l1 l2 l3 l4 l5 WS HWc Hi0 hne hS0 HSB i0 Wc ι
          rw [show (L ++ [hexR up lo]).length = L.length + 1 by simp] at HE
          go_wp2_with fail
          refine ⟨⟨j + 1, by omega, by push_cast; rfl, HE.out⟩, ?_⟩
          simp [intOf]
          omega
        · obtain rfl : j = 2 := by omega
          go_wp2_with fail
          refine ⟨⟨i + 1, by omega, by push_cast; rfl, by have := HV.out; rw [show 2 * (i + 1) = 2 * i + 2 by omega]; exact this⟩, ?_⟩
          simp [intOf]
          omega
    · obtain rfl : i = 2 := by omega
      obtain ⟨vr, X, hDh, hZh, hFh, hAh, hFX, hXl, hXD, hBw, hZD, hDA⟩ := HU.out
      obtain ⟨Ar, cr, rfl⟩ := hFX.len
      rw [show urlD.rules.take (2 * 2 + 1) = urlD.rules from rfl] at hFX hDh
      obtain ⟨z0, z1, z2, z3, z4, z5⟩ := six9 hZh
      obtain ⟨f0, f1, f2, f3, f4, f5⟩ := fro6 hZh
      obtain ⟨d0, d1, d2, d3, d4, d5⟩ := six9 hDh
      have hDl := heapLtM hDh
      have hZl := heapLtM hZh
      clear HU
      go_wp2_with fail
      obtain ⟨ws, hws⟩ : ∃ ws, ws = setS wo w.heap.size (.int .i64 1) (.int .i64 1) (.int .i64 1) (.int .i64 0) (.slice Ar urlD.rules.length cr) (.slice (some ⟨w.heap.size + 1, 0, none⟩) 1 1) := ⟨_, rfl⟩
      have hXs : ws.heap[w.heap.size]? = some (.cells #[.int .i64 1, .int .i64 1, .int .i64 1, .int .i64 0, .slice Ar urlD.rules.length cr, .slice (some ⟨w.heap.size + 1, 0, none⟩) 1 1] 27) := by rw [hws]; exact setS_heap hZh _ _ _ _ _ _
      have hBs : Below w.heap.size w ws := by rw [hws]; exact hBw.set6 (Nat.le_refl _) _ _ _ _ _ _
      have hss : ws.heap.size = wo.heap.size := by rw [hws]; exact setS_size ..
      have hoth : ∀ q, q ≠ w.heap.size → ws.heap[q]? = wo.heap[q]? := fun q hq => by rw [hws]; exact setS_other _ _ _ _ _ _ _ _ _ hq
      unfold setS at hws
      rw [← hws]
      clear hws z0 z1 z2 z3 z4 z5 f0 f1 f2 f3 f4 f5 d0 d1 d2 d3 d4 d5
      obtain ⟨y0, y1, y2, y3, y4, y5⟩ := six9 hXs
      have hFs := hFX.keep (w' := ws) (X' := X) (by omega) (fun _ h => h) (fun _ h _ => h) (fun g hg => hoth g (fun he => fx_ne hFX hZh (by decide) (by rw [hg, he]))) (fun g h1 _ _ => hoth g (by omega))
      have hff := one_final ((hoth (w.heap.size + 1) (by omega)).trans hFh) (S := Fresh w.heap.size ws) ⟨by omega, by omega⟩
      exact bodyPost_ret (v := .agg #[.int .i64 1, .int .i64 1, .int .i64 1, .int .i64 0, .slice Ar urlD.rules.length cr, .slice (some ⟨w.heap.size + 1, 0, none⟩) 1 1]) (by simp [results, Tryz.results34, go_sem, y0, y1, y2, y3, y4, y5]) rfl ⟨_, _, rfl, rel_low (q := listR ruleR) hFs.rel (by omega), hff, hBs⟩
end Go.Proofs.YthfcbbdghggefaaGreat
