/-
  The law EscapeHarmless: its walk.
-/
import Derived.Test.YthfcbbdghggefaaGreatQEsK
import Derived.Test.YthfcbbdghggefaaGreatQEhP
namespace Go.Proofs.YthfcbbdghggefaaGreat
open Go.RowKit Go.Um Go.Proofs
set_option maxHeartbeats 1000000 in
set_option maxRecDepth 100000 in
theorem begins_calls (s h : ByteArray) (w : World) : Calls Tryz.prog 27 #[.string s, .string h] w fun e w' => e = .returned (.bool (begB s h)) ∧ w' = w := by
  obtain ⟨b, hb⟩ : ∃ b, b = begB s h := ⟨_, rfl⟩
  rw [← hb]
  unfold begB at hb
  by_cases hle : h.size ≤ s.size
  · rw [decide_eq_true hle, Bool.true_and] at hb
    have hle' : (h.size : Int) ≤ s.size := by omega
    have HB := hid hb
    clear hb
    go_enter Tryz.func27, Tryz.ntmps27
    go_wp2_with fail
    go_ret
    exact ⟨by rw [HB.out]; rfl, rfl⟩
  · rw [decide_eq_false hle, Bool.false_and] at hb
    have hle' : ¬ (h.size : Int) ≤ s.size := by omega
    have HB := hid hb
    clear hb
    go_enter Tryz.func27, Tryz.ntmps27
    go_wp2_with fail
    go_ret
    exact ⟨by rw [HB.out]; rfl, rfl⟩
theorem conv_any {w : World} {S : Nat → Prop} {A : Option Addr} {n c : Nat} {x : List Int} (h : wordR.rel w S [.slice A n c] x) (hn : n = x.length) : (convert 37 9 (.slice A n c)).run Tryz.prog w = .ok (.string (runesBytes x)) w := by
  cases x with
  | cons z l => exact conv_word h hn
  | nil =>
    subst hn
    cases A with
    | none => exact run_convert_runes_nil (P := Tryz.prog) w 37 9 21 _ _ Tryz.underlying37 Tryz.underlying21 Tryz.underlying9
    | some a => exact run_convert_runes (P := Tryz.prog) w 37 9 21 a 0 c [] (Nat.le_refl _) Tryz.underlying37 Tryz.underlying21 Tryz.underlying9 (fun j hj => absurd hj (Nat.not_lt_zero _))
set_option maxHeartbeats 2000000 in
set_option maxRecDepth 100000 in
theorem harmless_law (x : List Int) (v : Value) (w : World) (h : wordR.rel w (upto w.heap.size) [v] x) :
    Calls Tryz.prog 5 #[v] w fun e w' => e = .returned (.bool true) ∧ Below w.heap.size w w' := by
  have HAW := hid fun W => eawake_calls W
  by_cases hl : x.length ≤ 200
  · have HFT := hid (r2fits_calls x v w h)
    have HRE := hid fun W => html_post W
    have HW0 := hid h
    obtain ⟨A, c, rfl, hc, hm⟩ := list_form h
    unfold maxLen at hm
    have hl' : ¬ (200 : Int) < x.length := by omega
    clear h
    by_cases hs : ∀ z ∈ x, scalP z
    · rw [decide_eq_true hs] at HFT
      have HS := hid hs
      clear hs
      go_enter Tryz.func5, Tryz.ntmps5
      go_wp2_with fail
      refine HFT.out.mono ?_
      rintro e w1 ⟨rfl, hw1⟩
      rw [hw1]
      clear hw1 w1
      go_wp2_with fail
      refine (HRE.out _).mono ?_
      rintro e w2 ⟨v2, u2, rfl, hv2, hu2, hB2⟩
      have HV2 := hid (rel_up hv2)
      have HU2 := hid (rel_up hu2)
      have HBw3 := hid hB2
      have HW3 := hid (wordR.below HW0.out hB2 hB2.size)
      clear hv2 hu2 hB2
      go_wp2_with fail
      refine (html_out HS.out (by omega) 2 ⟨by omega, by omega⟩ _ _ _ _ HV2.out HU2.out HW3.out).mono ?_
      rintro e w4 ⟨hB4, A4, c4, rfl, hr⟩
      obtain ⟨G, O, y, rfl, hG, hy4, hcy⟩ := list_at1 (i := 0) (x := htmlF x) rfl hr rfl
      obtain ⟨A5, c5, rfl, hc5, hm5⟩ := list_form hy4.1
      have HBw4 := hid (low' HBw3.out hB4)
      have hGl : G < w4.heap.size := hG.2
      have cv := conv_any hy4.1 rfl
      obtain ⟨S, hS⟩ : ∃ S, S = runesBytes (htmlF x) := ⟨_, rfl⟩
      have hSz : S.size ≤ 4800 := by rw [hS]; have := runesBytes_size_le (htmlF x); have := htmlF_len x; omega
      have HT := hid fun i hi z hz => harm_text HS.out hS (i := i) hi (z := z) hz
      rw [← hS] at cv
      clear hS hB4 hr hy4
      simp only [List.length_cons, List.length_nil, Nat.zero_add, Nat.add_zero] at hcy ⊢
      obtain ⟨L, hL⟩ : ∃ L, L = htmlF x := ⟨_, rfl⟩
      have hLl : L.length ≤ 1200 := by rw [hL]; have := htmlF_len x; omega
      rw [← hL] at hcy cv
      clear hL
      go_wp2_with fail
      go_loopw [6] (fun vi wr => ∃ k : Nat, k ≤ S.size ∧ vi = .int .i64 k ∧ wr = w4) (fun vi _ => S.size - (intOf vi).toNat)
      case atStart => exact ⟨0, Nat.zero_le _, rfl, rfl⟩
      case round =>
        obtain ⟨k, hk, rfl, rfl⟩ := hrel
        by_cases hlt : k < S.size
        · have hlt' : (k : Int) < S.size := by omega
          obtain ⟨z, hz⟩ : ∃ z : Int, z = ((S[k]'hlt).toNat : Int) := ⟨_, rfl⟩
          obtain ⟨n1, n2, n3, n4, hb⟩ := HT.out k hlt z hz
          have hcx := hz.symm
          clear hz
          have e1 := beq_f n1
          have e2 := beq_f n2
          have e3 := beq_f n3
          have e4 := beq_f n4
          by_cases h8 : z = 38
          · have hb := hb h8
            have e5 := beq_t h8
            clear h8
            by_cases b1 : begB (S.extract k S.size) ⟨#[38, 97, 109, 112, 59]⟩ = true
            · have HB1 := hid (begins_calls (S.extract k S.size) ⟨#[38, 97, 109, 112, 59]⟩ wr)
              rw [b1] at HB1
              clear b1 hb
              go_wp2_with fail
              refine HB1.out.mono ?_
              rintro e w5 ⟨rfl, rfl⟩
              go_wp2_with fail
              exact ⟨⟨k + 1, hlt, by push_cast; rfl, trivial⟩, by simp [intOf]; omega⟩
            have B1 := hid (Bool.eq_false_iff.2 b1)
            have HB1 := hid (begins_calls (S.extract k S.size) ⟨#[38, 97, 109, 112, 59]⟩ wr)
            rw [B1.out] at HB1
            clear b1
            by_cases b2 : begB (S.extract k S.size) ⟨#[38, 108, 116, 59]⟩ = true
            · have HB2 := hid (begins_calls (S.extract k S.size) ⟨#[38, 108, 116, 59]⟩ wr)
              rw [b2] at HB2
              clear b2 hb
              go_wp2_with fail
              refine HB1.out.mono ?_
              rintro e w5 ⟨rfl, rfl⟩
              go_wp2_with fail
              refine HB2.out.mono ?_
              rintro e w5 ⟨rfl, rfl⟩
              go_wp2_with fail
              exact ⟨⟨k + 1, hlt, by push_cast; rfl, trivial⟩, by simp [intOf]; omega⟩
            have B2 := hid (Bool.eq_false_iff.2 b2)
            have HB2 := hid (begins_calls (S.extract k S.size) ⟨#[38, 108, 116, 59]⟩ wr)
            rw [B2.out] at HB2
            clear b2
            by_cases b3 : begB (S.extract k S.size) ⟨#[38, 103, 116, 59]⟩ = true
            · have HB3 := hid (begins_calls (S.extract k S.size) ⟨#[38, 103, 116, 59]⟩ wr)
              rw [b3] at HB3
              clear b3 hb
              go_wp2_with fail
              refine HB1.out.mono ?_
              rintro e w5 ⟨rfl, rfl⟩
              go_wp2_with fail
              refine HB2.out.mono ?_
              rintro e w5 ⟨rfl, rfl⟩
              go_wp2_with fail
              refine HB3.out.mono ?_
              rintro e w5 ⟨rfl, rfl⟩
              go_wp2_with fail
              exact ⟨⟨k + 1, hlt, by push_cast; rfl, trivial⟩, by simp [intOf]; omega⟩
            have B3 := hid (Bool.eq_false_iff.2 b3)
            have HB3 := hid (begins_calls (S.extract k S.size) ⟨#[38, 103, 116, 59]⟩ wr)
            rw [B3.out] at HB3
            clear b3
            by_cases b4 : begB (S.extract k S.size) ⟨#[38, 113, 117, 111, 116, 59]⟩ = true
            · have HB4 := hid (begins_calls (S.extract k S.size) ⟨#[38, 113, 117, 111, 116, 59]⟩ wr)
              rw [b4] at HB4
              clear b4 hb
              go_wp2_with fail
              refine HB1.out.mono ?_
              rintro e w5 ⟨rfl, rfl⟩
              go_wp2_with fail
              refine HB2.out.mono ?_
              rintro e w5 ⟨rfl, rfl⟩
              go_wp2_with fail
              refine HB3.out.mono ?_
              rintro e w5 ⟨rfl, rfl⟩
              go_wp2_with fail
              refine HB4.out.mono ?_
              rintro e w5 ⟨rfl, rfl⟩
              go_wp2_with fail
              exact ⟨⟨k + 1, hlt, by push_cast; rfl, trivial⟩, by simp [intOf]; omega⟩
            have B4 := hid (Bool.eq_false_iff.2 b4)
            have HB4 := hid (begins_calls (S.extract k S.size) ⟨#[38, 113, 117, 111, 116, 59]⟩ wr)
            rw [B4.out] at HB4
            clear b4
            by_cases b5 : begB (S.extract k S.size) ⟨#[38, 35, 51, 57, 59]⟩ = true
            · have HB5 := hid (begins_calls (S.extract k S.size) ⟨#[38, 35, 51, 57, 59]⟩ wr)
              rw [b5] at HB5
              clear b5 hb
              go_wp2_with fail
              refine HB1.out.mono ?_
              rintro e w5 ⟨rfl, rfl⟩
              go_wp2_with fail
              refine HB2.out.mono ?_
              rintro e w5 ⟨rfl, rfl⟩
              go_wp2_with fail
              refine HB3.out.mono ?_
              rintro e w5 ⟨rfl, rfl⟩
              go_wp2_with fail
              refine HB4.out.mono ?_
              rintro e w5 ⟨rfl, rfl⟩
              go_wp2_with fail
              refine HB5.out.mono ?_
              rintro e w5 ⟨rfl, rfl⟩
              go_wp2_with fail
              exact ⟨⟨k + 1, hlt, by push_cast; rfl, trivial⟩, by simp [intOf]; omega⟩
            have B5 := hid (Bool.eq_false_iff.2 b5)
            have HB5 := hid (begins_calls (S.extract k S.size) ⟨#[38, 35, 51, 57, 59]⟩ wr)
            rw [B5.out] at HB5
            clear b5
            exact absurd hb (by rw [B1.out, B2.out, B3.out, B4.out, B5.out]; simp)
          · have e5 := beq_f h8
            clear hb
            go_wp2_with fail
            exact ⟨⟨k + 1, hlt, by push_cast; rfl, trivial⟩, by simp [intOf]; omega⟩
        · have hke : k = S.size := by omega
          subst hke
          have hlt' : ¬ (S.size : Int) < S.size := by omega
          clear hlt
          go_wp2_with fail
          refine (HAW.out _).mono ?_
          rintro e w5 ⟨rfl, hB5⟩
          have HBw5 := hid (low' HBw4.out hB5)
          clear hB5
          go_wp2_with fail
          go_ret
          exact ⟨rfl, HBw5.out⟩
    · rw [decide_eq_false hs] at HFT
      clear hs
      go_enter Tryz.func5, Tryz.ntmps5
      go_wp2_with fail
      refine HFT.out.mono ?_
      rintro e w1 ⟨rfl, hw1⟩
      rw [hw1]
      clear hw1 w1
      go_wp2_with fail
      refine (HAW.out _).mono ?_
      rintro e w5 ⟨rfl, hB5⟩
      have HBw5 := hid hB5
      clear hB5
      go_wp2_with fail
      go_ret
      exact ⟨rfl, HBw5.out⟩
  · obtain ⟨A, c, rfl, hc, hm⟩ := list_form h
    have hl' : (200 : Int) < x.length := by omega
    clear h
    go_enter Tryz.func5, Tryz.ntmps5
    go_wp2_with fail
    refine (HAW.out _).mono ?_
    rintro e w1 ⟨rfl, hB1⟩
    have HB1 := hid hB1
    clear hB1
    go_wp2_with fail
    go_ret
    exact ⟨rfl, HB1.out⟩
end Go.Proofs.YthfcbbdghggefaaGreat
