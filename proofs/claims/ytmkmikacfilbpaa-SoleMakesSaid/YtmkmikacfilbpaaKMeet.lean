/-
  
-/
import Derived.Test.YtmkmikacfilbpaaKSole
namespace Go.Proofs.Ytmkmikacfilbpaa
open Go.RowKit Go.Um

/-- sole's meet. -/
def meetG : List (List Span) → List (List Span) → Bool
  | x :: a, y :: b => !(meetF x y).isEmpty && meetG a b
  | _, _ => true
theorem meetG_end (a b : List (List Span)) (h : a = [] ∨ b = []) : meetG a b = true := by
  rcases h with rfl | rfl
  · simp [meetG]
  · cases a <;> simp [meetG]

set_option maxHeartbeats 1000000 in
set_option maxRecDepth 100000 in
theorem smeet_calls (a b : List (List Span)) (v u : Value) (w : World) (ha : (listR spansR).rel w (upto w.heap.size) [v] a) (hb : (listR spansR).rel w (upto w.heap.size) [u] b)
    (hla : ∀ g ∈ a, g.length ≤ 1073741824) (hlb : ∀ g ∈ b, g.length ≤ 1073741824) :
    Calls Try.prog 38 #[v, u] w fun e w' => e = .returned (.bool (meetG a b)) ∧ Below w.heap.size w w' := by
  obtain ⟨A1, c1, rfl, hc1, hm1⟩ := list_form ha
  obtain ⟨A2, c2, rfl, hc2, hm2⟩ := list_form hb
  unfold maxLen at hm1 hm2
  obtain ⟨m, hm⟩ : ∃ m : Nat, m = min a.length b.length := ⟨_, rfl⟩
  have e1 : min (a.length : Int) (b.length : Int) = m := by omega
  have e2 : (if (b.length : Int) < a.length then (b.length : Int) else a.length) = m := by omega
  have e3 : (if (a.length : Int) < b.length then (a.length : Int) else b.length) = m := by omega
  have hma : m ≤ a.length := by omega
  have hmb : m ≤ b.length := by omega
  have Hm := hid hm; clear hm
  go_enter Try.func38, Try.ntmps38
  go_wp2_with fail
  clear e1 e2 e3
  go_loopw [11] (fun vi wr => ∃ k : Nat, k ≤ m ∧ vi = .int .i64 k ∧ meetG (a.drop k) (b.drop k) = meetG a b ∧ Below w.heap.size w wr) (fun vi _ => m - (intOf vi).toNat)
  case atStart => exact ⟨0, Nat.zero_le _, rfl, rfl, Below.refl _ _⟩
  case round =>
    obtain ⟨k, hk, rfl, hp, hB⟩ := hrel
    have HP := hid hp; clear hp
    have har := (listR spansR).mono (below_cells hB) (fun _ h => h) ha
    have hbr := (listR spansR).mono (below_cells hB) (fun _ h => h) hb
    by_cases hlt : k < m
    · obtain ⟨x, hx⟩ := at_lt (xs := a) (i := k) (by omega)
      obtain ⟨y, hy⟩ := at_lt (xs := b) (i := k) (by omega)
      obtain ⟨b1, o1, y1, rfl, hb1, hy1, h1⟩ := list_at1 rfl har hx
      obtain ⟨b2, o2, y2, rfl, hb2, hy2, h2⟩ := list_at1 rfl hbr hy
      have hlt' : (k : Int) < m := by omega
      have hka : (k : Int) < a.length := by omega
      have hkb : (k : Int) < b.length := by omega
      have HP2 : Hid ((!(meetF x y).isEmpty && meetG (a.drop (k + 1)) (b.drop (k + 1))) = meetG a b) := hid (by have := HP.out; rw [drop_cons hx, drop_cons hy] at this; exact this)
      have hxl := hla x (List.mem_of_getElem? hx)
      have hyl := hlb y (List.mem_of_getElem? hy)
      have hyw1 : spansR.rel wr.drew (upto wr.drew.heap.size) [y1] x := spansR.mono (fun _ _ => rfl) (fun b hb => Nat.lt_of_lt_of_le hb hB.size) hy1
      have hyw2 : spansR.rel wr.drew (upto wr.drew.heap.size) [y2] y := spansR.mono (fun _ _ => rfl) (fun b hb => Nat.lt_of_lt_of_le hb hB.size) hy2
      have hc := hid (Meets_calls x y y1 y2 wr.drew hyw1 hyw2 hxl hyl)
      have lb1 : b1 < wr.heap.size := Nat.lt_of_lt_of_le hb1 hB.size
      have lb2 : b2 < wr.heap.size := Nat.lt_of_lt_of_le hb2 hB.size
      clear hyw1 hyw2 hy1 hy2 hx hy har hbr HP
      go_wp2_with fail
      obtain ⟨ι, W, ⟨i0, hi0⟩, hW, Wsur⟩ := ext_class wr.drew
      have hne : Nonempty ι := ⟨i0⟩
      have g1 : ∀ i, (W i).cell? ⟨b1, o1 + k, none⟩ = some y1 := fun i => ((hW i).cell lb1).trans h1
      have g2 : ∀ i, (W i).cell? ⟨b2, o2 + k, none⟩ = some y2 := fun i => ((hW i).cell lb2).trans h2
      have WS := hid Wsur; clear Wsur
      have HW := hid hW; clear hW
      have Hi0 := hid hi0; clear hi0
      refine region_anyL (S := fun w' => ∃ i, w' = W i) (last := 10) (by kernel_rfl) ?_
      refine anyL_seg 0 8 (by kernel_rfl) (fun _ _ _ _ _ h => h) ⟨i0, Hi0.out.symm⟩ (f := 2) rfl (by kernel_rfl) (by kernel_rfl) ?_
      simp only [List.drop_zero, List.take_succ_cons, List.take_zero]
      repeat go_big_quiet_step (fail)
      refine wpQuiet_nil ?_
      refine anyL_act (i := 8) (by kernel_rfl) rfl rfl ?_
      intro K hK
      go_wp2_with fail
      refine hc.out.mono ?_
      rintro e w3 ⟨rfl, hB3⟩
      go_wp2_with fail
      have hS3 := WS.out i0 w3 (by rw [Hi0.out]; exact hB3)
      refine hK.out _ _ (fun _ => hS3) ?_
      clear hK K
      have hBB : Below w.heap.size w w3 := hB.trans (RowKit.Below.mono (w := wr) ⟨hB3.os, hB3.tape, hB3.output, hB3.size, hB3.block⟩ hB.size)
      refine anyL_act (i := 9) (by kernel_rfl) rfl rfl ?_
      intro K hK
      go_wp2_with fail
      refine hK.out _ _ (fun _ => hS3) ?_
      clear hK K
      refine anyL_done (by kernel_rfl) ?_ _
      clear hS3 g1 g2 WS HW Hi0 hne i0 W ι
      cases hmf : (meetF x y).isEmpty with
      | true =>
        have hF : Hid (false = meetG a b) := hid (by have := HP2.out; rw [hmf] at this; exact this)
        clear hmf
        go_wp2_with fail
        go_ret
        exact ⟨by rw [← hF.out]; rfl, hBB⟩
      | false =>
        have hF : Hid (meetG (a.drop (k + 1)) (b.drop (k + 1)) = meetG a b) := hid (by have := HP2.out; rw [hmf] at this; exact this)
        clear hmf
        go_wp2_with fail
        refine ⟨⟨k + 1, by omega, by go_num, hF.out, hBB⟩, ?_⟩
        simp [intOf]; omega
    · have hke : k = m := by omega
      subst hke
      have hF : Hid (true = meetG a b) := hid (by have := HP.out; rw [meetG_end _ _ (by have := Hm.out; simp; omega)] at this; exact this)
      clear HP har hbr
      go_wp2_with fail
      go_ret
      exact ⟨by rw [← hF.out]; rfl, hB⟩

structure Opt where
  src : Int
  guards : List (List Span)
  fin : Bool
def clashF (a b : Opt) : Bool := if a.src ≠ b.src then false else if a.fin = true ∧ a.guards.length ≠ b.guards.length then false else if a.fin = false ∧ b.fin = true ∧ b.guards.length < a.guards.length then false else meetG a.guards b.guards

set_option maxHeartbeats 1000000 in
theorem clash_calls (a b : Opt) (v u : Value) (w : World) (ha : (listR spansR).rel w (upto w.heap.size) [v] a.guards) (hb : (listR spansR).rel w (upto w.heap.size) [u] b.guards)
    (hla : ∀ g ∈ a.guards, g.length ≤ 1073741824) (hlb : ∀ g ∈ b.guards, g.length ≤ 1073741824) :
    Calls Try.prog 26 #[.agg #[.int .i64 a.src, v, .bool a.fin], .agg #[.int .i64 b.src, u, .bool b.fin]] w fun e w' => e = .returned (.bool (clashF a b)) ∧ Below w.heap.size w w' := by
  obtain ⟨A1, c1, rfl, hc1, hm1⟩ := list_form ha
  obtain ⟨A2, c2, rfl, hc2, hm2⟩ := list_form hb
  unfold maxLen at hm1 hm2
  have HM : Hid (∀ W, Below w.heap.size w W → Calls Try.prog 38 #[.slice A1 a.guards.length c1, .slice A2 b.guards.length c2] W fun e w' => e = .returned (.bool (meetG a.guards b.guards)) ∧ Below W.heap.size W w') :=
    hid fun W hW => smeet_calls _ _ _ _ W ((listR spansR).below ha hW hW.size) ((listR spansR).below hb hW hW.size) hla hlb
  clear ha hb hla hlb
  obtain ⟨s1, G1, f1⟩ := a
  obtain ⟨s2, G2, f2⟩ := b
  simp only at *
  have hB : ∀ o1 o2, Below w.heap.size w ((w.alloc o1).alloc o2) := fun o1 o2 => ((Below.refl _ _).alloc (Nat.le_refl _) _).alloc (by simp) _
  by_cases hs : s1 = s2
  · subst hs
    cases f1 with
    | true =>
      by_cases hl : G1.length = G2.length
      · have hl1 : ((G1.length : Int) == G2.length) = true := by simp; exact_mod_cast hl
        have hl2 : ((G1.length : Int) != G2.length) = false := by simp; exact_mod_cast hl
        have HL := hid hl; clear hl
        cases f2 with
        | true =>
          have hF : Hid (meetG G1 G2 = clashF ⟨s1, G1, true⟩ ⟨s1, G2, true⟩) := hid (by simp [clashF, HL.out])
          go_enter Try.func26, Try.ntmps26
          go_wp2_with fail
          refine (HM.out _ (hB _ _)).mono ?_
          rintro e w1 ⟨rfl, hB1⟩
          go_wp2_with fail
          go_ret
          exact ⟨by rw [← hF.out]; rfl, (hB _ _).trans (hB1.mono (hB _ _).size)⟩
        | false =>
          have hF : Hid (meetG G1 G2 = clashF ⟨s1, G1, true⟩ ⟨s1, G2, false⟩) := hid (by simp [clashF, HL.out])
          go_enter Try.func26, Try.ntmps26
          go_wp2_with fail
          refine (HM.out _ (hB _ _)).mono ?_
          rintro e w1 ⟨rfl, hB1⟩
          go_wp2_with fail
          go_ret
          exact ⟨by rw [← hF.out]; rfl, (hB _ _).trans (hB1.mono (hB _ _).size)⟩
      · have hl1 : ((G1.length : Int) == G2.length) = false := by simp; exact_mod_cast hl
        have hl2 : ((G1.length : Int) != G2.length) = true := by simp; exact_mod_cast hl
        have HL := hid hl; clear hl
        cases f2 with
        | true =>
          have hF : Hid (false = clashF ⟨s1, G1, true⟩ ⟨s1, G2, true⟩) := hid (by simp [clashF, HL.out])
          go_enter Try.func26, Try.ntmps26
          go_wp2_with fail
          go_ret
          exact ⟨by rw [← hF.out]; rfl, hB _ _⟩
        | false =>
          have hF : Hid (false = clashF ⟨s1, G1, true⟩ ⟨s1, G2, false⟩) := hid (by simp [clashF, HL.out])
          go_enter Try.func26, Try.ntmps26
          go_wp2_with fail
          go_ret
          exact ⟨by rw [← hF.out]; rfl, hB _ _⟩
    | false =>
      cases f2 with
      | true =>
        by_cases hl : G2.length < G1.length
        · have hl1 : (G2.length : Int) < G1.length := by omega
          have hF : Hid (false = clashF ⟨s1, G1, false⟩ ⟨s1, G2, true⟩) := hid (by simp [clashF, hl])
          go_enter Try.func26, Try.ntmps26
          go_wp2_with fail
          go_ret
          exact ⟨by rw [← hF.out]; rfl, hB _ _⟩
        · have hl1 : ¬ (G2.length : Int) < G1.length := by omega
          have hF : Hid (meetG G1 G2 = clashF ⟨s1, G1, false⟩ ⟨s1, G2, true⟩) := hid (by simp [clashF, hl])
          go_enter Try.func26, Try.ntmps26
          go_wp2_with fail
          refine (HM.out _ (hB _ _)).mono ?_
          rintro e w1 ⟨rfl, hB1⟩
          go_wp2_with fail
          go_ret
          exact ⟨by rw [← hF.out]; rfl, (hB _ _).trans (hB1.mono (hB _ _).size)⟩
      | false =>
        have hF : Hid (meetG G1 G2 = clashF ⟨s1, G1, false⟩ ⟨s1, G2, false⟩) := hid (by simp [clashF])
        go_enter Try.func26, Try.ntmps26
        go_wp2_with fail
        refine (HM.out _ (hB _ _)).mono ?_
        rintro e w1 ⟨rfl, hB1⟩
        go_wp2_with fail
        go_ret
        exact ⟨by rw [← hF.out]; rfl, (hB _ _).trans (hB1.mono (hB _ _).size)⟩
  · have h1 : (s1 == s2) = false := by simpa using hs
    have h2 : (s1 != s2) = true := by simpa using hs
    have HS := hid hs; clear hs
    cases f1 <;> cases f2
    · have hF : Hid (false = clashF ⟨s1, G1, false⟩ ⟨s2, G2, false⟩) := hid (by simp [clashF, HS.out])
      go_enter Try.func26, Try.ntmps26
      go_wp2_with fail
      go_ret
      exact ⟨by rw [← hF.out]; rfl, hB _ _⟩
    · have hF : Hid (false = clashF ⟨s1, G1, false⟩ ⟨s2, G2, true⟩) := hid (by simp [clashF, HS.out])
      go_enter Try.func26, Try.ntmps26
      go_wp2_with fail
      go_ret
      exact ⟨by rw [← hF.out]; rfl, hB _ _⟩
    · have hF : Hid (false = clashF ⟨s1, G1, true⟩ ⟨s2, G2, false⟩) := hid (by simp [clashF, HS.out])
      go_enter Try.func26, Try.ntmps26
      go_wp2_with fail
      go_ret
      exact ⟨by rw [← hF.out]; rfl, hB _ _⟩
    · have hF : Hid (false = clashF ⟨s1, G1, true⟩ ⟨s2, G2, true⟩) := hid (by simp [clashF, HS.out])
      go_enter Try.func26, Try.ntmps26
      go_wp2_with fail
      go_ret
      exact ⟨by rw [← hF.out]; rfl, hB _ _⟩
end Go.Proofs.Ytmkmikacfilbpaa
