/-
  Going through all places that come, from the last one on: run.back, for any closure that keeps an invariant.
-/
import Derived.Test.YtmkmikacfilbpaaGreatBeg
namespace Go.Proofs.YtmkmikacfilbpaaGreat
open Go.Proofs Go.Um Go.RowKit
theorem RunIs.later {w w' : World} {RB LV : Nat} {d : Desc} {x : List Int} {n : Nat} {ord : List Int} (h : RunIs w RB LV d x n ord) (hb : Below w.heap.size w w') : RunIs w' RB LV d x n ord := by
  obtain ⟨vr, vf, vx, R, F, vo, h1, h2, h3, h4, h5, h6, h7, h8⟩ := h
  exact ⟨vr, vf, vx, R, F, vo, (hb.block RB (heapLtW h1)).trans h1, RepOf.later _ h2 hb, RepOf.later _ h3 hb, RepOf.later _ h4 hb, RepOf.later _ h5 hb, RepOf.later _ h6 hb, RepOf.later _ h7 hb, h8.of_block (hb.block LV h8.lt)⟩
/-- what a closure that is told all places keeps. -/
structure Told (P : Program) (cf : Nat) (cap : Array Value) (w1 : World) (ord : List Int) (n len : Nat) (L : Nat → Bool) (I : Nat → Nat → World → Prop) : Prop where
  low : ∀ a q w, I a q w → Below w1.heap.size w1 w
  drew : ∀ a q w, I a q w → I a q w.drew
  tell : ∀ (a q s : Nat) (w : World), I a q w → a ≤ len → ord[q]? = some (s : Int) → s < n → L (a * n + s) = true → Calls P cf (#[.int .i64 a, .int .i64 s] ++ cap) w fun e w' => e = .returned (.tuple #[]) ∧ I a (q + 1) w'
  pass : ∀ (a q s : Nat) (w : World), I a q w → a ≤ len → ord[q]? = some (s : Int) → s < n → L (a * n + s) = false → I a (q + 1) w
  row : ∀ (a : Nat) (w : World), I (a + 1) ord.length w → I a 0 w
def preI (ord : List Int) (I : Nat → Nat → World → Prop) : Nat → World → Prop
  | 0, w => I 0 ord.length w
  | a + 1, w => I a 0 w
set_option maxHeartbeats 4000000 in
set_option maxRecDepth 100000 in
theorem back_calls (RB LV : Nat) (d : Desc) (x : List Int) (n : Nat) (ord : List Int) (cf : Nat) (v2 v3 v4 v5 v6 : Value) (w1 w : World) (hR : RunIs w1 RB LV d x n ord) (hn1 : n ≤ 1024) (hxl : x.length ≤ 1024) (hm : ∀ t ∈ ord, ∃ k : Nat, t = k ∧ k < n) (I : Nat → Nat → World → Prop)
    (hT : Told Tryz.prog cf #[v2, v3, v4, v5, v6] w1 ord n x.length (liveF d x n ord (x.length + 1)) I) (h0 : I x.length 0 w) (hcf : ∀ args w, (callFunc cf args).run Tryz.prog w = .ok (.enter cf args) w) :
    Calls Tryz.prog 49 #[.pointer (some ⟨RB, 0, none⟩), .func (.func cf) #[] #[v2, v3, v4, v5, v6]] w fun e w' => e = .returned (.tuple #[]) ∧ I 0 ord.length w' := by
  obtain ⟨vr, vf, vx, R, F, vo, h1, h2, h3, h4, h5, h6, h7, h8⟩ := hR
  obtain ⟨A3, c3, rfl, _, hm3⟩ := list_form h4
  obtain ⟨Ao, co, rfl, _, hmo⟩ := list_form h7
  unfold maxLen at hm3 hmo
  obtain ⟨M, hM⟩ : ∃ M, M = (x.length + 1) * n := ⟨_, rfl⟩
  rw [← hM] at h1 h8
  have hMl : M ≤ 2000000 := by rw [hM]; exact Nat.le_trans (Nat.mul_le_mul (show x.length + 1 ≤ 1025 by omega) hn1) (by decide)
  have HM := hid hM
  have H1 := hid h1
  have H7 := hid h7
  have H8 := hid h8
  have HT := hid hT
  have HMm := hid hm
  have hRl : RB < w1.heap.size := heapLtW h1
  have hLl : LV < w1.heap.size := h8.lt
  have KW : ∀ a q W, I a q W → ∀ g, g < w1.heap.size → W.heap[g]? = w1.heap[g]? := fun a q W hW g hg => (hT.low a q W hW).block g hg
  have HKW := hid KW
  have k6 : w.cell? ⟨RB, 6, none⟩ = some (.slice A3 x.length c3) := cell_of_row _ _ 6 _ _ _ ((KW _ _ _ h0 RB hRl).trans h1)
  have H0 := hid h0
  clear hM h1 h2 h3 h4 h5 h6 h7 h8 hT hm h0 KW
  go_enter Tryz.func49, Tryz.ntmps49
  go_wp2_with fail
  go_loopw [4] (fun va wr => ∃ a : Nat, a ≤ x.length + 1 ∧ va = .int .i64 ((a : Int) - 1) ∧ preI ord I a wr) (fun va _ => (intOf va + 1).toNat)
  case atStart => exact ⟨x.length + 1, Nat.le_refl _, by push_cast; congr 1; omega, H0.out⟩
  case round =>
    clear k6
    obtain ⟨a, ha, rfl, hI⟩ := hrel
    obtain ⟨wo, hwo⟩ : ∃ wo, wo = wr := ⟨_, rfl⟩
    subst hwo
    cases a with
    | zero =>
      have HI := hid hI
      clear hI
      go_wp2_with fail
      go_end0
      exact ⟨rfl, HI.out⟩
    | succ a =>
      have hI : I a 0 wo := hI
      have ea : (((a + 1 : Nat) : Int) - 1) = (a : Int) := by omega
      rw [ea]
      have ha0 : (0 : Int) ≤ a := by omega
      obtain ⟨JK, hJK⟩ : ∃ JK, JK = a * n := ⟨_, rfl⟩
      have hJKi : (a : Int) * (n : Int) = (JK : Int) := by rw [hJK]; push_cast; rfl
      have hidx : ∀ s, s < n → JK + s < M := fun s hs => by
        have q1 : (a + 1) * n ≤ (x.length + 1) * n := Nat.mul_le_mul_right _ (by omega)
        rw [HM.out, hJK]
        rw [Nat.add_mul] at q1
        omega
      have HIX := hid hidx
      have HJ := hid hJK
      have k9 : wo.cell? ⟨RB, 9, none⟩ = some (.slice Ao ord.length co) := cell_of_row _ _ 9 _ _ _ ((HKW.out _ _ _ hI RB hRl).trans H1.out)
      have HI := hid hI
      clear hidx hJK hI ea
      go_wp2_with fail
      go_loopw [21] (fun vq wr => ∃ q : Nat, q ≤ ord.length ∧ vq = .int .i64 q ∧ I a q wr) (fun vq _ => ord.length - (intOf vq).toNat)
      case atStart => exact ⟨0, Nat.zero_le _, rfl, HI.out⟩
      case round =>
        clear k9
        obtain ⟨q, hq, rfl, hI⟩ := hrel
        obtain ⟨wq, hwq⟩ : ∃ wq, wq = wr := ⟨_, rfl⟩
        subst hwq
        by_cases hlt : q < ord.length
        · have hlt' : (q : Int) < ord.length := by omega
          obtain ⟨z, hz⟩ := at_lt hlt
          obtain ⟨s, rfl, hsn⟩ := HMm.out z (List.mem_of_getElem? hz)
          have kW := HKW.out _ _ _ hI
          obtain ⟨b1, o1, y1, rfl, hb1, ⟨hy1, _⟩, hcy⟩ := list_at1 rfl ((listR intR).mono (w' := wq) (S' := upto w1.heap.size) (fun p hp => World.cell?_of_block (kW _ hp)) (fun _ h => h) H7.out) hz
          injection hy1 with hy1 _
          subst hy1
          have hix := HIX.out s hsn
          have hix' : (JK : Int) + s < M := by omega
          obtain ⟨lv, hlv⟩ : ∃ lv, lv = liveF d x n ord (x.length + 1) (JK + s) := ⟨_, rfl⟩
          have e1 : wq.cell? ⟨RB, 10, none⟩ = some (.slice (some ⟨LV, 0, none⟩) M M) := cell_of_row _ _ 10 _ _ _ ((kW RB hRl).trans H1.out)
          have e2 : wq.cell? ⟨RB, 2, none⟩ = some (.int .i64 n) := cell_of_row _ _ 2 _ _ _ ((kW RB hRl).trans H1.out)
          have e3 : wq.cell? ⟨LV, JK + s, none⟩ = some (.bool lv) := by rw [hlv]; exact (H8.out.of_block (kW LV hLl)).cell hix
          have HI := hid hI
          have HZ := hid hz
          have HL := hid hlv
          clear hI hz hlv kW hlt
          go_wp2_with fail
          obtain ⟨ι, Wc, ⟨i0, hi0'⟩, hWc, Wsur⟩ := held_class wq.drew (fun q => q = RB ∨ q = LV)
          have hne : Nonempty ι := ⟨i0⟩
          have WS := hid Wsur; clear Wsur
          have HWc := hid hWc; clear hWc
          have Hi0 := hid hi0'; clear hi0'
          have g0 : ∀ i, (Wc i).cell? ⟨RB, 10, none⟩ = some (.slice (some ⟨LV, 0, none⟩) M M) := fun i => (World.cell?_of_block (a := ⟨RB, 10, none⟩) (HWc.out i _ (.inl rfl))).trans e1
          have g1 : ∀ i, (Wc i).cell? ⟨RB, 2, none⟩ = some (.int .i64 n) := fun i => (World.cell?_of_block (a := ⟨RB, 2, none⟩) (HWc.out i _ (.inl rfl))).trans e2
          have g2 : ∀ i, (Wc i).cell? ⟨LV, JK + s, none⟩ = some (.bool lv) := fun i => (World.cell?_of_block (a := ⟨LV, JK + s, none⟩) (HWc.out i _ (.inr rfl))).trans e3
          refine region_anyL (S := fun w' => ∃ i, w' = Wc i) (last := 15) (by kernel_rfl) ?_
          refine anyL_seg 0 15 (by kernel_rfl) (fun _ _ _ _ _ h => h) ⟨i0, Hi0.out.symm⟩ (f := 0) rfl (by kernel_rfl) (by kernel_rfl) ?_
          simp only [List.drop_zero, List.take_succ_cons, List.take_zero]
          repeat go_big_quiet_step (fail)
          refine wpQuiet_nil ?_
          refine anyL_done (by kernel_rfl) ?_ 0
          clear g0 g1 g2 WS HWc Hi0 hne i0 Wc ι e1 e2 e3
          cases lv with
          | true =>
            have hTell := hid (HT.out.tell a q s wq.drew (HT.out.drew _ _ _ HI.out) (by omega) HZ.out hsn (by rw [← HJ.out, ← HL.out]))
            go_wp2_with fail
            refine hTell.out.mono ?_
            rintro e w5 ⟨rfl, hI5⟩
            have HI5 := hid hI5
            clear hI5 hcy
            go_wp2_with fail
            refine ⟨⟨q + 1, by omega, by go_num, HI5.out⟩, ?_⟩
            simp [intOf]; omega
          | false =>
            have HI5 := hid (HT.out.drew _ _ _ (HT.out.pass a q s wq HI.out (by omega) HZ.out hsn (by rw [← HJ.out, ← HL.out])))
            clear hcy
            go_wp2_with fail
            refine ⟨⟨q + 1, by omega, by go_num, HI5.out⟩, ?_⟩
            simp [intOf]; omega
        · obtain rfl : q = ord.length := by omega
          have hlt' : ¬ ((ord.length : Int) < ord.length) := by omega
          have HP : Hid (preI ord I a wq) := hid (by
            cases a with
            | zero => exact hI
            | succ a => exact HT.out.row a wq hI)
          clear hI hlt
          go_wp2_with fail
          refine ⟨⟨a, by omega, rfl, HP.out⟩, ?_⟩
          simp [intOf]
end Go.Proofs.YtmkmikacfilbpaaGreat
