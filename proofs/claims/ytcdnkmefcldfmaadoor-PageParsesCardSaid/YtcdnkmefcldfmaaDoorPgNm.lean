/-
  The reader's num: a numeral, or a fault.
-/
import Derived.Test.YtcdnkmefcldfmaaDoorPgRd
namespace Go.Proofs.YtcdnkmefcldfmaaDoor
open Go.RowKit Go.Um

theorem takeWhile_at (l : By) : (∀ i c, i < (l.takeWhile dig).length → l[i]? = some c → dig c = true) ∧ (∀ c, l[(l.takeWhile dig).length]? = some c → dig c = false) ∧ (l.takeWhile dig).length ≤ l.length := by
  induction l with
  | nil => simp
  | cons x xs ih =>
    by_cases hx : dig x = true
    · rw [List.takeWhile_cons_of_pos hx]
      refine ⟨fun i c hi hc => ?_, fun c hc => ?_, ?_⟩
      · cases i with
        | zero => simp at hc; subst hc; exact hx
        | succ i => exact ih.1 i c (by simpa using hi) (by simpa using hc)
      · exact ih.2.1 c (by simpa using hc)
      · simpa using ih.2.2
    · rw [List.takeWhile_cons_of_neg hx]
      refine ⟨fun i c hi => by simp at hi, fun c hc => ?_, by simp⟩
      simp at hc
      subst hc
      simpa using hx
/-- where a numeral's digits begin. -/
def numLo (l : By) : Nat := if [45].isPrefixOf l then 1 else 0
theorem numPre_at (l : By) : numLo l ≤ (numPre l).length ∧ (∀ i c, numLo l ≤ i → i < (numPre l).length → l[i]? = some c → dig c = true) ∧ (∀ c, l[(numPre l).length]? = some c → dig c = false) ∧ (numPre l).length ≤ l.length := by
  cases l with
  | nil => simp [numPre, numLo, List.isPrefixOf]
  | cons x xs =>
    by_cases hx : x = 45
    · subst hx
      have e : numPre (45 :: xs) = 45 :: xs.takeWhile dig := by unfold numPre; exact if_pos rfl
      have e2 : numLo (45 :: xs) = 1 := by simp [numLo, List.isPrefixOf]
      have h := takeWhile_at xs
      rw [e, e2]
      refine ⟨by simp, fun i c h1 hi hc => ?_, fun c hc => ?_, by simpa using h.2.2⟩
      · cases i with
        | zero => omega
        | succ i => exact h.1 i c (by simpa using hi) (by simpa using hc)
      · exact h.2.1 c (by simpa using hc)
    · have e : numPre (x :: xs) = (x :: xs).takeWhile dig := if_neg hx
      have e2 : numLo (x :: xs) = 0 := by simp [numLo, List.isPrefixOf, Ne.symm hx]
      have h := takeWhile_at (x :: xs)
      rw [e, e2]
      exact ⟨by omega, fun i c _ hi hc => h.1 i c hi hc, h.2.1, h.2.2⟩
/-- what becomes of the reader. -/
def NumPost (b : Nat) (s : ByteArray) (bad : Bool) (w : World) (e : Ending) (w' : World) : Prop := ∃ x, e = .returned (.int .i64 x) ∧ I64 x ∧ w.grownBy w' (some b) ∧
  (match numF s.data.toList with
  | some (y, r) => x = y ∧ ∃ s' : ByteArray, w'.heap[b]? = some (.cells #[.string s', .bool bad] 92 (0, 0)) ∧ s'.data.toList = r ∧ s'.size ≤ s.size
  | none => w'.heap[b]? = some (.cells #[.string s, .bool true] 92 (0, 0)))
theorem post_ok {b : Nat} {s s' : ByteArray} {bad : Bool} {w w' : World} {v : Int} {r : By} (hF : numF s.data.toList = some (v, r)) (hg : w.grownBy w' (some b)) (hb : w'.heap[b]? = some (.cells #[.string s', .bool bad] 92 (0, 0))) (hs : s'.data.toList = r) (hl : s'.size ≤ s.size) : NumPost b s bad w (.returned (.int .i64 v)) w' := by
  refine ⟨v, rfl, (numF_some hF).2.1, hg, ?_⟩
  rw [hF]
  exact ⟨rfl, s', hb, hs, hl⟩
theorem post_bad {b : Nat} {s : ByteArray} {bad : Bool} {w w' : World} (hF : numF s.data.toList = none) (hg : w.grownBy w' (some b)) (hb : w'.heap[b]? = some (.cells #[.string s, .bool true] 92 (0, 0))) : NumPost b s bad w (.returned (.int .i64 0)) w' := by
  refine ⟨0, rfl, I64.of (by decide) (by decide), hg, ?_⟩
  rw [hF]
  exact hb
theorem byteArray_ext {a b : ByteArray} (h : a.data.toList = b.data.toList) : a = b := by
  cases a; cases b
  simp at h
  simp [h]

set_option maxHeartbeats 4000000 in
set_option maxRecDepth 100000 in
theorem num_neg (b B : Nat) (hBb : B ≤ b) (s : ByteArray) (bad : Bool) (w : World) (hb : w.heap[b]? = some (.cells #[.string s, .bool bad] 92 (0, 0))) (hsz : s.size ≤ 65536) (hv : Vars B w) (hneg : [45].isPrefixOf s.data.toList = true) :
    Calls Tryd.prog 43 #[.pointer (some ⟨b, 0, none⟩)] w (NumPost b s bad w) := by
  have hlt : b < w.heap.size := by
    rcases Nat.lt_or_ge b w.heap.size with h' | h'
    · exact h'
    · simp [Array.getElem?_eq_none h'] at hb
  have c0 : w.cell? ⟨b, 0, none⟩ = some (.string s) := by rw [Lib.cell_of_heap hb]; rfl
  have HB := hid hb; clear hb
  have HV := hid hv; clear hv
  have HP := hid (HasPrefix_calls s ⟨#[45]⟩ w)
  rw [show (⟨#[45]⟩ : ByteArray).data.toList.isPrefixOf s.data.toList = true from hneg] at HP
  obtain ⟨hn1, hn2, hn3, hn4⟩ := numPre_at s.data.toList
  rw [show numLo s.data.toList = 1 by simp [numLo, hneg]] at hn1 hn2
  have hL : s.data.toList.length = s.size := by rw [Array.length_toList]; rfl
  rw [hL] at hn4
  have hget : ∀ (i : Nat) (h : i < s.size), s.data.toList[i]? = some s[i] := fun i h => by
    rw [List.getElem?_eq_getElem (by omega)]; rfl
  have HG := hid hget
  have HN2 := hid hn2
  have HN3 := hid hn3
  have HE : Hid ((s.extract 0 (numPre s.data.toList).length).data.toList = numPre s.data.toList) := hid (by
    rw [Lib.extract_data]
    obtain ⟨r, hr, _⟩ := numPre_prefix s.data.toList
    conv => lhs; rw [hr]
    rw [List.drop_zero, Nat.sub_zero, ← hr]
    have : List.take (numPre s.data.toList).length (numPre s.data.toList ++ r) = numPre s.data.toList := List.take_left
    rwa [← hr] at this)
  clear hneg hL hget hn2 hn3
  go_enter Tryd.func43, Tryd.ntmps43
  go_wp2_with fail
  refine HP.out.mono ?_
  rintro e w1 ⟨rfl, rfl⟩
  go_wp2_with fail
  go_loop [3] (fun vi => ∃ k : Nat, 1 ≤ k ∧ k ≤ (numPre s.data.toList).length ∧ vi = .int .i64 k) (fun vi => s.size - (intOf vi).toNat)
  case atStart => exact ⟨1, by omega, by omega, rfl⟩
  case round =>
    obtain ⟨k, hk0, hk, rfl⟩ := hrel
    by_cases hks : k < s.size
    · have hks' : (k : Int) < s.size := by omega
      by_cases hkp : k < (numPre s.data.toList).length
      · have hd := HN2.out k _ hk0 hkp (HG.out k hks)
        simp only [dig, Bool.and_eq_true, decide_eq_true_eq] at hd
        obtain ⟨hd1, hd2⟩ := hd
        have d1 : (48 : Int) ≤ (s[k].toNat : Int) := by omega
        have d2 : (s[k].toNat : Int) ≤ 57 := by omega
        have d3 : decide (48 ≤ s[k].toNat) = true := by simpa using hd1
        have d4 : decide (s[k].toNat ≤ 57) = true := by simpa using hd2
        clear hd1 hd2
        go_wp2_with fail
        refine ⟨⟨k + 1, by omega, by omega, by go_num⟩, ?_⟩
        simp [intOf]; omega
      · obtain rfl : k = (numPre s.data.toList).length := by omega
        have hd := HN3.out _ (HG.out _ hks)
        by_cases q1 : 48 ≤ s[(numPre s.data.toList).length].toNat
        · have q2 : ¬ s[(numPre s.data.toList).length].toNat ≤ 57 := by
            simp [dig, q1] at hd; omega
          have d1 : (48 : Int) ≤ (s[(numPre s.data.toList).length].toNat : Int) := by omega
          have d2 : decide ((s[(numPre s.data.toList).length].toNat : Int) ≤ 57) = false := decide_eq_false (by omega)
          have d2' : ¬ (s[(numPre s.data.toList).length].toNat : Int) ≤ 57 := by omega
          clear hd q1 q2
          go_wp2_with fail
          refine (Atoi_calls (s.extract 0 (numPre s.data.toList).length) (by rw [ByteArray.size_extract]; omega) _ HV.out).mono ?_
          rintro e w4 ⟨hb4, hres⟩
          have hext : (s.extract 0 (numPre s.data.toList).length).data.toList = numPre s.data.toList := HE.out
          rw [hext] at hres
          have HB4 := hid ((hb4.block b hlt).trans HB.out)
          have hg4 := only_of_below hb4 (some b)
          have c0' : w4.cell? ⟨b, 0, none⟩ = some (.string s) := by rw [Lib.cell_of_heap HB4.out]; rfl
          rcases hres with ⟨v, hv, rfl⟩ | ⟨hv, x, t, p, rfl⟩
          · have hI : I64 v := Lib.atoiAll_bounds hv
            by_cases heq : Lib.itoa v = numPre s.data.toList
            · have HF : Hid (numF s.data.toList = some (v, s.data.toList.drop (numPre s.data.toList).length)) := hid (by unfold numF; rw [hv]; simp [heq])
              have HQ := hid heq
              have hq2 : (⟨(Lib.itoa v).toArray⟩ : ByteArray) = s.extract 0 (numPre s.data.toList).length := byteArray_ext (by rw [hext, ← heq])
              have HQ2 := hid hq2
              clear heq hv hext hq2
              go_wp2_with fail
              obtain ⟨ι, W, ⟨i0, hi0⟩, hW, Wsur⟩ := held_class w4.drew (fun g => g = b)
              have hne : Nonempty ι := ⟨i0⟩
              have g0 : ∀ i, (W i).cell? ⟨b, 0, none⟩ = some (.string s) := fun i => by rw [Lib.cell_of_heap ((hW i b rfl).trans HB4.out)]; rfl
              have WS := hid Wsur; clear Wsur
              have HW := hid hW; clear hW
              have Hi0 := hid hi0; clear hi0
              refine region_anyL (S := fun w' => ∃ i, w' = W i) (last := 13) (by kernel_rfl) ?_
              refine anyL_seg 0 4 (by kernel_rfl) (fun _ _ _ _ _ h => h) ⟨i0, Hi0.out.symm⟩ (f := 9) rfl (by kernel_rfl) (by kernel_rfl) ?_
              simp only [List.drop_zero, List.take_succ_cons, List.take_zero]
              repeat go_big_quiet_step (fail)
              refine wpQuiet_nil ?_
              refine anyL_seg 5 6 (by kernel_rfl) (fun _ _ _ _ _ h => h) ⟨i0, Hi0.out.symm⟩ (f := 3) rfl (by kernel_rfl) (by kernel_rfl) ?_
              simp only [List.drop_succ_cons, List.drop_zero, List.take_succ_cons, List.take_zero]
              repeat go_big_quiet_step (fail)
              refine wpQuiet_nil ?_
              refine anyL_actG (i := 4) (by kernel_rfl) rfl (by rfl) ?_
              intro K hK
              go_wp2_with fail
              refine (Itoa_calls v hI _ (HV.out.on (Below.drew (hb4.mono (by omega))))).mono ?_
              rintro e w5 ⟨rfl, hb5⟩
              go_wp2_with fail
              have HB5 := hid ((hb5.block b (Nat.lt_of_lt_of_le hlt hb4.size)).trans HB4.out)
              have hS3 : ∃ i, w5 = W i := WS.out w5 (fun g hg => by subst hg; exact HB5.out.trans HB4.out.symm)
              refine hK.out _ _ (fun _ => hS3) ?_
              clear hK K
              rw [HQ2.out]
              refine anyL_seg 11 2 (by kernel_rfl) (fun _ _ _ _ _ h => h) hS3 (f := 0) rfl (by kernel_rfl) (by kernel_rfl) ?_
              simp only [List.drop_succ_cons, List.drop_zero, List.take_succ_cons, List.take_zero]
              repeat go_big_quiet_step (fail)
              refine wpQuiet_nil ?_
              refine anyL_done (by kernel_rfl) ?_ _
              have hg5 := only_trans hg4 (only_trans (only_drew (World.grownBy.refl w4 _)) (only_of_below hb5 (some b)))
              have c0'' : w5.cell? ⟨b, 0, none⟩ = some (.string s) := by rw [Lib.cell_of_heap HB5.out]; rfl
              have f0 : w5.frozen? ⟨b, 0, none⟩ = false := Lib.frozen_of_heap HB5.out 0
              clear hS3 g0 WS HW Hi0 hne i0 W ι c0'
              go_wp2_with fail
              go_ret
              refine post_ok HF.out (only_setCell hg5 (.inl rfl) _) (heap_set _ b 0 _ HB5.out) ?_ ?_
              · rw [Lib.extract_to_end]
              · rw [ByteArray.size_extract]; omega
            · have HF : Hid (numF s.data.toList = none) := hid (by unfold numF; rw [hv]; simp [heq])
              have hq0 : ¬ (⟨(Lib.itoa v).toArray⟩ : ByteArray).toList = (s.extract 0 (numPre s.data.toList).length).toList := fun h => heq (by rw [ByteArray.toList_eq, ByteArray.toList_eq, hext] at h; exact h)
              have hq1 : (Lib.itoa v == (s.extract 0 (numPre s.data.toList).length).toList) = false := by
                rw [ByteArray.toList_eq, hext]; simpa using heq
              have HQ0 := hid hq0
              have HEQ := hid heq
              clear heq hv hext
              go_wp2_with fail
              obtain ⟨ι, W, ⟨i0, hi0⟩, hW, Wsur⟩ := held_class w4.drew (fun g => g = b)
              have hne : Nonempty ι := ⟨i0⟩
              have g0 : ∀ i, (W i).cell? ⟨b, 0, none⟩ = some (.string s) := fun i => by rw [Lib.cell_of_heap ((hW i b rfl).trans HB4.out)]; rfl
              have WS := hid Wsur; clear Wsur
              have HW := hid hW; clear hW
              have Hi0 := hid hi0; clear hi0
              refine region_anyL (S := fun w' => ∃ i, w' = W i) (last := 13) (by kernel_rfl) ?_
              refine anyL_seg 0 4 (by kernel_rfl) (fun _ _ _ _ _ h => h) ⟨i0, Hi0.out.symm⟩ (f := 9) rfl (by kernel_rfl) (by kernel_rfl) ?_
              simp only [List.drop_zero, List.take_succ_cons, List.take_zero]
              repeat go_big_quiet_step (fail)
              refine wpQuiet_nil ?_
              refine anyL_seg 5 6 (by kernel_rfl) (fun _ _ _ _ _ h => h) ⟨i0, Hi0.out.symm⟩ (f := 3) rfl (by kernel_rfl) (by kernel_rfl) ?_
              simp only [List.drop_succ_cons, List.drop_zero, List.take_succ_cons, List.take_zero]
              repeat go_big_quiet_step (fail)
              refine wpQuiet_nil ?_
              refine anyL_actG (i := 4) (by kernel_rfl) rfl (by rfl) ?_
              intro K hK
              go_wp2_with fail
              refine (Itoa_calls v hI _ (HV.out.on (Below.drew (hb4.mono (by omega))))).mono ?_
              rintro e w5 ⟨rfl, hb5⟩
              go_wp2_with fail
              have HB5 := hid ((hb5.block b (Nat.lt_of_lt_of_le hlt hb4.size)).trans HB4.out)
              have hS3 : ∃ i, w5 = W i := WS.out w5 (fun g hg => by subst hg; exact HB5.out.trans HB4.out.symm)
              refine hK.out _ _ (fun _ => hS3) ?_
              clear hK K
              refine anyL_seg 11 2 (by kernel_rfl) (fun _ _ _ _ _ h => h) hS3 (f := 0) rfl (by kernel_rfl) (by kernel_rfl) ?_
              simp only [List.drop_succ_cons, List.drop_zero, List.take_succ_cons, List.take_zero]
              repeat go_big_quiet_step (fail)
              refine wpQuiet_nil ?_
              refine anyL_done (by kernel_rfl) ?_ _
              have hg5 := only_trans hg4 (only_trans (only_drew (World.grownBy.refl w4 _)) (only_of_below hb5 (some b)))
              clear hS3 g0 WS HW Hi0 hne i0 W ι c0'
              have f1 : w5.frozen? ⟨b, 1, none⟩ = false := Lib.frozen_of_heap HB5.out 1
              have c1' : w5.cell? ⟨b, 1, none⟩ = some (.bool bad) := by rw [Lib.cell_of_heap HB5.out]; rfl
              go_wp2_with fail
              go_ret
              exact post_bad HF.out (only_setCell hg5 (.inl rfl) _) (heap_set _ b 1 _ HB5.out)
          · have HF : Hid (numF s.data.toList = none) := hid (by
              unfold numF
              cases hq : Lib.atoiAll (numPre s.data.toList) with
              | ok y => exact absurd hq (hv y)
              | _ => rfl)
            clear hv hext
            go_wp2_with fail
            obtain ⟨ι, W, ⟨i0, hi0⟩, hW, Wsur⟩ := held_class w4.drew (fun g => g = b)
            have hne : Nonempty ι := ⟨i0⟩
            have g0 : ∀ i, (W i).cell? ⟨b, 0, none⟩ = some (.string s) := fun i => by rw [Lib.cell_of_heap ((hW i b rfl).trans HB4.out)]; rfl
            have WS := hid Wsur; clear Wsur
            have HW := hid hW; clear hW
            have Hi0 := hid hi0; clear hi0
            refine region_anyL (S := fun w' => ∃ i, w' = W i) (last := 13) (by kernel_rfl) ?_
            refine anyL_seg 0 4 (by kernel_rfl) (fun _ _ _ _ _ h => h) ⟨i0, Hi0.out.symm⟩ (f := 9) rfl (by kernel_rfl) (by kernel_rfl) ?_
            simp only [List.drop_zero, List.take_succ_cons, List.take_zero]
            repeat go_big_quiet_step (fail)
            refine wpQuiet_nil ?_
            refine anyL_seg 5 6 (by kernel_rfl) (fun _ _ _ _ _ h => h) ⟨i0, Hi0.out.symm⟩ (f := 3) rfl (by kernel_rfl) (by kernel_rfl) ?_
            simp only [List.drop_succ_cons, List.drop_zero, List.take_succ_cons, List.take_zero]
            repeat go_big_quiet_step (fail)
            refine wpQuiet_nil ?_
            refine anyL_skipD (i := 4) (by kernel_rfl) rfl (by rfl) (by rfl) ⟨i0, Hi0.out.symm⟩ ?_
            refine anyL_seg 11 2 (by kernel_rfl) (fun _ _ _ _ _ h => h) ⟨i0, Hi0.out.symm⟩ (f := 0) rfl (by kernel_rfl) (by kernel_rfl) ?_
            simp only [List.drop_succ_cons, List.drop_zero, List.take_succ_cons, List.take_zero]
            repeat go_big_quiet_step (fail)
            refine wpQuiet_nil ?_
            refine anyL_done (by kernel_rfl) ?_ _
            have hg5 : w.grownBy w4.drew (some b) := only_drew hg4
            have HB5 : Hid (w4.drew.heap[b]? = _) := HB4
            clear g0 WS HW Hi0 hne i0 W ι c0'
            have f1 : w4.frozen? ⟨b, 1, none⟩ = false := Lib.frozen_of_heap HB4.out 1
            have c1' : w4.cell? ⟨b, 1, none⟩ = some (.bool bad) := by rw [Lib.cell_of_heap HB4.out]; rfl
            go_wp2_with fail
            go_ret
            exact post_bad HF.out (only_setCell hg5 (.inl rfl) _) (heap_set _ b 1 _ HB5.out)
        · have d1 : decide ((48 : Int) ≤ (s[(numPre s.data.toList).length].toNat : Int)) = false := decide_eq_false (by omega)
          have d1' : (s[(numPre s.data.toList).length].toNat : Int) < 48 := by omega
          clear hd q1
          go_wp2_with fail
          refine (Atoi_calls (s.extract 0 (numPre s.data.toList).length) (by rw [ByteArray.size_extract]; omega) _ HV.out).mono ?_
          rintro e w4 ⟨hb4, hres⟩
          have hext : (s.extract 0 (numPre s.data.toList).length).data.toList = numPre s.data.toList := HE.out
          rw [hext] at hres
          have HB4 := hid ((hb4.block b hlt).trans HB.out)
          have hg4 := only_of_below hb4 (some b)
          have c0' : w4.cell? ⟨b, 0, none⟩ = some (.string s) := by rw [Lib.cell_of_heap HB4.out]; rfl
          rcases hres with ⟨v, hv, rfl⟩ | ⟨hv, x, t, p, rfl⟩
          · have hI : I64 v := Lib.atoiAll_bounds hv
            by_cases heq : Lib.itoa v = numPre s.data.toList
            · have HF : Hid (numF s.data.toList = some (v, s.data.toList.drop (numPre s.data.toList).length)) := hid (by unfold numF; rw [hv]; simp [heq])
              have HQ := hid heq
              have hq2 : (⟨(Lib.itoa v).toArray⟩ : ByteArray) = s.extract 0 (numPre s.data.toList).length := byteArray_ext (by rw [hext, ← heq])
              have HQ2 := hid hq2
              clear heq hv hext hq2
              go_wp2_with fail
              obtain ⟨ι, W, ⟨i0, hi0⟩, hW, Wsur⟩ := held_class w4.drew (fun g => g = b)
              have hne : Nonempty ι := ⟨i0⟩
              have g0 : ∀ i, (W i).cell? ⟨b, 0, none⟩ = some (.string s) := fun i => by rw [Lib.cell_of_heap ((hW i b rfl).trans HB4.out)]; rfl
              have WS := hid Wsur; clear Wsur
              have HW := hid hW; clear hW
              have Hi0 := hid hi0; clear hi0
              refine region_anyL (S := fun w' => ∃ i, w' = W i) (last := 13) (by kernel_rfl) ?_
              refine anyL_seg 0 4 (by kernel_rfl) (fun _ _ _ _ _ h => h) ⟨i0, Hi0.out.symm⟩ (f := 9) rfl (by kernel_rfl) (by kernel_rfl) ?_
              simp only [List.drop_zero, List.take_succ_cons, List.take_zero]
              repeat go_big_quiet_step (fail)
              refine wpQuiet_nil ?_
              refine anyL_seg 5 6 (by kernel_rfl) (fun _ _ _ _ _ h => h) ⟨i0, Hi0.out.symm⟩ (f := 3) rfl (by kernel_rfl) (by kernel_rfl) ?_
              simp only [List.drop_succ_cons, List.drop_zero, List.take_succ_cons, List.take_zero]
              repeat go_big_quiet_step (fail)
              refine wpQuiet_nil ?_
              refine anyL_actG (i := 4) (by kernel_rfl) rfl (by rfl) ?_
              intro K hK
              go_wp2_with fail
              refine (Itoa_calls v hI _ (HV.out.on (Below.drew (hb4.mono (by omega))))).mono ?_
              rintro e w5 ⟨rfl, hb5⟩
              go_wp2_with fail
              have HB5 := hid ((hb5.block b (Nat.lt_of_lt_of_le hlt hb4.size)).trans HB4.out)
              have hS3 : ∃ i, w5 = W i := WS.out w5 (fun g hg => by subst hg; exact HB5.out.trans HB4.out.symm)
              refine hK.out _ _ (fun _ => hS3) ?_
              clear hK K
              rw [HQ2.out]
              refine anyL_seg 11 2 (by kernel_rfl) (fun _ _ _ _ _ h => h) hS3 (f := 0) rfl (by kernel_rfl) (by kernel_rfl) ?_
              simp only [List.drop_succ_cons, List.drop_zero, List.take_succ_cons, List.take_zero]
              repeat go_big_quiet_step (fail)
              refine wpQuiet_nil ?_
              refine anyL_done (by kernel_rfl) ?_ _
              have hg5 := only_trans hg4 (only_trans (only_drew (World.grownBy.refl w4 _)) (only_of_below hb5 (some b)))
              have c0'' : w5.cell? ⟨b, 0, none⟩ = some (.string s) := by rw [Lib.cell_of_heap HB5.out]; rfl
              have f0 : w5.frozen? ⟨b, 0, none⟩ = false := Lib.frozen_of_heap HB5.out 0
              clear hS3 g0 WS HW Hi0 hne i0 W ι c0'
              go_wp2_with fail
              go_ret
              refine post_ok HF.out (only_setCell hg5 (.inl rfl) _) (heap_set _ b 0 _ HB5.out) ?_ ?_
              · rw [Lib.extract_to_end]
              · rw [ByteArray.size_extract]; omega
            · have HF : Hid (numF s.data.toList = none) := hid (by unfold numF; rw [hv]; simp [heq])
              have hq0 : ¬ (⟨(Lib.itoa v).toArray⟩ : ByteArray).toList = (s.extract 0 (numPre s.data.toList).length).toList := fun h => heq (by rw [ByteArray.toList_eq, ByteArray.toList_eq, hext] at h; exact h)
              have hq1 : (Lib.itoa v == (s.extract 0 (numPre s.data.toList).length).toList) = false := by
                rw [ByteArray.toList_eq, hext]; simpa using heq
              have HQ0 := hid hq0
              have HEQ := hid heq
              clear heq hv hext
              go_wp2_with fail
              obtain ⟨ι, W, ⟨i0, hi0⟩, hW, Wsur⟩ := held_class w4.drew (fun g => g = b)
              have hne : Nonempty ι := ⟨i0⟩
              have g0 : ∀ i, (W i).cell? ⟨b, 0, none⟩ = some (.string s) := fun i => by rw [Lib.cell_of_heap ((hW i b rfl).trans HB4.out)]; rfl
              have WS := hid Wsur; clear Wsur
              have HW := hid hW; clear hW
              have Hi0 := hid hi0; clear hi0
              refine region_anyL (S := fun w' => ∃ i, w' = W i) (last := 13) (by kernel_rfl) ?_
              refine anyL_seg 0 4 (by kernel_rfl) (fun _ _ _ _ _ h => h) ⟨i0, Hi0.out.symm⟩ (f := 9) rfl (by kernel_rfl) (by kernel_rfl) ?_
              simp only [List.drop_zero, List.take_succ_cons, List.take_zero]
              repeat go_big_quiet_step (fail)
              refine wpQuiet_nil ?_
              refine anyL_seg 5 6 (by kernel_rfl) (fun _ _ _ _ _ h => h) ⟨i0, Hi0.out.symm⟩ (f := 3) rfl (by kernel_rfl) (by kernel_rfl) ?_
              simp only [List.drop_succ_cons, List.drop_zero, List.take_succ_cons, List.take_zero]
              repeat go_big_quiet_step (fail)
              refine wpQuiet_nil ?_
              refine anyL_actG (i := 4) (by kernel_rfl) rfl (by rfl) ?_
              intro K hK
              go_wp2_with fail
              refine (Itoa_calls v hI _ (HV.out.on (Below.drew (hb4.mono (by omega))))).mono ?_
              rintro e w5 ⟨rfl, hb5⟩
              go_wp2_with fail
              have HB5 := hid ((hb5.block b (Nat.lt_of_lt_of_le hlt hb4.size)).trans HB4.out)
              have hS3 : ∃ i, w5 = W i := WS.out w5 (fun g hg => by subst hg; exact HB5.out.trans HB4.out.symm)
              refine hK.out _ _ (fun _ => hS3) ?_
              clear hK K
              refine anyL_seg 11 2 (by kernel_rfl) (fun _ _ _ _ _ h => h) hS3 (f := 0) rfl (by kernel_rfl) (by kernel_rfl) ?_
              simp only [List.drop_succ_cons, List.drop_zero, List.take_succ_cons, List.take_zero]
              repeat go_big_quiet_step (fail)
              refine wpQuiet_nil ?_
              refine anyL_done (by kernel_rfl) ?_ _
              have hg5 := only_trans hg4 (only_trans (only_drew (World.grownBy.refl w4 _)) (only_of_below hb5 (some b)))
              clear hS3 g0 WS HW Hi0 hne i0 W ι c0'
              have f1 : w5.frozen? ⟨b, 1, none⟩ = false := Lib.frozen_of_heap HB5.out 1
              have c1' : w5.cell? ⟨b, 1, none⟩ = some (.bool bad) := by rw [Lib.cell_of_heap HB5.out]; rfl
              go_wp2_with fail
              go_ret
              exact post_bad HF.out (only_setCell hg5 (.inl rfl) _) (heap_set _ b 1 _ HB5.out)
          · have HF : Hid (numF s.data.toList = none) := hid (by
              unfold numF
              cases hq : Lib.atoiAll (numPre s.data.toList) with
              | ok y => exact absurd hq (hv y)
              | _ => rfl)
            clear hv hext
            go_wp2_with fail
            obtain ⟨ι, W, ⟨i0, hi0⟩, hW, Wsur⟩ := held_class w4.drew (fun g => g = b)
            have hne : Nonempty ι := ⟨i0⟩
            have g0 : ∀ i, (W i).cell? ⟨b, 0, none⟩ = some (.string s) := fun i => by rw [Lib.cell_of_heap ((hW i b rfl).trans HB4.out)]; rfl
            have WS := hid Wsur; clear Wsur
            have HW := hid hW; clear hW
            have Hi0 := hid hi0; clear hi0
            refine region_anyL (S := fun w' => ∃ i, w' = W i) (last := 13) (by kernel_rfl) ?_
            refine anyL_seg 0 4 (by kernel_rfl) (fun _ _ _ _ _ h => h) ⟨i0, Hi0.out.symm⟩ (f := 9) rfl (by kernel_rfl) (by kernel_rfl) ?_
            simp only [List.drop_zero, List.take_succ_cons, List.take_zero]
            repeat go_big_quiet_step (fail)
            refine wpQuiet_nil ?_
            refine anyL_seg 5 6 (by kernel_rfl) (fun _ _ _ _ _ h => h) ⟨i0, Hi0.out.symm⟩ (f := 3) rfl (by kernel_rfl) (by kernel_rfl) ?_
            simp only [List.drop_succ_cons, List.drop_zero, List.take_succ_cons, List.take_zero]
            repeat go_big_quiet_step (fail)
            refine wpQuiet_nil ?_
            refine anyL_skipD (i := 4) (by kernel_rfl) rfl (by rfl) (by rfl) ⟨i0, Hi0.out.symm⟩ ?_
            refine anyL_seg 11 2 (by kernel_rfl) (fun _ _ _ _ _ h => h) ⟨i0, Hi0.out.symm⟩ (f := 0) rfl (by kernel_rfl) (by kernel_rfl) ?_
            simp only [List.drop_succ_cons, List.drop_zero, List.take_succ_cons, List.take_zero]
            repeat go_big_quiet_step (fail)
            refine wpQuiet_nil ?_
            refine anyL_done (by kernel_rfl) ?_ _
            have hg5 : w.grownBy w4.drew (some b) := only_drew hg4
            have HB5 : Hid (w4.drew.heap[b]? = _) := HB4
            clear g0 WS HW Hi0 hne i0 W ι c0'
            have f1 : w4.frozen? ⟨b, 1, none⟩ = false := Lib.frozen_of_heap HB4.out 1
            have c1' : w4.cell? ⟨b, 1, none⟩ = some (.bool bad) := by rw [Lib.cell_of_heap HB4.out]; rfl
            go_wp2_with fail
            go_ret
            exact post_bad HF.out (only_setCell hg5 (.inl rfl) _) (heap_set _ b 1 _ HB5.out)
    · obtain rfl : k = (numPre s.data.toList).length := by omega
      have hks' : ¬ ((numPre s.data.toList).length : Int) < s.size := by omega
      have hks'' : decide ((numPre s.data.toList).length < s.size) = false := by simp; omega
      go_wp2_with fail
      refine (Atoi_calls (s.extract 0 (numPre s.data.toList).length) (by rw [ByteArray.size_extract]; omega) _ HV.out).mono ?_
      rintro e w4 ⟨hb4, hres⟩
      have hext : (s.extract 0 (numPre s.data.toList).length).data.toList = numPre s.data.toList := HE.out
      rw [hext] at hres
      have HB4 := hid ((hb4.block b hlt).trans HB.out)
      have hg4 := only_of_below hb4 (some b)
      have c0' : w4.cell? ⟨b, 0, none⟩ = some (.string s) := by rw [Lib.cell_of_heap HB4.out]; rfl
      rcases hres with ⟨v, hv, rfl⟩ | ⟨hv, x, t, p, rfl⟩
      · have hI : I64 v := Lib.atoiAll_bounds hv
        by_cases heq : Lib.itoa v = numPre s.data.toList
        · have HF : Hid (numF s.data.toList = some (v, s.data.toList.drop (numPre s.data.toList).length)) := hid (by unfold numF; rw [hv]; simp [heq])
          have HQ := hid heq
          have hq2 : (⟨(Lib.itoa v).toArray⟩ : ByteArray) = s.extract 0 (numPre s.data.toList).length := byteArray_ext (by rw [hext, ← heq])
          have HQ2 := hid hq2
          clear heq hv hext hq2
          go_wp2_with fail
          obtain ⟨ι, W, ⟨i0, hi0⟩, hW, Wsur⟩ := held_class w4.drew (fun g => g = b)
          have hne : Nonempty ι := ⟨i0⟩
          have g0 : ∀ i, (W i).cell? ⟨b, 0, none⟩ = some (.string s) := fun i => by rw [Lib.cell_of_heap ((hW i b rfl).trans HB4.out)]; rfl
          have WS := hid Wsur; clear Wsur
          have HW := hid hW; clear hW
          have Hi0 := hid hi0; clear hi0
          refine region_anyL (S := fun w' => ∃ i, w' = W i) (last := 13) (by kernel_rfl) ?_
          refine anyL_seg 0 4 (by kernel_rfl) (fun _ _ _ _ _ h => h) ⟨i0, Hi0.out.symm⟩ (f := 9) rfl (by kernel_rfl) (by kernel_rfl) ?_
          simp only [List.drop_zero, List.take_succ_cons, List.take_zero]
          repeat go_big_quiet_step (fail)
          refine wpQuiet_nil ?_
          refine anyL_seg 5 6 (by kernel_rfl) (fun _ _ _ _ _ h => h) ⟨i0, Hi0.out.symm⟩ (f := 3) rfl (by kernel_rfl) (by kernel_rfl) ?_
          simp only [List.drop_succ_cons, List.drop_zero, List.take_succ_cons, List.take_zero]
          repeat go_big_quiet_step (fail)
          refine wpQuiet_nil ?_
          refine anyL_actG (i := 4) (by kernel_rfl) rfl (by rfl) ?_
          intro K hK
          go_wp2_with fail
          refine (Itoa_calls v hI _ (HV.out.on (Below.drew (hb4.mono (by omega))))).mono ?_
          rintro e w5 ⟨rfl, hb5⟩
          go_wp2_with fail
          have HB5 := hid ((hb5.block b (Nat.lt_of_lt_of_le hlt hb4.size)).trans HB4.out)
          have hS3 : ∃ i, w5 = W i := WS.out w5 (fun g hg => by subst hg; exact HB5.out.trans HB4.out.symm)
          refine hK.out _ _ (fun _ => hS3) ?_
          clear hK K
          rw [HQ2.out]
          refine anyL_seg 11 2 (by kernel_rfl) (fun _ _ _ _ _ h => h) hS3 (f := 0) rfl (by kernel_rfl) (by kernel_rfl) ?_
          simp only [List.drop_succ_cons, List.drop_zero, List.take_succ_cons, List.take_zero]
          repeat go_big_quiet_step (fail)
          refine wpQuiet_nil ?_
          refine anyL_done (by kernel_rfl) ?_ _
          have hg5 := only_trans hg4 (only_trans (only_drew (World.grownBy.refl w4 _)) (only_of_below hb5 (some b)))
          have c0'' : w5.cell? ⟨b, 0, none⟩ = some (.string s) := by rw [Lib.cell_of_heap HB5.out]; rfl
          have f0 : w5.frozen? ⟨b, 0, none⟩ = false := Lib.frozen_of_heap HB5.out 0
          clear hS3 g0 WS HW Hi0 hne i0 W ι c0'
          go_wp2_with fail
          go_ret
          refine post_ok HF.out (only_setCell hg5 (.inl rfl) _) (heap_set _ b 0 _ HB5.out) ?_ ?_
          · rw [Lib.extract_to_end]
          · rw [ByteArray.size_extract]; omega
        · have HF : Hid (numF s.data.toList = none) := hid (by unfold numF; rw [hv]; simp [heq])
          have hq0 : ¬ (⟨(Lib.itoa v).toArray⟩ : ByteArray).toList = (s.extract 0 (numPre s.data.toList).length).toList := fun h => heq (by rw [ByteArray.toList_eq, ByteArray.toList_eq, hext] at h; exact h)
          have hq1 : (Lib.itoa v == (s.extract 0 (numPre s.data.toList).length).toList) = false := by
            rw [ByteArray.toList_eq, hext]; simpa using heq
          have HQ0 := hid hq0
          have HEQ := hid heq
          clear heq hv hext
          go_wp2_with fail
          obtain ⟨ι, W, ⟨i0, hi0⟩, hW, Wsur⟩ := held_class w4.drew (fun g => g = b)
          have hne : Nonempty ι := ⟨i0⟩
          have g0 : ∀ i, (W i).cell? ⟨b, 0, none⟩ = some (.string s) := fun i => by rw [Lib.cell_of_heap ((hW i b rfl).trans HB4.out)]; rfl
          have WS := hid Wsur; clear Wsur
          have HW := hid hW; clear hW
          have Hi0 := hid hi0; clear hi0
          refine region_anyL (S := fun w' => ∃ i, w' = W i) (last := 13) (by kernel_rfl) ?_
          refine anyL_seg 0 4 (by kernel_rfl) (fun _ _ _ _ _ h => h) ⟨i0, Hi0.out.symm⟩ (f := 9) rfl (by kernel_rfl) (by kernel_rfl) ?_
          simp only [List.drop_zero, List.take_succ_cons, List.take_zero]
          repeat go_big_quiet_step (fail)
          refine wpQuiet_nil ?_
          refine anyL_seg 5 6 (by kernel_rfl) (fun _ _ _ _ _ h => h) ⟨i0, Hi0.out.symm⟩ (f := 3) rfl (by kernel_rfl) (by kernel_rfl) ?_
          simp only [List.drop_succ_cons, List.drop_zero, List.take_succ_cons, List.take_zero]
          repeat go_big_quiet_step (fail)
          refine wpQuiet_nil ?_
          refine anyL_actG (i := 4) (by kernel_rfl) rfl (by rfl) ?_
          intro K hK
          go_wp2_with fail
          refine (Itoa_calls v hI _ (HV.out.on (Below.drew (hb4.mono (by omega))))).mono ?_
          rintro e w5 ⟨rfl, hb5⟩
          go_wp2_with fail
          have HB5 := hid ((hb5.block b (Nat.lt_of_lt_of_le hlt hb4.size)).trans HB4.out)
          have hS3 : ∃ i, w5 = W i := WS.out w5 (fun g hg => by subst hg; exact HB5.out.trans HB4.out.symm)
          refine hK.out _ _ (fun _ => hS3) ?_
          clear hK K
          refine anyL_seg 11 2 (by kernel_rfl) (fun _ _ _ _ _ h => h) hS3 (f := 0) rfl (by kernel_rfl) (by kernel_rfl) ?_
          simp only [List.drop_succ_cons, List.drop_zero, List.take_succ_cons, List.take_zero]
          repeat go_big_quiet_step (fail)
          refine wpQuiet_nil ?_
          refine anyL_done (by kernel_rfl) ?_ _
          have hg5 := only_trans hg4 (only_trans (only_drew (World.grownBy.refl w4 _)) (only_of_below hb5 (some b)))
          clear hS3 g0 WS HW Hi0 hne i0 W ι c0'
          have f1 : w5.frozen? ⟨b, 1, none⟩ = false := Lib.frozen_of_heap HB5.out 1
          have c1' : w5.cell? ⟨b, 1, none⟩ = some (.bool bad) := by rw [Lib.cell_of_heap HB5.out]; rfl
          go_wp2_with fail
          go_ret
          exact post_bad HF.out (only_setCell hg5 (.inl rfl) _) (heap_set _ b 1 _ HB5.out)
      · have HF : Hid (numF s.data.toList = none) := hid (by
          unfold numF
          cases hq : Lib.atoiAll (numPre s.data.toList) with
          | ok y => exact absurd hq (hv y)
          | _ => rfl)
        clear hv hext
        go_wp2_with fail
        obtain ⟨ι, W, ⟨i0, hi0⟩, hW, Wsur⟩ := held_class w4.drew (fun g => g = b)
        have hne : Nonempty ι := ⟨i0⟩
        have g0 : ∀ i, (W i).cell? ⟨b, 0, none⟩ = some (.string s) := fun i => by rw [Lib.cell_of_heap ((hW i b rfl).trans HB4.out)]; rfl
        have WS := hid Wsur; clear Wsur
        have HW := hid hW; clear hW
        have Hi0 := hid hi0; clear hi0
        refine region_anyL (S := fun w' => ∃ i, w' = W i) (last := 13) (by kernel_rfl) ?_
        refine anyL_seg 0 4 (by kernel_rfl) (fun _ _ _ _ _ h => h) ⟨i0, Hi0.out.symm⟩ (f := 9) rfl (by kernel_rfl) (by kernel_rfl) ?_
        simp only [List.drop_zero, List.take_succ_cons, List.take_zero]
        repeat go_big_quiet_step (fail)
        refine wpQuiet_nil ?_
        refine anyL_seg 5 6 (by kernel_rfl) (fun _ _ _ _ _ h => h) ⟨i0, Hi0.out.symm⟩ (f := 3) rfl (by kernel_rfl) (by kernel_rfl) ?_
        simp only [List.drop_succ_cons, List.drop_zero, List.take_succ_cons, List.take_zero]
        repeat go_big_quiet_step (fail)
        refine wpQuiet_nil ?_
        refine anyL_skipD (i := 4) (by kernel_rfl) rfl (by rfl) (by rfl) ⟨i0, Hi0.out.symm⟩ ?_
        refine anyL_seg 11 2 (by kernel_rfl) (fun _ _ _ _ _ h => h) ⟨i0, Hi0.out.symm⟩ (f := 0) rfl (by kernel_rfl) (by kernel_rfl) ?_
        simp only [List.drop_succ_cons, List.drop_zero, List.take_succ_cons, List.take_zero]
        repeat go_big_quiet_step (fail)
        refine wpQuiet_nil ?_
        refine anyL_done (by kernel_rfl) ?_ _
        have hg5 : w.grownBy w4.drew (some b) := only_drew hg4
        have HB5 : Hid (w4.drew.heap[b]? = _) := HB4
        clear g0 WS HW Hi0 hne i0 W ι c0'
        have f1 : w4.frozen? ⟨b, 1, none⟩ = false := Lib.frozen_of_heap HB4.out 1
        have c1' : w4.cell? ⟨b, 1, none⟩ = some (.bool bad) := by rw [Lib.cell_of_heap HB4.out]; rfl
        go_wp2_with fail
        go_ret
        exact post_bad HF.out (only_setCell hg5 (.inl rfl) _) (heap_set _ b 1 _ HB5.out)

set_option maxHeartbeats 4000000 in
set_option maxRecDepth 100000 in
theorem num_pos (b B : Nat) (hBb : B ≤ b) (s : ByteArray) (bad : Bool) (w : World) (hb : w.heap[b]? = some (.cells #[.string s, .bool bad] 92 (0, 0))) (hsz : s.size ≤ 65536) (hv : Vars B w) (hneg : [45].isPrefixOf s.data.toList = false) :
    Calls Tryd.prog 43 #[.pointer (some ⟨b, 0, none⟩)] w (NumPost b s bad w) := by
  have hlt : b < w.heap.size := by
    rcases Nat.lt_or_ge b w.heap.size with h' | h'
    · exact h'
    · simp [Array.getElem?_eq_none h'] at hb
  have c0 : w.cell? ⟨b, 0, none⟩ = some (.string s) := by rw [Lib.cell_of_heap hb]; rfl
  have HB := hid hb; clear hb
  have HV := hid hv; clear hv
  have HP := hid (HasPrefix_calls s ⟨#[45]⟩ w)
  rw [show (⟨#[45]⟩ : ByteArray).data.toList.isPrefixOf s.data.toList = false from hneg] at HP
  obtain ⟨hn1, hn2, hn3, hn4⟩ := numPre_at s.data.toList
  rw [show numLo s.data.toList = 0 by simp [numLo, hneg]] at hn1 hn2
  have hL : s.data.toList.length = s.size := by rw [Array.length_toList]; rfl
  rw [hL] at hn4
  have hget : ∀ (i : Nat) (h : i < s.size), s.data.toList[i]? = some s[i] := fun i h => by
    rw [List.getElem?_eq_getElem (by omega)]; rfl
  have HG := hid hget
  have HN2 := hid hn2
  have HN3 := hid hn3
  have HE : Hid ((s.extract 0 (numPre s.data.toList).length).data.toList = numPre s.data.toList) := hid (by
    rw [Lib.extract_data]
    obtain ⟨r, hr, _⟩ := numPre_prefix s.data.toList
    conv => lhs; rw [hr]
    rw [List.drop_zero, Nat.sub_zero, ← hr]
    have : List.take (numPre s.data.toList).length (numPre s.data.toList ++ r) = numPre s.data.toList := List.take_left
    rwa [← hr] at this)
  clear hneg hL hget hn2 hn3
  go_enter Tryd.func43, Tryd.ntmps43
  go_wp2_with fail
  refine HP.out.mono ?_
  rintro e w1 ⟨rfl, rfl⟩
  go_wp2_with fail
  go_loop [3] (fun vi => ∃ k : Nat, 0 ≤ k ∧ k ≤ (numPre s.data.toList).length ∧ vi = .int .i64 k) (fun vi => s.size - (intOf vi).toNat)
  case atStart => exact ⟨0, by omega, by omega, rfl⟩
  case round =>
    obtain ⟨k, hk0, hk, rfl⟩ := hrel
    by_cases hks : k < s.size
    · have hks' : (k : Int) < s.size := by omega
      by_cases hkp : k < (numPre s.data.toList).length
      · have hd := HN2.out k _ hk0 hkp (HG.out k hks)
        simp only [dig, Bool.and_eq_true, decide_eq_true_eq] at hd
        obtain ⟨hd1, hd2⟩ := hd
        have d1 : (48 : Int) ≤ (s[k].toNat : Int) := by omega
        have d2 : (s[k].toNat : Int) ≤ 57 := by omega
        have d3 : decide (48 ≤ s[k].toNat) = true := by simpa using hd1
        have d4 : decide (s[k].toNat ≤ 57) = true := by simpa using hd2
        clear hd1 hd2
        go_wp2_with fail
        refine ⟨⟨k + 1, by omega, by omega, by go_num⟩, ?_⟩
        simp [intOf]; omega
      · obtain rfl : k = (numPre s.data.toList).length := by omega
        have hd := HN3.out _ (HG.out _ hks)
        by_cases q1 : 48 ≤ s[(numPre s.data.toList).length].toNat
        · have q2 : ¬ s[(numPre s.data.toList).length].toNat ≤ 57 := by
            simp [dig, q1] at hd; omega
          have d1 : (48 : Int) ≤ (s[(numPre s.data.toList).length].toNat : Int) := by omega
          have d2 : decide ((s[(numPre s.data.toList).length].toNat : Int) ≤ 57) = false := decide_eq_false (by omega)
          have d2' : ¬ (s[(numPre s.data.toList).length].toNat : Int) ≤ 57 := by omega
          clear hd q1 q2
          go_wp2_with fail
          refine (Atoi_calls (s.extract 0 (numPre s.data.toList).length) (by rw [ByteArray.size_extract]; omega) _ HV.out).mono ?_
          rintro e w4 ⟨hb4, hres⟩
          have hext : (s.extract 0 (numPre s.data.toList).length).data.toList = numPre s.data.toList := HE.out
          rw [hext] at hres
          have HB4 := hid ((hb4.block b hlt).trans HB.out)
          have hg4 := only_of_below hb4 (some b)
          have c0' : w4.cell? ⟨b, 0, none⟩ = some (.string s) := by rw [Lib.cell_of_heap HB4.out]; rfl
          rcases hres with ⟨v, hv, rfl⟩ | ⟨hv, x, t, p, rfl⟩
          · have hI : I64 v := Lib.atoiAll_bounds hv
            by_cases heq : Lib.itoa v = numPre s.data.toList
            · have HF : Hid (numF s.data.toList = some (v, s.data.toList.drop (numPre s.data.toList).length)) := hid (by unfold numF; rw [hv]; simp [heq])
              have HQ := hid heq
              have hq2 : (⟨(Lib.itoa v).toArray⟩ : ByteArray) = s.extract 0 (numPre s.data.toList).length := byteArray_ext (by rw [hext, ← heq])
              have HQ2 := hid hq2
              clear heq hv hext hq2
              go_wp2_with fail
              obtain ⟨ι, W, ⟨i0, hi0⟩, hW, Wsur⟩ := held_class w4.drew (fun g => g = b)
              have hne : Nonempty ι := ⟨i0⟩
              have g0 : ∀ i, (W i).cell? ⟨b, 0, none⟩ = some (.string s) := fun i => by rw [Lib.cell_of_heap ((hW i b rfl).trans HB4.out)]; rfl
              have WS := hid Wsur; clear Wsur
              have HW := hid hW; clear hW
              have Hi0 := hid hi0; clear hi0
              refine region_anyL (S := fun w' => ∃ i, w' = W i) (last := 13) (by kernel_rfl) ?_
              refine anyL_seg 0 4 (by kernel_rfl) (fun _ _ _ _ _ h => h) ⟨i0, Hi0.out.symm⟩ (f := 9) rfl (by kernel_rfl) (by kernel_rfl) ?_
              simp only [List.drop_zero, List.take_succ_cons, List.take_zero]
              repeat go_big_quiet_step (fail)
              refine wpQuiet_nil ?_
              refine anyL_seg 5 6 (by kernel_rfl) (fun _ _ _ _ _ h => h) ⟨i0, Hi0.out.symm⟩ (f := 3) rfl (by kernel_rfl) (by kernel_rfl) ?_
              simp only [List.drop_succ_cons, List.drop_zero, List.take_succ_cons, List.take_zero]
              repeat go_big_quiet_step (fail)
              refine wpQuiet_nil ?_
              refine anyL_actG (i := 4) (by kernel_rfl) rfl (by rfl) ?_
              intro K hK
              go_wp2_with fail
              refine (Itoa_calls v hI _ (HV.out.on (Below.drew (hb4.mono (by omega))))).mono ?_
              rintro e w5 ⟨rfl, hb5⟩
              go_wp2_with fail
              have HB5 := hid ((hb5.block b (Nat.lt_of_lt_of_le hlt hb4.size)).trans HB4.out)
              have hS3 : ∃ i, w5 = W i := WS.out w5 (fun g hg => by subst hg; exact HB5.out.trans HB4.out.symm)
              refine hK.out _ _ (fun _ => hS3) ?_
              clear hK K
              rw [HQ2.out]
              refine anyL_seg 11 2 (by kernel_rfl) (fun _ _ _ _ _ h => h) hS3 (f := 0) rfl (by kernel_rfl) (by kernel_rfl) ?_
              simp only [List.drop_succ_cons, List.drop_zero, List.take_succ_cons, List.take_zero]
              repeat go_big_quiet_step (fail)
              refine wpQuiet_nil ?_
              refine anyL_done (by kernel_rfl) ?_ _
              have hg5 := only_trans hg4 (only_trans (only_drew (World.grownBy.refl w4 _)) (only_of_below hb5 (some b)))
              have c0'' : w5.cell? ⟨b, 0, none⟩ = some (.string s) := by rw [Lib.cell_of_heap HB5.out]; rfl
              have f0 : w5.frozen? ⟨b, 0, none⟩ = false := Lib.frozen_of_heap HB5.out 0
              clear hS3 g0 WS HW Hi0 hne i0 W ι c0'
              go_wp2_with fail
              go_ret
              refine post_ok HF.out (only_setCell hg5 (.inl rfl) _) (heap_set _ b 0 _ HB5.out) ?_ ?_
              · rw [Lib.extract_to_end]
              · rw [ByteArray.size_extract]; omega
            · have HF : Hid (numF s.data.toList = none) := hid (by unfold numF; rw [hv]; simp [heq])
              have hq0 : ¬ (⟨(Lib.itoa v).toArray⟩ : ByteArray).toList = (s.extract 0 (numPre s.data.toList).length).toList := fun h => heq (by rw [ByteArray.toList_eq, ByteArray.toList_eq, hext] at h; exact h)
              have hq1 : (Lib.itoa v == (s.extract 0 (numPre s.data.toList).length).toList) = false := by
                rw [ByteArray.toList_eq, hext]; simpa using heq
              have HQ0 := hid hq0
              have HEQ := hid heq
              clear heq hv hext
              go_wp2_with fail
              obtain ⟨ι, W, ⟨i0, hi0⟩, hW, Wsur⟩ := held_class w4.drew (fun g => g = b)
              have hne : Nonempty ι := ⟨i0⟩
              have g0 : ∀ i, (W i).cell? ⟨b, 0, none⟩ = some (.string s) := fun i => by rw [Lib.cell_of_heap ((hW i b rfl).trans HB4.out)]; rfl
              have WS := hid Wsur; clear Wsur
              have HW := hid hW; clear hW
              have Hi0 := hid hi0; clear hi0
              refine region_anyL (S := fun w' => ∃ i, w' = W i) (last := 13) (by kernel_rfl) ?_
              refine anyL_seg 0 4 (by kernel_rfl) (fun _ _ _ _ _ h => h) ⟨i0, Hi0.out.symm⟩ (f := 9) rfl (by kernel_rfl) (by kernel_rfl) ?_
              simp only [List.drop_zero, List.take_succ_cons, List.take_zero]
              repeat go_big_quiet_step (fail)
              refine wpQuiet_nil ?_
              refine anyL_seg 5 6 (by kernel_rfl) (fun _ _ _ _ _ h => h) ⟨i0, Hi0.out.symm⟩ (f := 3) rfl (by kernel_rfl) (by kernel_rfl) ?_
              simp only [List.drop_succ_cons, List.drop_zero, List.take_succ_cons, List.take_zero]
              repeat go_big_quiet_step (fail)
              refine wpQuiet_nil ?_
              refine anyL_actG (i := 4) (by kernel_rfl) rfl (by rfl) ?_
              intro K hK
              go_wp2_with fail
              refine (Itoa_calls v hI _ (HV.out.on (Below.drew (hb4.mono (by omega))))).mono ?_
              rintro e w5 ⟨rfl, hb5⟩
              go_wp2_with fail
              have HB5 := hid ((hb5.block b (Nat.lt_of_lt_of_le hlt hb4.size)).trans HB4.out)
              have hS3 : ∃ i, w5 = W i := WS.out w5 (fun g hg => by subst hg; exact HB5.out.trans HB4.out.symm)
              refine hK.out _ _ (fun _ => hS3) ?_
              clear hK K
              refine anyL_seg 11 2 (by kernel_rfl) (fun _ _ _ _ _ h => h) hS3 (f := 0) rfl (by kernel_rfl) (by kernel_rfl) ?_
              simp only [List.drop_succ_cons, List.drop_zero, List.take_succ_cons, List.take_zero]
              repeat go_big_quiet_step (fail)
              refine wpQuiet_nil ?_
              refine anyL_done (by kernel_rfl) ?_ _
              have hg5 := only_trans hg4 (only_trans (only_drew (World.grownBy.refl w4 _)) (only_of_below hb5 (some b)))
              clear hS3 g0 WS HW Hi0 hne i0 W ι c0'
              have f1 : w5.frozen? ⟨b, 1, none⟩ = false := Lib.frozen_of_heap HB5.out 1
              have c1' : w5.cell? ⟨b, 1, none⟩ = some (.bool bad) := by rw [Lib.cell_of_heap HB5.out]; rfl
              go_wp2_with fail
              go_ret
              exact post_bad HF.out (only_setCell hg5 (.inl rfl) _) (heap_set _ b 1 _ HB5.out)
          · have HF : Hid (numF s.data.toList = none) := hid (by
              unfold numF
              cases hq : Lib.atoiAll (numPre s.data.toList) with
              | ok y => exact absurd hq (hv y)
              | _ => rfl)
            clear hv hext
            go_wp2_with fail
            obtain ⟨ι, W, ⟨i0, hi0⟩, hW, Wsur⟩ := held_class w4.drew (fun g => g = b)
            have hne : Nonempty ι := ⟨i0⟩
            have g0 : ∀ i, (W i).cell? ⟨b, 0, none⟩ = some (.string s) := fun i => by rw [Lib.cell_of_heap ((hW i b rfl).trans HB4.out)]; rfl
            have WS := hid Wsur; clear Wsur
            have HW := hid hW; clear hW
            have Hi0 := hid hi0; clear hi0
            refine region_anyL (S := fun w' => ∃ i, w' = W i) (last := 13) (by kernel_rfl) ?_
            refine anyL_seg 0 4 (by kernel_rfl) (fun _ _ _ _ _ h => h) ⟨i0, Hi0.out.symm⟩ (f := 9) rfl (by kernel_rfl) (by kernel_rfl) ?_
            simp only [List.drop_zero, List.take_succ_cons, List.take_zero]
            repeat go_big_quiet_step (fail)
            refine wpQuiet_nil ?_
            refine anyL_seg 5 6 (by kernel_rfl) (fun _ _ _ _ _ h => h) ⟨i0, Hi0.out.symm⟩ (f := 3) rfl (by kernel_rfl) (by kernel_rfl) ?_
            simp only [List.drop_succ_cons, List.drop_zero, List.take_succ_cons, List.take_zero]
            repeat go_big_quiet_step (fail)
            refine wpQuiet_nil ?_
            refine anyL_skipD (i := 4) (by kernel_rfl) rfl (by rfl) (by rfl) ⟨i0, Hi0.out.symm⟩ ?_
            refine anyL_seg 11 2 (by kernel_rfl) (fun _ _ _ _ _ h => h) ⟨i0, Hi0.out.symm⟩ (f := 0) rfl (by kernel_rfl) (by kernel_rfl) ?_
            simp only [List.drop_succ_cons, List.drop_zero, List.take_succ_cons, List.take_zero]
            repeat go_big_quiet_step (fail)
            refine wpQuiet_nil ?_
            refine anyL_done (by kernel_rfl) ?_ _
            have hg5 : w.grownBy w4.drew (some b) := only_drew hg4
            have HB5 : Hid (w4.drew.heap[b]? = _) := HB4
            clear g0 WS HW Hi0 hne i0 W ι c0'
            have f1 : w4.frozen? ⟨b, 1, none⟩ = false := Lib.frozen_of_heap HB4.out 1
            have c1' : w4.cell? ⟨b, 1, none⟩ = some (.bool bad) := by rw [Lib.cell_of_heap HB4.out]; rfl
            go_wp2_with fail
            go_ret
            exact post_bad HF.out (only_setCell hg5 (.inl rfl) _) (heap_set _ b 1 _ HB5.out)
        · have d1 : decide ((48 : Int) ≤ (s[(numPre s.data.toList).length].toNat : Int)) = false := decide_eq_false (by omega)
          have d1' : (s[(numPre s.data.toList).length].toNat : Int) < 48 := by omega
          clear hd q1
          go_wp2_with fail
          refine (Atoi_calls (s.extract 0 (numPre s.data.toList).length) (by rw [ByteArray.size_extract]; omega) _ HV.out).mono ?_
          rintro e w4 ⟨hb4, hres⟩
          have hext : (s.extract 0 (numPre s.data.toList).length).data.toList = numPre s.data.toList := HE.out
          rw [hext] at hres
          have HB4 := hid ((hb4.block b hlt).trans HB.out)
          have hg4 := only_of_below hb4 (some b)
          have c0' : w4.cell? ⟨b, 0, none⟩ = some (.string s) := by rw [Lib.cell_of_heap HB4.out]; rfl
          rcases hres with ⟨v, hv, rfl⟩ | ⟨hv, x, t, p, rfl⟩
          · have hI : I64 v := Lib.atoiAll_bounds hv
            by_cases heq : Lib.itoa v = numPre s.data.toList
            · have HF : Hid (numF s.data.toList = some (v, s.data.toList.drop (numPre s.data.toList).length)) := hid (by unfold numF; rw [hv]; simp [heq])
              have HQ := hid heq
              have hq2 : (⟨(Lib.itoa v).toArray⟩ : ByteArray) = s.extract 0 (numPre s.data.toList).length := byteArray_ext (by rw [hext, ← heq])
              have HQ2 := hid hq2
              clear heq hv hext hq2
              go_wp2_with fail
              obtain ⟨ι, W, ⟨i0, hi0⟩, hW, Wsur⟩ := held_class w4.drew (fun g => g = b)
              have hne : Nonempty ι := ⟨i0⟩
              have g0 : ∀ i, (W i).cell? ⟨b, 0, none⟩ = some (.string s) := fun i => by rw [Lib.cell_of_heap ((hW i b rfl).trans HB4.out)]; rfl
              have WS := hid Wsur; clear Wsur
              have HW := hid hW; clear hW
              have Hi0 := hid hi0; clear hi0
              refine region_anyL (S := fun w' => ∃ i, w' = W i) (last := 13) (by kernel_rfl) ?_
              refine anyL_seg 0 4 (by kernel_rfl) (fun _ _ _ _ _ h => h) ⟨i0, Hi0.out.symm⟩ (f := 9) rfl (by kernel_rfl) (by kernel_rfl) ?_
              simp only [List.drop_zero, List.take_succ_cons, List.take_zero]
              repeat go_big_quiet_step (fail)
              refine wpQuiet_nil ?_
              refine anyL_seg 5 6 (by kernel_rfl) (fun _ _ _ _ _ h => h) ⟨i0, Hi0.out.symm⟩ (f := 3) rfl (by kernel_rfl) (by kernel_rfl) ?_
              simp only [List.drop_succ_cons, List.drop_zero, List.take_succ_cons, List.take_zero]
              repeat go_big_quiet_step (fail)
              refine wpQuiet_nil ?_
              refine anyL_actG (i := 4) (by kernel_rfl) rfl (by rfl) ?_
              intro K hK
              go_wp2_with fail
              refine (Itoa_calls v hI _ (HV.out.on (Below.drew (hb4.mono (by omega))))).mono ?_
              rintro e w5 ⟨rfl, hb5⟩
              go_wp2_with fail
              have HB5 := hid ((hb5.block b (Nat.lt_of_lt_of_le hlt hb4.size)).trans HB4.out)
              have hS3 : ∃ i, w5 = W i := WS.out w5 (fun g hg => by subst hg; exact HB5.out.trans HB4.out.symm)
              refine hK.out _ _ (fun _ => hS3) ?_
              clear hK K
              rw [HQ2.out]
              refine anyL_seg 11 2 (by kernel_rfl) (fun _ _ _ _ _ h => h) hS3 (f := 0) rfl (by kernel_rfl) (by kernel_rfl) ?_
              simp only [List.drop_succ_cons, List.drop_zero, List.take_succ_cons, List.take_zero]
              repeat go_big_quiet_step (fail)
              refine wpQuiet_nil ?_
              refine anyL_done (by kernel_rfl) ?_ _
              have hg5 := only_trans hg4 (only_trans (only_drew (World.grownBy.refl w4 _)) (only_of_below hb5 (some b)))
              have c0'' : w5.cell? ⟨b, 0, none⟩ = some (.string s) := by rw [Lib.cell_of_heap HB5.out]; rfl
              have f0 : w5.frozen? ⟨b, 0, none⟩ = false := Lib.frozen_of_heap HB5.out 0
              clear hS3 g0 WS HW Hi0 hne i0 W ι c0'
              go_wp2_with fail
              go_ret
              refine post_ok HF.out (only_setCell hg5 (.inl rfl) _) (heap_set _ b 0 _ HB5.out) ?_ ?_
              · rw [Lib.extract_to_end]
              · rw [ByteArray.size_extract]; omega
            · have HF : Hid (numF s.data.toList = none) := hid (by unfold numF; rw [hv]; simp [heq])
              have hq0 : ¬ (⟨(Lib.itoa v).toArray⟩ : ByteArray).toList = (s.extract 0 (numPre s.data.toList).length).toList := fun h => heq (by rw [ByteArray.toList_eq, ByteArray.toList_eq, hext] at h; exact h)
              have hq1 : (Lib.itoa v == (s.extract 0 (numPre s.data.toList).length).toList) = false := by
                rw [ByteArray.toList_eq, hext]; simpa using heq
              have HQ0 := hid hq0
              have HEQ := hid heq
              clear heq hv hext
              go_wp2_with fail
              obtain ⟨ι, W, ⟨i0, hi0⟩, hW, Wsur⟩ := held_class w4.drew (fun g => g = b)
              have hne : Nonempty ι := ⟨i0⟩
              have g0 : ∀ i, (W i).cell? ⟨b, 0, none⟩ = some (.string s) := fun i => by rw [Lib.cell_of_heap ((hW i b rfl).trans HB4.out)]; rfl
              have WS := hid Wsur; clear Wsur
              have HW := hid hW; clear hW
              have Hi0 := hid hi0; clear hi0
              refine region_anyL (S := fun w' => ∃ i, w' = W i) (last := 13) (by kernel_rfl) ?_
              refine anyL_seg 0 4 (by kernel_rfl) (fun _ _ _ _ _ h => h) ⟨i0, Hi0.out.symm⟩ (f := 9) rfl (by kernel_rfl) (by kernel_rfl) ?_
              simp only [List.drop_zero, List.take_succ_cons, List.take_zero]
              repeat go_big_quiet_step (fail)
              refine wpQuiet_nil ?_
              refine anyL_seg 5 6 (by kernel_rfl) (fun _ _ _ _ _ h => h) ⟨i0, Hi0.out.symm⟩ (f := 3) rfl (by kernel_rfl) (by kernel_rfl) ?_
              simp only [List.drop_succ_cons, List.drop_zero, List.take_succ_cons, List.take_zero]
              repeat go_big_quiet_step (fail)
              refine wpQuiet_nil ?_
              refine anyL_actG (i := 4) (by kernel_rfl) rfl (by rfl) ?_
              intro K hK
              go_wp2_with fail
              refine (Itoa_calls v hI _ (HV.out.on (Below.drew (hb4.mono (by omega))))).mono ?_
              rintro e w5 ⟨rfl, hb5⟩
              go_wp2_with fail
              have HB5 := hid ((hb5.block b (Nat.lt_of_lt_of_le hlt hb4.size)).trans HB4.out)
              have hS3 : ∃ i, w5 = W i := WS.out w5 (fun g hg => by subst hg; exact HB5.out.trans HB4.out.symm)
              refine hK.out _ _ (fun _ => hS3) ?_
              clear hK K
              refine anyL_seg 11 2 (by kernel_rfl) (fun _ _ _ _ _ h => h) hS3 (f := 0) rfl (by kernel_rfl) (by kernel_rfl) ?_
              simp only [List.drop_succ_cons, List.drop_zero, List.take_succ_cons, List.take_zero]
              repeat go_big_quiet_step (fail)
              refine wpQuiet_nil ?_
              refine anyL_done (by kernel_rfl) ?_ _
              have hg5 := only_trans hg4 (only_trans (only_drew (World.grownBy.refl w4 _)) (only_of_below hb5 (some b)))
              clear hS3 g0 WS HW Hi0 hne i0 W ι c0'
              have f1 : w5.frozen? ⟨b, 1, none⟩ = false := Lib.frozen_of_heap HB5.out 1
              have c1' : w5.cell? ⟨b, 1, none⟩ = some (.bool bad) := by rw [Lib.cell_of_heap HB5.out]; rfl
              go_wp2_with fail
              go_ret
              exact post_bad HF.out (only_setCell hg5 (.inl rfl) _) (heap_set _ b 1 _ HB5.out)
          · have HF : Hid (numF s.data.toList = none) := hid (by
              unfold numF
              cases hq : Lib.atoiAll (numPre s.data.toList) with
              | ok y => exact absurd hq (hv y)
              | _ => rfl)
            clear hv hext
            go_wp2_with fail
            obtain ⟨ι, W, ⟨i0, hi0⟩, hW, Wsur⟩ := held_class w4.drew (fun g => g = b)
            have hne : Nonempty ι := ⟨i0⟩
            have g0 : ∀ i, (W i).cell? ⟨b, 0, none⟩ = some (.string s) := fun i => by rw [Lib.cell_of_heap ((hW i b rfl).trans HB4.out)]; rfl
            have WS := hid Wsur; clear Wsur
            have HW := hid hW; clear hW
            have Hi0 := hid hi0; clear hi0
            refine region_anyL (S := fun w' => ∃ i, w' = W i) (last := 13) (by kernel_rfl) ?_
            refine anyL_seg 0 4 (by kernel_rfl) (fun _ _ _ _ _ h => h) ⟨i0, Hi0.out.symm⟩ (f := 9) rfl (by kernel_rfl) (by kernel_rfl) ?_
            simp only [List.drop_zero, List.take_succ_cons, List.take_zero]
            repeat go_big_quiet_step (fail)
            refine wpQuiet_nil ?_
            refine anyL_seg 5 6 (by kernel_rfl) (fun _ _ _ _ _ h => h) ⟨i0, Hi0.out.symm⟩ (f := 3) rfl (by kernel_rfl) (by kernel_rfl) ?_
            simp only [List.drop_succ_cons, List.drop_zero, List.take_succ_cons, List.take_zero]
            repeat go_big_quiet_step (fail)
            refine wpQuiet_nil ?_
            refine anyL_skipD (i := 4) (by kernel_rfl) rfl (by rfl) (by rfl) ⟨i0, Hi0.out.symm⟩ ?_
            refine anyL_seg 11 2 (by kernel_rfl) (fun _ _ _ _ _ h => h) ⟨i0, Hi0.out.symm⟩ (f := 0) rfl (by kernel_rfl) (by kernel_rfl) ?_
            simp only [List.drop_succ_cons, List.drop_zero, List.take_succ_cons, List.take_zero]
            repeat go_big_quiet_step (fail)
            refine wpQuiet_nil ?_
            refine anyL_done (by kernel_rfl) ?_ _
            have hg5 : w.grownBy w4.drew (some b) := only_drew hg4
            have HB5 : Hid (w4.drew.heap[b]? = _) := HB4
            clear g0 WS HW Hi0 hne i0 W ι c0'
            have f1 : w4.frozen? ⟨b, 1, none⟩ = false := Lib.frozen_of_heap HB4.out 1
            have c1' : w4.cell? ⟨b, 1, none⟩ = some (.bool bad) := by rw [Lib.cell_of_heap HB4.out]; rfl
            go_wp2_with fail
            go_ret
            exact post_bad HF.out (only_setCell hg5 (.inl rfl) _) (heap_set _ b 1 _ HB5.out)
    · obtain rfl : k = (numPre s.data.toList).length := by omega
      have hks' : ¬ ((numPre s.data.toList).length : Int) < s.size := by omega
      have hks'' : decide ((numPre s.data.toList).length < s.size) = false := by simp; omega
      go_wp2_with fail
      refine (Atoi_calls (s.extract 0 (numPre s.data.toList).length) (by rw [ByteArray.size_extract]; omega) _ HV.out).mono ?_
      rintro e w4 ⟨hb4, hres⟩
      have hext : (s.extract 0 (numPre s.data.toList).length).data.toList = numPre s.data.toList := HE.out
      rw [hext] at hres
      have HB4 := hid ((hb4.block b hlt).trans HB.out)
      have hg4 := only_of_below hb4 (some b)
      have c0' : w4.cell? ⟨b, 0, none⟩ = some (.string s) := by rw [Lib.cell_of_heap HB4.out]; rfl
      rcases hres with ⟨v, hv, rfl⟩ | ⟨hv, x, t, p, rfl⟩
      · have hI : I64 v := Lib.atoiAll_bounds hv
        by_cases heq : Lib.itoa v = numPre s.data.toList
        · have HF : Hid (numF s.data.toList = some (v, s.data.toList.drop (numPre s.data.toList).length)) := hid (by unfold numF; rw [hv]; simp [heq])
          have HQ := hid heq
          have hq2 : (⟨(Lib.itoa v).toArray⟩ : ByteArray) = s.extract 0 (numPre s.data.toList).length := byteArray_ext (by rw [hext, ← heq])
          have HQ2 := hid hq2
          clear heq hv hext hq2
          go_wp2_with fail
          obtain ⟨ι, W, ⟨i0, hi0⟩, hW, Wsur⟩ := held_class w4.drew (fun g => g = b)
          have hne : Nonempty ι := ⟨i0⟩
          have g0 : ∀ i, (W i).cell? ⟨b, 0, none⟩ = some (.string s) := fun i => by rw [Lib.cell_of_heap ((hW i b rfl).trans HB4.out)]; rfl
          have WS := hid Wsur; clear Wsur
          have HW := hid hW; clear hW
          have Hi0 := hid hi0; clear hi0
          refine region_anyL (S := fun w' => ∃ i, w' = W i) (last := 13) (by kernel_rfl) ?_
          refine anyL_seg 0 4 (by kernel_rfl) (fun _ _ _ _ _ h => h) ⟨i0, Hi0.out.symm⟩ (f := 9) rfl (by kernel_rfl) (by kernel_rfl) ?_
          simp only [List.drop_zero, List.take_succ_cons, List.take_zero]
          repeat go_big_quiet_step (fail)
          refine wpQuiet_nil ?_
          refine anyL_seg 5 6 (by kernel_rfl) (fun _ _ _ _ _ h => h) ⟨i0, Hi0.out.symm⟩ (f := 3) rfl (by kernel_rfl) (by kernel_rfl) ?_
          simp only [List.drop_succ_cons, List.drop_zero, List.take_succ_cons, List.take_zero]
          repeat go_big_quiet_step (fail)
          refine wpQuiet_nil ?_
          refine anyL_actG (i := 4) (by kernel_rfl) rfl (by rfl) ?_
          intro K hK
          go_wp2_with fail
          refine (Itoa_calls v hI _ (HV.out.on (Below.drew (hb4.mono (by omega))))).mono ?_
          rintro e w5 ⟨rfl, hb5⟩
          go_wp2_with fail
          have HB5 := hid ((hb5.block b (Nat.lt_of_lt_of_le hlt hb4.size)).trans HB4.out)
          have hS3 : ∃ i, w5 = W i := WS.out w5 (fun g hg => by subst hg; exact HB5.out.trans HB4.out.symm)
          refine hK.out _ _ (fun _ => hS3) ?_
          clear hK K
          rw [HQ2.out]
          refine anyL_seg 11 2 (by kernel_rfl) (fun _ _ _ _ _ h => h) hS3 (f := 0) rfl (by kernel_rfl) (by kernel_rfl) ?_
          simp only [List.drop_succ_cons, List.drop_zero, List.take_succ_cons, List.take_zero]
          repeat go_big_quiet_step (fail)
          refine wpQuiet_nil ?_
          refine anyL_done (by kernel_rfl) ?_ _
          have hg5 := only_trans hg4 (only_trans (only_drew (World.grownBy.refl w4 _)) (only_of_below hb5 (some b)))
          have c0'' : w5.cell? ⟨b, 0, none⟩ = some (.string s) := by rw [Lib.cell_of_heap HB5.out]; rfl
          have f0 : w5.frozen? ⟨b, 0, none⟩ = false := Lib.frozen_of_heap HB5.out 0
          clear hS3 g0 WS HW Hi0 hne i0 W ι c0'
          go_wp2_with fail
          go_ret
          refine post_ok HF.out (only_setCell hg5 (.inl rfl) _) (heap_set _ b 0 _ HB5.out) ?_ ?_
          · rw [Lib.extract_to_end]
          · rw [ByteArray.size_extract]; omega
        · have HF : Hid (numF s.data.toList = none) := hid (by unfold numF; rw [hv]; simp [heq])
          have hq0 : ¬ (⟨(Lib.itoa v).toArray⟩ : ByteArray).toList = (s.extract 0 (numPre s.data.toList).length).toList := fun h => heq (by rw [ByteArray.toList_eq, ByteArray.toList_eq, hext] at h; exact h)
          have hq1 : (Lib.itoa v == (s.extract 0 (numPre s.data.toList).length).toList) = false := by
            rw [ByteArray.toList_eq, hext]; simpa using heq
          have HQ0 := hid hq0
          have HEQ := hid heq
          clear heq hv hext
          go_wp2_with fail
          obtain ⟨ι, W, ⟨i0, hi0⟩, hW, Wsur⟩ := held_class w4.drew (fun g => g = b)
          have hne : Nonempty ι := ⟨i0⟩
          have g0 : ∀ i, (W i).cell? ⟨b, 0, none⟩ = some (.string s) := fun i => by rw [Lib.cell_of_heap ((hW i b rfl).trans HB4.out)]; rfl
          have WS := hid Wsur; clear Wsur
          have HW := hid hW; clear hW
          have Hi0 := hid hi0; clear hi0
          refine region_anyL (S := fun w' => ∃ i, w' = W i) (last := 13) (by kernel_rfl) ?_
          refine anyL_seg 0 4 (by kernel_rfl) (fun _ _ _ _ _ h => h) ⟨i0, Hi0.out.symm⟩ (f := 9) rfl (by kernel_rfl) (by kernel_rfl) ?_
          simp only [List.drop_zero, List.take_succ_cons, List.take_zero]
          repeat go_big_quiet_step (fail)
          refine wpQuiet_nil ?_
          refine anyL_seg 5 6 (by kernel_rfl) (fun _ _ _ _ _ h => h) ⟨i0, Hi0.out.symm⟩ (f := 3) rfl (by kernel_rfl) (by kernel_rfl) ?_
          simp only [List.drop_succ_cons, List.drop_zero, List.take_succ_cons, List.take_zero]
          repeat go_big_quiet_step (fail)
          refine wpQuiet_nil ?_
          refine anyL_actG (i := 4) (by kernel_rfl) rfl (by rfl) ?_
          intro K hK
          go_wp2_with fail
          refine (Itoa_calls v hI _ (HV.out.on (Below.drew (hb4.mono (by omega))))).mono ?_
          rintro e w5 ⟨rfl, hb5⟩
          go_wp2_with fail
          have HB5 := hid ((hb5.block b (Nat.lt_of_lt_of_le hlt hb4.size)).trans HB4.out)
          have hS3 : ∃ i, w5 = W i := WS.out w5 (fun g hg => by subst hg; exact HB5.out.trans HB4.out.symm)
          refine hK.out _ _ (fun _ => hS3) ?_
          clear hK K
          refine anyL_seg 11 2 (by kernel_rfl) (fun _ _ _ _ _ h => h) hS3 (f := 0) rfl (by kernel_rfl) (by kernel_rfl) ?_
          simp only [List.drop_succ_cons, List.drop_zero, List.take_succ_cons, List.take_zero]
          repeat go_big_quiet_step (fail)
          refine wpQuiet_nil ?_
          refine anyL_done (by kernel_rfl) ?_ _
          have hg5 := only_trans hg4 (only_trans (only_drew (World.grownBy.refl w4 _)) (only_of_below hb5 (some b)))
          clear hS3 g0 WS HW Hi0 hne i0 W ι c0'
          have f1 : w5.frozen? ⟨b, 1, none⟩ = false := Lib.frozen_of_heap HB5.out 1
          have c1' : w5.cell? ⟨b, 1, none⟩ = some (.bool bad) := by rw [Lib.cell_of_heap HB5.out]; rfl
          go_wp2_with fail
          go_ret
          exact post_bad HF.out (only_setCell hg5 (.inl rfl) _) (heap_set _ b 1 _ HB5.out)
      · have HF : Hid (numF s.data.toList = none) := hid (by
          unfold numF
          cases hq : Lib.atoiAll (numPre s.data.toList) with
          | ok y => exact absurd hq (hv y)
          | _ => rfl)
        clear hv hext
        go_wp2_with fail
        obtain ⟨ι, W, ⟨i0, hi0⟩, hW, Wsur⟩ := held_class w4.drew (fun g => g = b)
        have hne : Nonempty ι := ⟨i0⟩
        have g0 : ∀ i, (W i).cell? ⟨b, 0, none⟩ = some (.string s) := fun i => by rw [Lib.cell_of_heap ((hW i b rfl).trans HB4.out)]; rfl
        have WS := hid Wsur; clear Wsur
        have HW := hid hW; clear hW
        have Hi0 := hid hi0; clear hi0
        refine region_anyL (S := fun w' => ∃ i, w' = W i) (last := 13) (by kernel_rfl) ?_
        refine anyL_seg 0 4 (by kernel_rfl) (fun _ _ _ _ _ h => h) ⟨i0, Hi0.out.symm⟩ (f := 9) rfl (by kernel_rfl) (by kernel_rfl) ?_
        simp only [List.drop_zero, List.take_succ_cons, List.take_zero]
        repeat go_big_quiet_step (fail)
        refine wpQuiet_nil ?_
        refine anyL_seg 5 6 (by kernel_rfl) (fun _ _ _ _ _ h => h) ⟨i0, Hi0.out.symm⟩ (f := 3) rfl (by kernel_rfl) (by kernel_rfl) ?_
        simp only [List.drop_succ_cons, List.drop_zero, List.take_succ_cons, List.take_zero]
        repeat go_big_quiet_step (fail)
        refine wpQuiet_nil ?_
        refine anyL_skipD (i := 4) (by kernel_rfl) rfl (by rfl) (by rfl) ⟨i0, Hi0.out.symm⟩ ?_
        refine anyL_seg 11 2 (by kernel_rfl) (fun _ _ _ _ _ h => h) ⟨i0, Hi0.out.symm⟩ (f := 0) rfl (by kernel_rfl) (by kernel_rfl) ?_
        simp only [List.drop_succ_cons, List.drop_zero, List.take_succ_cons, List.take_zero]
        repeat go_big_quiet_step (fail)
        refine wpQuiet_nil ?_
        refine anyL_done (by kernel_rfl) ?_ _
        have hg5 : w.grownBy w4.drew (some b) := only_drew hg4
        have HB5 : Hid (w4.drew.heap[b]? = _) := HB4
        clear g0 WS HW Hi0 hne i0 W ι c0'
        have f1 : w4.frozen? ⟨b, 1, none⟩ = false := Lib.frozen_of_heap HB4.out 1
        have c1' : w4.cell? ⟨b, 1, none⟩ = some (.bool bad) := by rw [Lib.cell_of_heap HB4.out]; rfl
        go_wp2_with fail
        go_ret
        exact post_bad HF.out (only_setCell hg5 (.inl rfl) _) (heap_set _ b 1 _ HB5.out)

end Go.Proofs.YtcdnkmefcldfmaaDoor
