/-
  The reference's number.
-/
import Derived.Test.YtcdnkmefcldfmaaDoorPgQa
namespace Go.Proofs.YtcdnkmefcldfmaaDoor
open Go.RowKit Go.Um

def RNumPost (s : ByteArray) (i : Nat) (w : World) (e : Ending) (w' : World) : Prop := Below w.heap.size w w' ∧ ∃ (x : Int) (k : Nat) (ok : Bool) (st : Option By), e = .returned (.tuple #[.int .i64 x, .int .i64 k, .bool ok]) ∧ I64 x ∧ Fin st (numF (rest s i)) x ∧ AtS s k ok st
theorem rnum_bad {s : ByteArray} {i k : Nat} {x : Int} {w w' : World} (h : numF (rest s i) = none) (hI : I64 x) (hk : k ≤ s.size) (hb : Below w.heap.size w w') : RNumPost s i w (.returned (.tuple #[.int .i64 x, .int .i64 k, .bool false])) w' :=
  ⟨hb, x, k, false, none, rfl, hI, .inr ⟨rfl, h⟩, hk, rfl, fun r hr => by cases hr⟩
theorem rnum_good {s : ByteArray} {i k : Nat} {x : Int} {w w' : World} (h : numF (rest s i) = some (x, rest s k)) (hI : I64 x) (hk : k ≤ s.size) (hb : Below w.heap.size w w') : RNumPost s i w (.returned (.tuple #[.int .i64 x, .int .i64 k, .bool true])) w' :=
  ⟨hb, x, k, true, some (rest s k), rfl, hI, .inl ⟨_, rfl, h⟩, AtS.here hk⟩
theorem rest_get {s : ByteArray} {i j : Nat} (h : i + j < s.size) : (rest s i)[j]? = some s[i + j] := by
  unfold rest
  rw [List.getElem?_drop, List.getElem?_eq_getElem (by rw [sizeQ]; exact h)]
  rfl
theorem rest_len (s : ByteArray) (i : Nat) : (rest s i).length = s.size - i := by rw [rest, List.length_drop, sizeQ]
theorem rest_take (s : ByteArray) (i n : Nat) : (s.extract i (i + n)).data.toList = (rest s i).take n := by rw [Lib.extract_data, Nat.add_sub_cancel_left]; rfl
theorem rest_rest (s : ByteArray) (i n : Nat) : (rest s i).drop n = rest s (i + n) := by unfold rest; rw [List.drop_drop]

theorem tmod_gt10 (a : Int) : -10 < a.tmod 10 := by
  have := Int.tmod_lt_of_pos (-a) (show (0 : Int) < 10 by decide)
  rw [Int.neg_tmod] at this
  omega
theorem tmod_neg10 {a : Int} (h : a ≤ 0) : a.tmod 10 ≤ 0 := by
  have := Int.tmod_nonneg 10 (show (0 : Int) ≤ -a by omega)
  rw [Int.neg_tmod] at this
  omega

set_option maxHeartbeats 4000000 in
set_option maxRecDepth 100000 in
theorem rnumber_neg (s : ByteArray) (i : Nat) (hi : i ≤ s.size) (hs : s.size ≤ 65536) (hlt : i < s.size) (h45 : s[i] = 45) (w : World) :
    Calls Tryd.prog 50 #[.string s, .int .i64 i] w (RNumPost s i w) := by
  obtain ⟨D, hD⟩ : ∃ D, D = digs (rest s i) := ⟨_, rfl⟩
  have hm : numLo2 (rest s i) = 1 := by
    unfold numLo2
    rw [show (rest s i)[0]? = some s[i] from rest_get (j := 0) (by omega), h45]; rfl
  obtain ⟨hd1, hd2, hd3⟩ := digs_at (rest s i)
  rw [rest_len] at hd3
  rw [← hD, hm] at hd1 hd2 hd3
  have H1 : Hid (∀ k j (_ : k = i + 1 + j) (h : k < s.size), j < D.length → D[j]? = some s[k] ∧ dig s[k] = true) := hid (by
    intro k j hk h hj
    subst hk
    exact hd1 j _ hj (by rw [rest_get (by omega)]; simp [Nat.add_assoc]))
  have H2 : Hid (∀ k (_ : k = i + 1 + D.length) (h : k < s.size), dig s[k] = false) := hid (by
    intro k hk h
    subst hk
    exact hd2 _ (by rw [rest_get (by omega)]; simp [Nat.add_assoc]))
  have HBIG : Hid (∀ j, 9223372036854775808 < valD 0 (D.take j) → numF (rest s i) = none) := hid (fun j h => numF_big (j := j) (by rw [← hD]; exact h))
  have HEDGE : Hid (∀ j, valD 0 (D.take j) = 9223372036854775808 → 1 = 0 → numF (rest s i) = none) := hid (fun j h h0 => numF_edge (j := j) (by rw [← hD]; exact h) (by omega))
  have HOWN : Hid (∀ (j : Nat) (x : Int), (j = D.length ∨ (j = 20 ∧ 20 ≤ D.length)) → x = (if 1 = 1 then -(valD 0 (D.take j) : Int) else (valD 0 (D.take j) : Int)) → I64 x →
      (0 < j ∧ (rest s i).take (1 + j) = Lib.itoa x → numF (rest s i) = some (x, rest s (i + (1 + j)))) ∧ (¬ (0 < j ∧ (rest s i).take (1 + j) = Lib.itoa x) → numF (rest s i) = none)) := hid (by
    intro j x h1 h2 h3
    have := numF_own (l := rest s i) (j := j) (x := x) (by rw [← hD]; exact h1) (by rw [← hD, hm]; exact h2) h3
    rw [hm, rest_rest] at this
    exact this)
  clear hd1 hd2 hD hm
  have hlt' : (i : Int) < s.size := by omega
  have q1 : s[i].toNat = 45 := by rw [h45]; rfl
  have q2 : (s[i].toNat : Int) = 45 := by omega
  have q3 : ((s[i].toNat : Int) == 45) = true := by simp [q1]
  have q4 : (s[i].toNat == 45) = true := by simp [q1]
  clear h45
  go_enter Tryd.func50, Tryd.ntmps50
  go_wp2_with fail
  go_loop [7, 9] (fun vk vx => ∃ (k j v : Nat), k = i + 1 + j ∧ v = valD 0 (D.take j) ∧ j ≤ D.length ∧ j ≤ 20 ∧ v ≤ 9223372036854775808 ∧ vk = .int .i64 (k : Int) ∧ vx = .int .i64 (-(v : Int))) (fun vk _ => s.size - (intOf vk).toNat)
  case atStart => exact ⟨i + 1, 0, 0, by omega, rfl, by omega, by omega, by omega, by go_num, rfl⟩
  case round =>
    obtain ⟨k, j, v, hk, hvv, hj, hj20, hvle, rfl, rfl⟩ := hrel
    have HVV := hid hvv
    have HK := hid hk
    have hkS : k ≤ s.size := by omega
    have hkl : i + 1 ≤ k := by omega
    clear hvv
    by_cases hks : k < s.size
    · have hks' : (k : Int) < s.size := by omega
      by_cases hkp : j < D.length
      · obtain ⟨hDj, hd⟩ := H1.out k j hk hks hkp
        simp only [dig, Bool.and_eq_true, decide_eq_true_eq] at hd
        obtain ⟨hd1, hd2⟩ := hd
        have HDJ := hid hDj
        clear hDj
        have d1 : (48 : Int) ≤ (s[k].toNat : Int) := by omega
        have d2 : (s[k].toNat : Int) ≤ 57 := by omega
        have d3 : decide (48 ≤ s[k].toNat) = true := by simpa using hd1
        have d4 : decide (s[k].toNat ≤ 57) = true := by simpa using hd2
        by_cases hj2 : j < 20
        · have hj2' : (k : Int) - ((i : Int) + 1) < 20 := by omega
          have HVN : Hid (valD 0 (D.take (j + 1)) = 10 * v + (s[k].toNat - 48)) := hid (by rw [valD_take_succ HDJ.out, ← HVV.out])
          by_cases hov : 9223372036854775808 < 10 * v + (s[k].toNat - 48)
          · have HNO := hid (HBIG.out (j + 1) (by rw [HVN.out]; exact hov))
            have hlt : -(v : Int) < (-9223372036854775808 + ((s[k].toNat : Int) - 48)).tdiv 10 := by
              have := Int.mul_tdiv_add_tmod (-9223372036854775808 + ((s[k].toNat : Int) - 48)) 10
              have h3 := tmod_neg10 (a := -9223372036854775808 + ((s[k].toNat : Int) - 48)) (by omega)
              omega
            clear hd1 hd2 hov hk
            go_wp2_with fail
            go_ret3
            exact rnum_bad HNO.out (I64.of (by decide) (by decide)) hi (Below.refl _ _)
          · have hlt : ¬ -(v : Int) < (-9223372036854775808 + ((s[k].toNat : Int) - 48)).tdiv 10 := by
              have := Int.mul_tdiv_add_tmod (-9223372036854775808 + ((s[k].toNat : Int) - 48)) 10
              have h3 := tmod_gt10 (-9223372036854775808 + ((s[k].toNat : Int) - 48))
              omega
            have b1 : -9223372036854775808 ≤ 10 * -(v : Int) ∧ 10 * -(v : Int) ≤ 9223372036854775807 := by omega
            have b2 : -9223372036854775808 ≤ 10 * -(v : Int) - ((s[k].toNat : Int) - 48) ∧ 10 * -(v : Int) - ((s[k].toNat : Int) - 48) ≤ 9223372036854775807 := by omega
            have HB1 := hid b1
            have HB2 := hid b2
            have HC : Hid (48 ≤ s[k].toNat) := hid hd1
            clear hd1 hd2 hov b1 b2 hk
            go_wp2_with fail
            refine ⟨⟨k + 1, j + 1, 10 * v + (s[k].toNat - 48), by have := HK.out; omega, HVN.out.symm, by omega, by omega, by have := HB2.out; have := HC.out; omega, by go_num, ?_⟩, ?_⟩
            · have := HC.out
              have e1 : wrap64 (wrap64 (10 * -(v : Int)) - ((s[k].toNat : Int) - 48)) = -((10 * v + (s[k].toNat - 48) : Nat) : Int) := by rw [IntWalk.wrap64_in _ HB1.out, IntWalk.wrap64_in _ HB2.out]; omega
              rw [e1]
            · simp [intOf]; omega
        · have hj2' : ¬ (k : Int) - ((i : Int) + 1) < 20 := by omega
          have hend : j = D.length ∨ (j = 20 ∧ 20 ≤ D.length) := .inr ⟨by omega, by omega⟩
          clear hd1 hd2
          have hX : I64 (-(v : Int)) := ⟨by omega, by omega⟩
          have hO := HOWN.out j (-(v : Int)) hend (by rw [← HVV.out]; simp) hX
          have HX := hid hX
          clear hX
          by_cases hj0 : j = 0
          · have HNO := hid (hO.2 (by omega))
            have hjk : ¬ (i : Int) + 1 < k := by omega
            have hjk1 : decide ((i : Int) + 1 < k) = false := decide_eq_false hjk
            have hjk2 : ¬ i + 1 < k := by omega
            have hjk3 : decide (i + 1 < k) = false := decide_eq_false hjk2
            clear hO hk
            go_wp2_with fail
            obtain ⟨ι, W, ⟨i0, hi0⟩, hW, Wsur⟩ := ext_class w.drew
            have hne : Nonempty ι := ⟨i0⟩
            have WS := hid Wsur; clear Wsur
            have HW := hid hW; clear hW
            have Hi0 := hid hi0; clear hi0
            refine region_anyL (S := fun w' => ∃ i, w' = W i) (last := 17) (by kernel_rfl) ?_
            refine anyL_seg 0 11 (by kernel_rfl) (fun _ _ _ _ _ h => h) ⟨i0, Hi0.out.symm⟩ (f := 6) rfl (by kernel_rfl) (by kernel_rfl) ?_
            simp only [List.drop_zero, List.take_succ_cons, List.take_zero]
            repeat go_big_quiet_step (fail)
            refine wpQuiet_nil ?_
            refine anyL_skipD (i := 11) (by kernel_rfl) rfl (by rfl) (by rfl) ⟨i0, Hi0.out.symm⟩ ?_
            refine anyL_seg 12 5 (by kernel_rfl) (fun _ _ _ _ _ h => h) ⟨i0, Hi0.out.symm⟩ (f := 0) rfl (by kernel_rfl) (by kernel_rfl) ?_
            simp only [List.drop_succ_cons, List.drop_zero, List.take_succ_cons, List.take_zero]
            repeat go_big_quiet_step (fail)
            refine wpQuiet_nil ?_
            refine anyL_done (by kernel_rfl) ?_ 0
            go_wp2_with fail
            go_ret3
            exact rnum_bad HNO.out HX.out hkS ((Below.refl _ _).drew)
          · have hjk : (i : Int) + 1 < k := by omega
            have hjk1 : decide ((i : Int) + 1 < k) = true := decide_eq_true hjk
            have hjk2 : i + 1 < k := by omega
            have hjk3 : decide (i + 1 < k) = true := decide_eq_true hjk2
            have hex : (s.extract i k).data.toList = (rest s i).take (1 + j) := by rw [← rest_take, hk, Nat.add_assoc]
            have hkj : k = i + (1 + j) := by omega
            have HKJ := hid hkj
            by_cases he : s.extract i k = bs (Lib.itoa (-(v : Int)))
            · have HYES := hid (hO.1 ⟨by omega, by rw [← hex, he]; rfl⟩)
              have he2 : (s.extract i k).toList = (bs (Lib.itoa (-(v : Int)))).toList := by rw [he]
              have he3 : ((s.extract i k).toList == (bs (Lib.itoa (-(v : Int)))).toList) = true := by rw [he]; simp
              clear hO hex hkj hk
              go_wp2_with fail
              obtain ⟨ι, W, ⟨i0, hi0⟩, hW, Wsur⟩ := ext_class w.drew
              have hne : Nonempty ι := ⟨i0⟩
              have WS := hid Wsur; clear Wsur
              have HW := hid hW; clear hW
              have Hi0 := hid hi0; clear hi0
              refine region_anyL (S := fun w' => ∃ i, w' = W i) (last := 17) (by kernel_rfl) ?_
              refine anyL_seg 0 11 (by kernel_rfl) (fun _ _ _ _ _ h => h) ⟨i0, Hi0.out.symm⟩ (f := 6) rfl (by kernel_rfl) (by kernel_rfl) ?_
              simp only [List.drop_zero, List.take_succ_cons, List.take_zero]
              repeat go_big_quiet_step (fail)
              refine wpQuiet_nil ?_
              refine anyL_actG (i := 11) (by kernel_rfl) rfl (by rfl) ?_
              intro K hK
              go_wp2_with fail
              refine (Number_calls (-(v : Int)) HX.out w.drew).mono ?_
              rintro e w5 ⟨rfl, hb5⟩
              generalize bs (Lib.itoa (-(v : Int))) = nt at *
              go_wp2_with fail
              have hS5 : ∃ i, w5 = W i := WS.out i0 _ (by rw [Hi0.out]; exact hb5)
              refine hK.out _ _ (fun _ => hS5) ?_
              clear hK K
              refine anyL_seg 12 5 (by kernel_rfl) (fun _ _ _ _ _ h => h) hS5 (f := 0) rfl (by kernel_rfl) (by kernel_rfl) ?_
              simp only [List.drop_succ_cons, List.drop_zero, List.take_succ_cons, List.take_zero]
              repeat go_big_quiet_step (fail)
              refine wpQuiet_nil ?_
              refine anyL_done (by kernel_rfl) ?_ 0
              go_wp2_with fail
              go_ret3
              exact rnum_good (by rw [HKJ.out]; exact HYES.out) HX.out hkS ((Below.refl w.heap.size w).drew.trans hb5)
            · have HNO := hid (hO.2 (fun h => he (byteArray_ext (by rw [hex, h.2]; rfl))))
              have he2 : ¬ (s.extract i k).toList = (bs (Lib.itoa (-(v : Int)))).toList := fun h => he (byteArray_ext (by rw [ByteArray.toList_eq, ByteArray.toList_eq] at h; exact h))
              have he3 : ((s.extract i k).toList == (bs (Lib.itoa (-(v : Int)))).toList) = false := by simpa using he2
              clear hO hex hkj hk
              go_wp2_with fail
              obtain ⟨ι, W, ⟨i0, hi0⟩, hW, Wsur⟩ := ext_class w.drew
              have hne : Nonempty ι := ⟨i0⟩
              have WS := hid Wsur; clear Wsur
              have HW := hid hW; clear hW
              have Hi0 := hid hi0; clear hi0
              refine region_anyL (S := fun w' => ∃ i, w' = W i) (last := 17) (by kernel_rfl) ?_
              refine anyL_seg 0 11 (by kernel_rfl) (fun _ _ _ _ _ h => h) ⟨i0, Hi0.out.symm⟩ (f := 6) rfl (by kernel_rfl) (by kernel_rfl) ?_
              simp only [List.drop_zero, List.take_succ_cons, List.take_zero]
              repeat go_big_quiet_step (fail)
              refine wpQuiet_nil ?_
              refine anyL_actG (i := 11) (by kernel_rfl) rfl (by rfl) ?_
              intro K hK
              go_wp2_with fail
              refine (Number_calls (-(v : Int)) HX.out w.drew).mono ?_
              rintro e w5 ⟨rfl, hb5⟩
              generalize bs (Lib.itoa (-(v : Int))) = nt at *
              go_wp2_with fail
              have hS5 : ∃ i, w5 = W i := WS.out i0 _ (by rw [Hi0.out]; exact hb5)
              refine hK.out _ _ (fun _ => hS5) ?_
              clear hK K
              refine anyL_seg 12 5 (by kernel_rfl) (fun _ _ _ _ _ h => h) hS5 (f := 0) rfl (by kernel_rfl) (by kernel_rfl) ?_
              simp only [List.drop_succ_cons, List.drop_zero, List.take_succ_cons, List.take_zero]
              repeat go_big_quiet_step (fail)
              refine wpQuiet_nil ?_
              refine anyL_done (by kernel_rfl) ?_ 0
              go_wp2_with fail
              go_ret3
              exact rnum_bad HNO.out HX.out hkS ((Below.refl w.heap.size w).drew.trans hb5)
      · have hend : j = D.length ∨ (j = 20 ∧ 20 ≤ D.length) := .inl (by omega)
        have hd := H2.out k (by omega) hks
        by_cases q1 : 48 ≤ s[k].toNat
        · have q2 : ¬ s[k].toNat ≤ 57 := by simp [dig, q1] at hd; omega
          have d1 : (48 : Int) ≤ (s[k].toNat : Int) := by omega
          have d2 : decide ((s[k].toNat : Int) ≤ 57) = false := decide_eq_false (by omega)
          have d2' : ¬ (s[k].toNat : Int) ≤ 57 := by omega
          clear hd q1 q2
          have hX : I64 (-(v : Int)) := ⟨by omega, by omega⟩
          have hO := HOWN.out j (-(v : Int)) hend (by rw [← HVV.out]; simp) hX
          have HX := hid hX
          clear hX
          by_cases hj0 : j = 0
          · have HNO := hid (hO.2 (by omega))
            have hjk : ¬ (i : Int) + 1 < k := by omega
            have hjk1 : decide ((i : Int) + 1 < k) = false := decide_eq_false hjk
            have hjk2 : ¬ i + 1 < k := by omega
            have hjk3 : decide (i + 1 < k) = false := decide_eq_false hjk2
            clear hO hk
            go_wp2_with fail
            obtain ⟨ι, W, ⟨i0, hi0⟩, hW, Wsur⟩ := ext_class w.drew
            have hne : Nonempty ι := ⟨i0⟩
            have WS := hid Wsur; clear Wsur
            have HW := hid hW; clear hW
            have Hi0 := hid hi0; clear hi0
            refine region_anyL (S := fun w' => ∃ i, w' = W i) (last := 17) (by kernel_rfl) ?_
            refine anyL_seg 0 11 (by kernel_rfl) (fun _ _ _ _ _ h => h) ⟨i0, Hi0.out.symm⟩ (f := 6) rfl (by kernel_rfl) (by kernel_rfl) ?_
            simp only [List.drop_zero, List.take_succ_cons, List.take_zero]
            repeat go_big_quiet_step (fail)
            refine wpQuiet_nil ?_
            refine anyL_skipD (i := 11) (by kernel_rfl) rfl (by rfl) (by rfl) ⟨i0, Hi0.out.symm⟩ ?_
            refine anyL_seg 12 5 (by kernel_rfl) (fun _ _ _ _ _ h => h) ⟨i0, Hi0.out.symm⟩ (f := 0) rfl (by kernel_rfl) (by kernel_rfl) ?_
            simp only [List.drop_succ_cons, List.drop_zero, List.take_succ_cons, List.take_zero]
            repeat go_big_quiet_step (fail)
            refine wpQuiet_nil ?_
            refine anyL_done (by kernel_rfl) ?_ 0
            go_wp2_with fail
            go_ret3
            exact rnum_bad HNO.out HX.out hkS ((Below.refl _ _).drew)
          · have hjk : (i : Int) + 1 < k := by omega
            have hjk1 : decide ((i : Int) + 1 < k) = true := decide_eq_true hjk
            have hjk2 : i + 1 < k := by omega
            have hjk3 : decide (i + 1 < k) = true := decide_eq_true hjk2
            have hex : (s.extract i k).data.toList = (rest s i).take (1 + j) := by rw [← rest_take, hk, Nat.add_assoc]
            have hkj : k = i + (1 + j) := by omega
            have HKJ := hid hkj
            by_cases he : s.extract i k = bs (Lib.itoa (-(v : Int)))
            · have HYES := hid (hO.1 ⟨by omega, by rw [← hex, he]; rfl⟩)
              have he2 : (s.extract i k).toList = (bs (Lib.itoa (-(v : Int)))).toList := by rw [he]
              have he3 : ((s.extract i k).toList == (bs (Lib.itoa (-(v : Int)))).toList) = true := by rw [he]; simp
              clear hO hex hkj hk
              go_wp2_with fail
              obtain ⟨ι, W, ⟨i0, hi0⟩, hW, Wsur⟩ := ext_class w.drew
              have hne : Nonempty ι := ⟨i0⟩
              have WS := hid Wsur; clear Wsur
              have HW := hid hW; clear hW
              have Hi0 := hid hi0; clear hi0
              refine region_anyL (S := fun w' => ∃ i, w' = W i) (last := 17) (by kernel_rfl) ?_
              refine anyL_seg 0 11 (by kernel_rfl) (fun _ _ _ _ _ h => h) ⟨i0, Hi0.out.symm⟩ (f := 6) rfl (by kernel_rfl) (by kernel_rfl) ?_
              simp only [List.drop_zero, List.take_succ_cons, List.take_zero]
              repeat go_big_quiet_step (fail)
              refine wpQuiet_nil ?_
              refine anyL_actG (i := 11) (by kernel_rfl) rfl (by rfl) ?_
              intro K hK
              go_wp2_with fail
              refine (Number_calls (-(v : Int)) HX.out w.drew).mono ?_
              rintro e w5 ⟨rfl, hb5⟩
              generalize bs (Lib.itoa (-(v : Int))) = nt at *
              go_wp2_with fail
              have hS5 : ∃ i, w5 = W i := WS.out i0 _ (by rw [Hi0.out]; exact hb5)
              refine hK.out _ _ (fun _ => hS5) ?_
              clear hK K
              refine anyL_seg 12 5 (by kernel_rfl) (fun _ _ _ _ _ h => h) hS5 (f := 0) rfl (by kernel_rfl) (by kernel_rfl) ?_
              simp only [List.drop_succ_cons, List.drop_zero, List.take_succ_cons, List.take_zero]
              repeat go_big_quiet_step (fail)
              refine wpQuiet_nil ?_
              refine anyL_done (by kernel_rfl) ?_ 0
              go_wp2_with fail
              go_ret3
              exact rnum_good (by rw [HKJ.out]; exact HYES.out) HX.out hkS ((Below.refl w.heap.size w).drew.trans hb5)
            · have HNO := hid (hO.2 (fun h => he (byteArray_ext (by rw [hex, h.2]; rfl))))
              have he2 : ¬ (s.extract i k).toList = (bs (Lib.itoa (-(v : Int)))).toList := fun h => he (byteArray_ext (by rw [ByteArray.toList_eq, ByteArray.toList_eq] at h; exact h))
              have he3 : ((s.extract i k).toList == (bs (Lib.itoa (-(v : Int)))).toList) = false := by simpa using he2
              clear hO hex hkj hk
              go_wp2_with fail
              obtain ⟨ι, W, ⟨i0, hi0⟩, hW, Wsur⟩ := ext_class w.drew
              have hne : Nonempty ι := ⟨i0⟩
              have WS := hid Wsur; clear Wsur
              have HW := hid hW; clear hW
              have Hi0 := hid hi0; clear hi0
              refine region_anyL (S := fun w' => ∃ i, w' = W i) (last := 17) (by kernel_rfl) ?_
              refine anyL_seg 0 11 (by kernel_rfl) (fun _ _ _ _ _ h => h) ⟨i0, Hi0.out.symm⟩ (f := 6) rfl (by kernel_rfl) (by kernel_rfl) ?_
              simp only [List.drop_zero, List.take_succ_cons, List.take_zero]
              repeat go_big_quiet_step (fail)
              refine wpQuiet_nil ?_
              refine anyL_actG (i := 11) (by kernel_rfl) rfl (by rfl) ?_
              intro K hK
              go_wp2_with fail
              refine (Number_calls (-(v : Int)) HX.out w.drew).mono ?_
              rintro e w5 ⟨rfl, hb5⟩
              generalize bs (Lib.itoa (-(v : Int))) = nt at *
              go_wp2_with fail
              have hS5 : ∃ i, w5 = W i := WS.out i0 _ (by rw [Hi0.out]; exact hb5)
              refine hK.out _ _ (fun _ => hS5) ?_
              clear hK K
              refine anyL_seg 12 5 (by kernel_rfl) (fun _ _ _ _ _ h => h) hS5 (f := 0) rfl (by kernel_rfl) (by kernel_rfl) ?_
              simp only [List.drop_succ_cons, List.drop_zero, List.take_succ_cons, List.take_zero]
              repeat go_big_quiet_step (fail)
              refine wpQuiet_nil ?_
              refine anyL_done (by kernel_rfl) ?_ 0
              go_wp2_with fail
              go_ret3
              exact rnum_bad HNO.out HX.out hkS ((Below.refl w.heap.size w).drew.trans hb5)
        · have d1 : ¬ (48 : Int) ≤ (s[k].toNat : Int) := by omega
          clear hd
          have hX : I64 (-(v : Int)) := ⟨by omega, by omega⟩
          have hO := HOWN.out j (-(v : Int)) hend (by rw [← HVV.out]; simp) hX
          have HX := hid hX
          clear hX
          by_cases hj0 : j = 0
          · have HNO := hid (hO.2 (by omega))
            have hjk : ¬ (i : Int) + 1 < k := by omega
            have hjk1 : decide ((i : Int) + 1 < k) = false := decide_eq_false hjk
            have hjk2 : ¬ i + 1 < k := by omega
            have hjk3 : decide (i + 1 < k) = false := decide_eq_false hjk2
            clear hO hk
            go_wp2_with fail
            obtain ⟨ι, W, ⟨i0, hi0⟩, hW, Wsur⟩ := ext_class w.drew
            have hne : Nonempty ι := ⟨i0⟩
            have WS := hid Wsur; clear Wsur
            have HW := hid hW; clear hW
            have Hi0 := hid hi0; clear hi0
            refine region_anyL (S := fun w' => ∃ i, w' = W i) (last := 17) (by kernel_rfl) ?_
            refine anyL_seg 0 11 (by kernel_rfl) (fun _ _ _ _ _ h => h) ⟨i0, Hi0.out.symm⟩ (f := 6) rfl (by kernel_rfl) (by kernel_rfl) ?_
            simp only [List.drop_zero, List.take_succ_cons, List.take_zero]
            repeat go_big_quiet_step (fail)
            refine wpQuiet_nil ?_
            refine anyL_skipD (i := 11) (by kernel_rfl) rfl (by rfl) (by rfl) ⟨i0, Hi0.out.symm⟩ ?_
            refine anyL_seg 12 5 (by kernel_rfl) (fun _ _ _ _ _ h => h) ⟨i0, Hi0.out.symm⟩ (f := 0) rfl (by kernel_rfl) (by kernel_rfl) ?_
            simp only [List.drop_succ_cons, List.drop_zero, List.take_succ_cons, List.take_zero]
            repeat go_big_quiet_step (fail)
            refine wpQuiet_nil ?_
            refine anyL_done (by kernel_rfl) ?_ 0
            go_wp2_with fail
            go_ret3
            exact rnum_bad HNO.out HX.out hkS ((Below.refl _ _).drew)
          · have hjk : (i : Int) + 1 < k := by omega
            have hjk1 : decide ((i : Int) + 1 < k) = true := decide_eq_true hjk
            have hjk2 : i + 1 < k := by omega
            have hjk3 : decide (i + 1 < k) = true := decide_eq_true hjk2
            have hex : (s.extract i k).data.toList = (rest s i).take (1 + j) := by rw [← rest_take, hk, Nat.add_assoc]
            have hkj : k = i + (1 + j) := by omega
            have HKJ := hid hkj
            by_cases he : s.extract i k = bs (Lib.itoa (-(v : Int)))
            · have HYES := hid (hO.1 ⟨by omega, by rw [← hex, he]; rfl⟩)
              have he2 : (s.extract i k).toList = (bs (Lib.itoa (-(v : Int)))).toList := by rw [he]
              have he3 : ((s.extract i k).toList == (bs (Lib.itoa (-(v : Int)))).toList) = true := by rw [he]; simp
              clear hO hex hkj hk
              go_wp2_with fail
              obtain ⟨ι, W, ⟨i0, hi0⟩, hW, Wsur⟩ := ext_class w.drew
              have hne : Nonempty ι := ⟨i0⟩
              have WS := hid Wsur; clear Wsur
              have HW := hid hW; clear hW
              have Hi0 := hid hi0; clear hi0
              refine region_anyL (S := fun w' => ∃ i, w' = W i) (last := 17) (by kernel_rfl) ?_
              refine anyL_seg 0 11 (by kernel_rfl) (fun _ _ _ _ _ h => h) ⟨i0, Hi0.out.symm⟩ (f := 6) rfl (by kernel_rfl) (by kernel_rfl) ?_
              simp only [List.drop_zero, List.take_succ_cons, List.take_zero]
              repeat go_big_quiet_step (fail)
              refine wpQuiet_nil ?_
              refine anyL_actG (i := 11) (by kernel_rfl) rfl (by rfl) ?_
              intro K hK
              go_wp2_with fail
              refine (Number_calls (-(v : Int)) HX.out w.drew).mono ?_
              rintro e w5 ⟨rfl, hb5⟩
              generalize bs (Lib.itoa (-(v : Int))) = nt at *
              go_wp2_with fail
              have hS5 : ∃ i, w5 = W i := WS.out i0 _ (by rw [Hi0.out]; exact hb5)
              refine hK.out _ _ (fun _ => hS5) ?_
              clear hK K
              refine anyL_seg 12 5 (by kernel_rfl) (fun _ _ _ _ _ h => h) hS5 (f := 0) rfl (by kernel_rfl) (by kernel_rfl) ?_
              simp only [List.drop_succ_cons, List.drop_zero, List.take_succ_cons, List.take_zero]
              repeat go_big_quiet_step (fail)
              refine wpQuiet_nil ?_
              refine anyL_done (by kernel_rfl) ?_ 0
              go_wp2_with fail
              go_ret3
              exact rnum_good (by rw [HKJ.out]; exact HYES.out) HX.out hkS ((Below.refl w.heap.size w).drew.trans hb5)
            · have HNO := hid (hO.2 (fun h => he (byteArray_ext (by rw [hex, h.2]; rfl))))
              have he2 : ¬ (s.extract i k).toList = (bs (Lib.itoa (-(v : Int)))).toList := fun h => he (byteArray_ext (by rw [ByteArray.toList_eq, ByteArray.toList_eq] at h; exact h))
              have he3 : ((s.extract i k).toList == (bs (Lib.itoa (-(v : Int)))).toList) = false := by simpa using he2
              clear hO hex hkj hk
              go_wp2_with fail
              obtain ⟨ι, W, ⟨i0, hi0⟩, hW, Wsur⟩ := ext_class w.drew
              have hne : Nonempty ι := ⟨i0⟩
              have WS := hid Wsur; clear Wsur
              have HW := hid hW; clear hW
              have Hi0 := hid hi0; clear hi0
              refine region_anyL (S := fun w' => ∃ i, w' = W i) (last := 17) (by kernel_rfl) ?_
              refine anyL_seg 0 11 (by kernel_rfl) (fun _ _ _ _ _ h => h) ⟨i0, Hi0.out.symm⟩ (f := 6) rfl (by kernel_rfl) (by kernel_rfl) ?_
              simp only [List.drop_zero, List.take_succ_cons, List.take_zero]
              repeat go_big_quiet_step (fail)
              refine wpQuiet_nil ?_
              refine anyL_actG (i := 11) (by kernel_rfl) rfl (by rfl) ?_
              intro K hK
              go_wp2_with fail
              refine (Number_calls (-(v : Int)) HX.out w.drew).mono ?_
              rintro e w5 ⟨rfl, hb5⟩
              generalize bs (Lib.itoa (-(v : Int))) = nt at *
              go_wp2_with fail
              have hS5 : ∃ i, w5 = W i := WS.out i0 _ (by rw [Hi0.out]; exact hb5)
              refine hK.out _ _ (fun _ => hS5) ?_
              clear hK K
              refine anyL_seg 12 5 (by kernel_rfl) (fun _ _ _ _ _ h => h) hS5 (f := 0) rfl (by kernel_rfl) (by kernel_rfl) ?_
              simp only [List.drop_succ_cons, List.drop_zero, List.take_succ_cons, List.take_zero]
              repeat go_big_quiet_step (fail)
              refine wpQuiet_nil ?_
              refine anyL_done (by kernel_rfl) ?_ 0
              go_wp2_with fail
              go_ret3
              exact rnum_bad HNO.out HX.out hkS ((Below.refl w.heap.size w).drew.trans hb5)
    · have hks' : ¬ (k : Int) < s.size := by omega
      have hend : j = D.length ∨ (j = 20 ∧ 20 ≤ D.length) := .inl (by omega)
      have hX : I64 (-(v : Int)) := ⟨by omega, by omega⟩
      have hO := HOWN.out j (-(v : Int)) hend (by rw [← HVV.out]; simp) hX
      have HX := hid hX
      clear hX
      by_cases hj0 : j = 0
      · have HNO := hid (hO.2 (by omega))
        have hjk : ¬ (i : Int) + 1 < k := by omega
        have hjk1 : decide ((i : Int) + 1 < k) = false := decide_eq_false hjk
        have hjk2 : ¬ i + 1 < k := by omega
        have hjk3 : decide (i + 1 < k) = false := decide_eq_false hjk2
        clear hO hk
        go_wp2_with fail
        obtain ⟨ι, W, ⟨i0, hi0⟩, hW, Wsur⟩ := ext_class w.drew
        have hne : Nonempty ι := ⟨i0⟩
        have WS := hid Wsur; clear Wsur
        have HW := hid hW; clear hW
        have Hi0 := hid hi0; clear hi0
        refine region_anyL (S := fun w' => ∃ i, w' = W i) (last := 17) (by kernel_rfl) ?_
        refine anyL_seg 0 11 (by kernel_rfl) (fun _ _ _ _ _ h => h) ⟨i0, Hi0.out.symm⟩ (f := 6) rfl (by kernel_rfl) (by kernel_rfl) ?_
        simp only [List.drop_zero, List.take_succ_cons, List.take_zero]
        repeat go_big_quiet_step (fail)
        refine wpQuiet_nil ?_
        refine anyL_skipD (i := 11) (by kernel_rfl) rfl (by rfl) (by rfl) ⟨i0, Hi0.out.symm⟩ ?_
        refine anyL_seg 12 5 (by kernel_rfl) (fun _ _ _ _ _ h => h) ⟨i0, Hi0.out.symm⟩ (f := 0) rfl (by kernel_rfl) (by kernel_rfl) ?_
        simp only [List.drop_succ_cons, List.drop_zero, List.take_succ_cons, List.take_zero]
        repeat go_big_quiet_step (fail)
        refine wpQuiet_nil ?_
        refine anyL_done (by kernel_rfl) ?_ 0
        go_wp2_with fail
        go_ret3
        exact rnum_bad HNO.out HX.out hkS ((Below.refl _ _).drew)
      · have hjk : (i : Int) + 1 < k := by omega
        have hjk1 : decide ((i : Int) + 1 < k) = true := decide_eq_true hjk
        have hjk2 : i + 1 < k := by omega
        have hjk3 : decide (i + 1 < k) = true := decide_eq_true hjk2
        have hex : (s.extract i k).data.toList = (rest s i).take (1 + j) := by rw [← rest_take, hk, Nat.add_assoc]
        have hkj : k = i + (1 + j) := by omega
        have HKJ := hid hkj
        by_cases he : s.extract i k = bs (Lib.itoa (-(v : Int)))
        · have HYES := hid (hO.1 ⟨by omega, by rw [← hex, he]; rfl⟩)
          have he2 : (s.extract i k).toList = (bs (Lib.itoa (-(v : Int)))).toList := by rw [he]
          have he3 : ((s.extract i k).toList == (bs (Lib.itoa (-(v : Int)))).toList) = true := by rw [he]; simp
          clear hO hex hkj hk
          go_wp2_with fail
          obtain ⟨ι, W, ⟨i0, hi0⟩, hW, Wsur⟩ := ext_class w.drew
          have hne : Nonempty ι := ⟨i0⟩
          have WS := hid Wsur; clear Wsur
          have HW := hid hW; clear hW
          have Hi0 := hid hi0; clear hi0
          refine region_anyL (S := fun w' => ∃ i, w' = W i) (last := 17) (by kernel_rfl) ?_
          refine anyL_seg 0 11 (by kernel_rfl) (fun _ _ _ _ _ h => h) ⟨i0, Hi0.out.symm⟩ (f := 6) rfl (by kernel_rfl) (by kernel_rfl) ?_
          simp only [List.drop_zero, List.take_succ_cons, List.take_zero]
          repeat go_big_quiet_step (fail)
          refine wpQuiet_nil ?_
          refine anyL_actG (i := 11) (by kernel_rfl) rfl (by rfl) ?_
          intro K hK
          go_wp2_with fail
          refine (Number_calls (-(v : Int)) HX.out w.drew).mono ?_
          rintro e w5 ⟨rfl, hb5⟩
          generalize bs (Lib.itoa (-(v : Int))) = nt at *
          go_wp2_with fail
          have hS5 : ∃ i, w5 = W i := WS.out i0 _ (by rw [Hi0.out]; exact hb5)
          refine hK.out _ _ (fun _ => hS5) ?_
          clear hK K
          refine anyL_seg 12 5 (by kernel_rfl) (fun _ _ _ _ _ h => h) hS5 (f := 0) rfl (by kernel_rfl) (by kernel_rfl) ?_
          simp only [List.drop_succ_cons, List.drop_zero, List.take_succ_cons, List.take_zero]
          repeat go_big_quiet_step (fail)
          refine wpQuiet_nil ?_
          refine anyL_done (by kernel_rfl) ?_ 0
          go_wp2_with fail
          go_ret3
          exact rnum_good (by rw [HKJ.out]; exact HYES.out) HX.out hkS ((Below.refl w.heap.size w).drew.trans hb5)
        · have HNO := hid (hO.2 (fun h => he (byteArray_ext (by rw [hex, h.2]; rfl))))
          have he2 : ¬ (s.extract i k).toList = (bs (Lib.itoa (-(v : Int)))).toList := fun h => he (byteArray_ext (by rw [ByteArray.toList_eq, ByteArray.toList_eq] at h; exact h))
          have he3 : ((s.extract i k).toList == (bs (Lib.itoa (-(v : Int)))).toList) = false := by simpa using he2
          clear hO hex hkj hk
          go_wp2_with fail
          obtain ⟨ι, W, ⟨i0, hi0⟩, hW, Wsur⟩ := ext_class w.drew
          have hne : Nonempty ι := ⟨i0⟩
          have WS := hid Wsur; clear Wsur
          have HW := hid hW; clear hW
          have Hi0 := hid hi0; clear hi0
          refine region_anyL (S := fun w' => ∃ i, w' = W i) (last := 17) (by kernel_rfl) ?_
          refine anyL_seg 0 11 (by kernel_rfl) (fun _ _ _ _ _ h => h) ⟨i0, Hi0.out.symm⟩ (f := 6) rfl (by kernel_rfl) (by kernel_rfl) ?_
          simp only [List.drop_zero, List.take_succ_cons, List.take_zero]
          repeat go_big_quiet_step (fail)
          refine wpQuiet_nil ?_
          refine anyL_actG (i := 11) (by kernel_rfl) rfl (by rfl) ?_
          intro K hK
          go_wp2_with fail
          refine (Number_calls (-(v : Int)) HX.out w.drew).mono ?_
          rintro e w5 ⟨rfl, hb5⟩
          generalize bs (Lib.itoa (-(v : Int))) = nt at *
          go_wp2_with fail
          have hS5 : ∃ i, w5 = W i := WS.out i0 _ (by rw [Hi0.out]; exact hb5)
          refine hK.out _ _ (fun _ => hS5) ?_
          clear hK K
          refine anyL_seg 12 5 (by kernel_rfl) (fun _ _ _ _ _ h => h) hS5 (f := 0) rfl (by kernel_rfl) (by kernel_rfl) ?_
          simp only [List.drop_succ_cons, List.drop_zero, List.take_succ_cons, List.take_zero]
          repeat go_big_quiet_step (fail)
          refine wpQuiet_nil ?_
          refine anyL_done (by kernel_rfl) ?_ 0
          go_wp2_with fail
          go_ret3
          exact rnum_bad HNO.out HX.out hkS ((Below.refl w.heap.size w).drew.trans hb5)
set_option maxHeartbeats 4000000 in
set_option maxRecDepth 100000 in
theorem rnumber_pos (s : ByteArray) (i : Nat) (hi : i ≤ s.size) (hs : s.size ≤ 65536) (hlt : i < s.size) (h45 : s[i] ≠ 45) (w : World) :
    Calls Tryd.prog 50 #[.string s, .int .i64 i] w (RNumPost s i w) := by
  obtain ⟨D, hD⟩ : ∃ D, D = digs (rest s i) := ⟨_, rfl⟩
  have hm : numLo2 (rest s i) = 0 := by
    unfold numLo2
    rw [show (rest s i)[0]? = some s[i] from rest_get (j := 0) (by omega), if_neg (by simpa using h45)]
  obtain ⟨hd1, hd2, hd3⟩ := digs_at (rest s i)
  rw [rest_len] at hd3
  rw [← hD, hm] at hd1 hd2 hd3
  have H1 : Hid (∀ k j (_ : k = i + 0 + j) (h : k < s.size), j < D.length → D[j]? = some s[k] ∧ dig s[k] = true) := hid (by
    intro k j hk h hj
    subst hk
    exact hd1 j _ hj (by rw [rest_get (by omega)]; simp))
  have H2 : Hid (∀ k (_ : k = i + 0 + D.length) (h : k < s.size), dig s[k] = false) := hid (by
    intro k hk h
    subst hk
    exact hd2 _ (by rw [rest_get (by omega)]; simp))
  have HBIG : Hid (∀ j, 9223372036854775808 < valD 0 (D.take j) → numF (rest s i) = none) := hid (fun j h => numF_big (j := j) (by rw [← hD]; exact h))
  have HEDGE : Hid (∀ j, valD 0 (D.take j) = 9223372036854775808 → 0 = 0 → numF (rest s i) = none) := hid (fun j h h0 => numF_edge (j := j) (by rw [← hD]; exact h) (by omega))
  have HOWN : Hid (∀ (j : Nat) (x : Int), (j = D.length ∨ (j = 20 ∧ 20 ≤ D.length)) → x = (if 0 = 1 then -(valD 0 (D.take j) : Int) else (valD 0 (D.take j) : Int)) → I64 x →
      (0 < j ∧ (rest s i).take (0 + j) = Lib.itoa x → numF (rest s i) = some (x, rest s (i + (0 + j)))) ∧ (¬ (0 < j ∧ (rest s i).take (0 + j) = Lib.itoa x) → numF (rest s i) = none)) := hid (by
    intro j x h1 h2 h3
    have := numF_own (l := rest s i) (j := j) (x := x) (by rw [← hD]; exact h1) (by rw [← hD, hm]; exact h2) h3
    rw [hm, rest_rest] at this
    exact this)
  clear hd1 hd2 hD hm
  have hlt' : (i : Int) < s.size := by omega
  have q1 : ¬ s[i].toNat = 45 := fun h => h45 (UInt8.toNat_inj.1 (by rw [h]; rfl))
  have q2 : ¬ (s[i].toNat : Int) = 45 := by omega
  have q3 : ((s[i].toNat : Int) == 45) = false := by simpa using q2
  have q4 : (s[i].toNat == 45) = false := by simpa using q1
  clear h45
  go_enter Tryd.func50, Tryd.ntmps50
  go_wp2_with fail
  go_loop [7, 9] (fun vk vx => ∃ (k j v : Nat), k = i + 0 + j ∧ v = valD 0 (D.take j) ∧ j ≤ D.length ∧ j ≤ 20 ∧ v ≤ 9223372036854775808 ∧ vk = .int .i64 (k : Int) ∧ vx = .int .i64 (-(v : Int))) (fun vk _ => s.size - (intOf vk).toNat)
  case atStart => exact ⟨i + 0, 0, 0, by omega, rfl, by omega, by omega, by omega, by go_num, rfl⟩
  case round =>
    obtain ⟨k, j, v, hk, hvv, hj, hj20, hvle, rfl, rfl⟩ := hrel
    have HVV := hid hvv
    have HK := hid hk
    have hkS : k ≤ s.size := by omega
    have hkl : i + 0 ≤ k := by omega
    clear hvv
    by_cases hks : k < s.size
    · have hks' : (k : Int) < s.size := by omega
      by_cases hkp : j < D.length
      · obtain ⟨hDj, hd⟩ := H1.out k j hk hks hkp
        simp only [dig, Bool.and_eq_true, decide_eq_true_eq] at hd
        obtain ⟨hd1, hd2⟩ := hd
        have HDJ := hid hDj
        clear hDj
        have d1 : (48 : Int) ≤ (s[k].toNat : Int) := by omega
        have d2 : (s[k].toNat : Int) ≤ 57 := by omega
        have d3 : decide (48 ≤ s[k].toNat) = true := by simpa using hd1
        have d4 : decide (s[k].toNat ≤ 57) = true := by simpa using hd2
        by_cases hj2 : j < 20
        · have hj2' : (k : Int) - i < 20 := by omega
          have HVN : Hid (valD 0 (D.take (j + 1)) = 10 * v + (s[k].toNat - 48)) := hid (by rw [valD_take_succ HDJ.out, ← HVV.out])
          by_cases hov : 9223372036854775808 < 10 * v + (s[k].toNat - 48)
          · have HNO := hid (HBIG.out (j + 1) (by rw [HVN.out]; exact hov))
            have hlt : -(v : Int) < (-9223372036854775808 + ((s[k].toNat : Int) - 48)).tdiv 10 := by
              have := Int.mul_tdiv_add_tmod (-9223372036854775808 + ((s[k].toNat : Int) - 48)) 10
              have h3 := tmod_neg10 (a := -9223372036854775808 + ((s[k].toNat : Int) - 48)) (by omega)
              omega
            clear hd1 hd2 hov hk
            go_wp2_with fail
            go_ret3
            exact rnum_bad HNO.out (I64.of (by decide) (by decide)) hi (Below.refl _ _)
          · have hlt : ¬ -(v : Int) < (-9223372036854775808 + ((s[k].toNat : Int) - 48)).tdiv 10 := by
              have := Int.mul_tdiv_add_tmod (-9223372036854775808 + ((s[k].toNat : Int) - 48)) 10
              have h3 := tmod_gt10 (-9223372036854775808 + ((s[k].toNat : Int) - 48))
              omega
            have b1 : -9223372036854775808 ≤ 10 * -(v : Int) ∧ 10 * -(v : Int) ≤ 9223372036854775807 := by omega
            have b2 : -9223372036854775808 ≤ 10 * -(v : Int) - ((s[k].toNat : Int) - 48) ∧ 10 * -(v : Int) - ((s[k].toNat : Int) - 48) ≤ 9223372036854775807 := by omega
            have HB1 := hid b1
            have HB2 := hid b2
            have HC : Hid (48 ≤ s[k].toNat) := hid hd1
            clear hd1 hd2 hov b1 b2 hk
            go_wp2_with fail
            refine ⟨⟨k + 1, j + 1, 10 * v + (s[k].toNat - 48), by have := HK.out; omega, HVN.out.symm, by omega, by omega, by have := HB2.out; have := HC.out; omega, by go_num, ?_⟩, ?_⟩
            · have := HC.out
              have e1 : wrap64 (wrap64 (10 * -(v : Int)) - ((s[k].toNat : Int) - 48)) = -((10 * v + (s[k].toNat - 48) : Nat) : Int) := by rw [IntWalk.wrap64_in _ HB1.out, IntWalk.wrap64_in _ HB2.out]; omega
              rw [e1]
            · simp [intOf]; omega
        · have hj2' : ¬ (k : Int) - i < 20 := by omega
          have hend : j = D.length ∨ (j = 20 ∧ 20 ≤ D.length) := .inr ⟨by omega, by omega⟩
          clear hd1 hd2
          by_cases hv9 : v = 9223372036854775808
          · have HNO := hid (HEDGE.out j (by rw [← HVV.out, hv9]) (by simp))
            subst hv9
            clear hk
            go_wp2_with fail
            go_ret3
            exact rnum_bad HNO.out (I64.of (by decide) (by decide)) hi (Below.refl _ _)
          · have hv9' : ¬ (-(v : Int)) = -9223372036854775808 := by omega
            have hv9'' : (-(v : Int) == -9223372036854775808) = false := by simpa using hv9'
            have hX : I64 ((v : Int)) := ⟨by omega, by omega⟩
            have hO := HOWN.out j ((v : Int)) hend (by rw [← HVV.out]; simp) hX
            have HX := hid hX
            clear hX
            by_cases hj0 : j = 0
            · have HNO := hid (hO.2 (by omega))
              have hjk : ¬ (i : Int) < k := by omega
              have hjk1 : decide ((i : Int) < k) = false := decide_eq_false hjk
              have hjk2 : ¬ i < k := by omega
              have hjk3 : decide (i < k) = false := decide_eq_false hjk2
              clear hO hk
              go_wp2_with fail
              obtain ⟨ι, W, ⟨i0, hi0⟩, hW, Wsur⟩ := ext_class w.drew
              have hne : Nonempty ι := ⟨i0⟩
              have WS := hid Wsur; clear Wsur
              have HW := hid hW; clear hW
              have Hi0 := hid hi0; clear hi0
              refine region_anyL (S := fun w' => ∃ i, w' = W i) (last := 17) (by kernel_rfl) ?_
              refine anyL_seg 0 11 (by kernel_rfl) (fun _ _ _ _ _ h => h) ⟨i0, Hi0.out.symm⟩ (f := 6) rfl (by kernel_rfl) (by kernel_rfl) ?_
              simp only [List.drop_zero, List.take_succ_cons, List.take_zero]
              repeat go_big_quiet_step (fail)
              refine wpQuiet_nil ?_
              refine anyL_skipD (i := 11) (by kernel_rfl) rfl (by rfl) (by rfl) ⟨i0, Hi0.out.symm⟩ ?_
              refine anyL_seg 12 5 (by kernel_rfl) (fun _ _ _ _ _ h => h) ⟨i0, Hi0.out.symm⟩ (f := 0) rfl (by kernel_rfl) (by kernel_rfl) ?_
              simp only [List.drop_succ_cons, List.drop_zero, List.take_succ_cons, List.take_zero]
              repeat go_big_quiet_step (fail)
              refine wpQuiet_nil ?_
              refine anyL_done (by kernel_rfl) ?_ 0
              go_wp2_with fail
              go_ret3
              exact rnum_bad HNO.out HX.out hkS ((Below.refl _ _).drew)
            · have hjk : (i : Int) < k := by omega
              have hjk1 : decide ((i : Int) < k) = true := decide_eq_true hjk
              have hjk2 : i < k := by omega
              have hjk3 : decide (i < k) = true := decide_eq_true hjk2
              have hex : (s.extract i k).data.toList = (rest s i).take (0 + j) := by rw [← rest_take, hk, Nat.add_assoc]
              have hkj : k = i + (0 + j) := by omega
              have HKJ := hid hkj
              by_cases he : s.extract i k = bs (Lib.itoa ((v : Int)))
              · have HYES := hid (hO.1 ⟨by omega, by rw [← hex, he]; rfl⟩)
                have he2 : (s.extract i k).toList = (bs (Lib.itoa ((v : Int)))).toList := by rw [he]
                have he3 : ((s.extract i k).toList == (bs (Lib.itoa ((v : Int)))).toList) = true := by rw [he]; simp
                clear hO hex hkj hk
                go_wp2_with fail
                obtain ⟨ι, W, ⟨i0, hi0⟩, hW, Wsur⟩ := ext_class w.drew
                have hne : Nonempty ι := ⟨i0⟩
                have WS := hid Wsur; clear Wsur
                have HW := hid hW; clear hW
                have Hi0 := hid hi0; clear hi0
                refine region_anyL (S := fun w' => ∃ i, w' = W i) (last := 17) (by kernel_rfl) ?_
                refine anyL_seg 0 11 (by kernel_rfl) (fun _ _ _ _ _ h => h) ⟨i0, Hi0.out.symm⟩ (f := 6) rfl (by kernel_rfl) (by kernel_rfl) ?_
                simp only [List.drop_zero, List.take_succ_cons, List.take_zero]
                repeat go_big_quiet_step (fail)
                refine wpQuiet_nil ?_
                refine anyL_actG (i := 11) (by kernel_rfl) rfl (by rfl) ?_
                intro K hK
                go_wp2_with fail
                refine (Number_calls ((v : Int)) HX.out w.drew).mono ?_
                rintro e w5 ⟨rfl, hb5⟩
                generalize bs (Lib.itoa ((v : Int))) = nt at *
                go_wp2_with fail
                have hS5 : ∃ i, w5 = W i := WS.out i0 _ (by rw [Hi0.out]; exact hb5)
                refine hK.out _ _ (fun _ => hS5) ?_
                clear hK K
                refine anyL_seg 12 5 (by kernel_rfl) (fun _ _ _ _ _ h => h) hS5 (f := 0) rfl (by kernel_rfl) (by kernel_rfl) ?_
                simp only [List.drop_succ_cons, List.drop_zero, List.take_succ_cons, List.take_zero]
                repeat go_big_quiet_step (fail)
                refine wpQuiet_nil ?_
                refine anyL_done (by kernel_rfl) ?_ 0
                go_wp2_with fail
                go_ret3
                exact rnum_good (by rw [HKJ.out]; exact HYES.out) HX.out hkS ((Below.refl w.heap.size w).drew.trans hb5)
              · have HNO := hid (hO.2 (fun h => he (byteArray_ext (by rw [hex, h.2]; rfl))))
                have he2 : ¬ (s.extract i k).toList = (bs (Lib.itoa ((v : Int)))).toList := fun h => he (byteArray_ext (by rw [ByteArray.toList_eq, ByteArray.toList_eq] at h; exact h))
                have he3 : ((s.extract i k).toList == (bs (Lib.itoa ((v : Int)))).toList) = false := by simpa using he2
                clear hO hex hkj hk
                go_wp2_with fail
                obtain ⟨ι, W, ⟨i0, hi0⟩, hW, Wsur⟩ := ext_class w.drew
                have hne : Nonempty ι := ⟨i0⟩
                have WS := hid Wsur; clear Wsur
                have HW := hid hW; clear hW
                have Hi0 := hid hi0; clear hi0
                refine region_anyL (S := fun w' => ∃ i, w' = W i) (last := 17) (by kernel_rfl) ?_
                refine anyL_seg 0 11 (by kernel_rfl) (fun _ _ _ _ _ h => h) ⟨i0, Hi0.out.symm⟩ (f := 6) rfl (by kernel_rfl) (by kernel_rfl) ?_
                simp only [List.drop_zero, List.take_succ_cons, List.take_zero]
                repeat go_big_quiet_step (fail)
                refine wpQuiet_nil ?_
                refine anyL_actG (i := 11) (by kernel_rfl) rfl (by rfl) ?_
                intro K hK
                go_wp2_with fail
                refine (Number_calls ((v : Int)) HX.out w.drew).mono ?_
                rintro e w5 ⟨rfl, hb5⟩
                generalize bs (Lib.itoa ((v : Int))) = nt at *
                go_wp2_with fail
                have hS5 : ∃ i, w5 = W i := WS.out i0 _ (by rw [Hi0.out]; exact hb5)
                refine hK.out _ _ (fun _ => hS5) ?_
                clear hK K
                refine anyL_seg 12 5 (by kernel_rfl) (fun _ _ _ _ _ h => h) hS5 (f := 0) rfl (by kernel_rfl) (by kernel_rfl) ?_
                simp only [List.drop_succ_cons, List.drop_zero, List.take_succ_cons, List.take_zero]
                repeat go_big_quiet_step (fail)
                refine wpQuiet_nil ?_
                refine anyL_done (by kernel_rfl) ?_ 0
                go_wp2_with fail
                go_ret3
                exact rnum_bad HNO.out HX.out hkS ((Below.refl w.heap.size w).drew.trans hb5)
      · have hend : j = D.length ∨ (j = 20 ∧ 20 ≤ D.length) := .inl (by omega)
        have hd := H2.out k (by omega) hks
        by_cases q1 : 48 ≤ s[k].toNat
        · have q2 : ¬ s[k].toNat ≤ 57 := by simp [dig, q1] at hd; omega
          have d1 : (48 : Int) ≤ (s[k].toNat : Int) := by omega
          have d2 : decide ((s[k].toNat : Int) ≤ 57) = false := decide_eq_false (by omega)
          have d2' : ¬ (s[k].toNat : Int) ≤ 57 := by omega
          clear hd q1 q2
          by_cases hv9 : v = 9223372036854775808
          · have HNO := hid (HEDGE.out j (by rw [← HVV.out, hv9]) (by simp))
            subst hv9
            clear hk
            go_wp2_with fail
            go_ret3
            exact rnum_bad HNO.out (I64.of (by decide) (by decide)) hi (Below.refl _ _)
          · have hv9' : ¬ (-(v : Int)) = -9223372036854775808 := by omega
            have hv9'' : (-(v : Int) == -9223372036854775808) = false := by simpa using hv9'
            have hX : I64 ((v : Int)) := ⟨by omega, by omega⟩
            have hO := HOWN.out j ((v : Int)) hend (by rw [← HVV.out]; simp) hX
            have HX := hid hX
            clear hX
            by_cases hj0 : j = 0
            · have HNO := hid (hO.2 (by omega))
              have hjk : ¬ (i : Int) < k := by omega
              have hjk1 : decide ((i : Int) < k) = false := decide_eq_false hjk
              have hjk2 : ¬ i < k := by omega
              have hjk3 : decide (i < k) = false := decide_eq_false hjk2
              clear hO hk
              go_wp2_with fail
              obtain ⟨ι, W, ⟨i0, hi0⟩, hW, Wsur⟩ := ext_class w.drew
              have hne : Nonempty ι := ⟨i0⟩
              have WS := hid Wsur; clear Wsur
              have HW := hid hW; clear hW
              have Hi0 := hid hi0; clear hi0
              refine region_anyL (S := fun w' => ∃ i, w' = W i) (last := 17) (by kernel_rfl) ?_
              refine anyL_seg 0 11 (by kernel_rfl) (fun _ _ _ _ _ h => h) ⟨i0, Hi0.out.symm⟩ (f := 6) rfl (by kernel_rfl) (by kernel_rfl) ?_
              simp only [List.drop_zero, List.take_succ_cons, List.take_zero]
              repeat go_big_quiet_step (fail)
              refine wpQuiet_nil ?_
              refine anyL_skipD (i := 11) (by kernel_rfl) rfl (by rfl) (by rfl) ⟨i0, Hi0.out.symm⟩ ?_
              refine anyL_seg 12 5 (by kernel_rfl) (fun _ _ _ _ _ h => h) ⟨i0, Hi0.out.symm⟩ (f := 0) rfl (by kernel_rfl) (by kernel_rfl) ?_
              simp only [List.drop_succ_cons, List.drop_zero, List.take_succ_cons, List.take_zero]
              repeat go_big_quiet_step (fail)
              refine wpQuiet_nil ?_
              refine anyL_done (by kernel_rfl) ?_ 0
              go_wp2_with fail
              go_ret3
              exact rnum_bad HNO.out HX.out hkS ((Below.refl _ _).drew)
            · have hjk : (i : Int) < k := by omega
              have hjk1 : decide ((i : Int) < k) = true := decide_eq_true hjk
              have hjk2 : i < k := by omega
              have hjk3 : decide (i < k) = true := decide_eq_true hjk2
              have hex : (s.extract i k).data.toList = (rest s i).take (0 + j) := by rw [← rest_take, hk, Nat.add_assoc]
              have hkj : k = i + (0 + j) := by omega
              have HKJ := hid hkj
              by_cases he : s.extract i k = bs (Lib.itoa ((v : Int)))
              · have HYES := hid (hO.1 ⟨by omega, by rw [← hex, he]; rfl⟩)
                have he2 : (s.extract i k).toList = (bs (Lib.itoa ((v : Int)))).toList := by rw [he]
                have he3 : ((s.extract i k).toList == (bs (Lib.itoa ((v : Int)))).toList) = true := by rw [he]; simp
                clear hO hex hkj hk
                go_wp2_with fail
                obtain ⟨ι, W, ⟨i0, hi0⟩, hW, Wsur⟩ := ext_class w.drew
                have hne : Nonempty ι := ⟨i0⟩
                have WS := hid Wsur; clear Wsur
                have HW := hid hW; clear hW
                have Hi0 := hid hi0; clear hi0
                refine region_anyL (S := fun w' => ∃ i, w' = W i) (last := 17) (by kernel_rfl) ?_
                refine anyL_seg 0 11 (by kernel_rfl) (fun _ _ _ _ _ h => h) ⟨i0, Hi0.out.symm⟩ (f := 6) rfl (by kernel_rfl) (by kernel_rfl) ?_
                simp only [List.drop_zero, List.take_succ_cons, List.take_zero]
                repeat go_big_quiet_step (fail)
                refine wpQuiet_nil ?_
                refine anyL_actG (i := 11) (by kernel_rfl) rfl (by rfl) ?_
                intro K hK
                go_wp2_with fail
                refine (Number_calls ((v : Int)) HX.out w.drew).mono ?_
                rintro e w5 ⟨rfl, hb5⟩
                generalize bs (Lib.itoa ((v : Int))) = nt at *
                go_wp2_with fail
                have hS5 : ∃ i, w5 = W i := WS.out i0 _ (by rw [Hi0.out]; exact hb5)
                refine hK.out _ _ (fun _ => hS5) ?_
                clear hK K
                refine anyL_seg 12 5 (by kernel_rfl) (fun _ _ _ _ _ h => h) hS5 (f := 0) rfl (by kernel_rfl) (by kernel_rfl) ?_
                simp only [List.drop_succ_cons, List.drop_zero, List.take_succ_cons, List.take_zero]
                repeat go_big_quiet_step (fail)
                refine wpQuiet_nil ?_
                refine anyL_done (by kernel_rfl) ?_ 0
                go_wp2_with fail
                go_ret3
                exact rnum_good (by rw [HKJ.out]; exact HYES.out) HX.out hkS ((Below.refl w.heap.size w).drew.trans hb5)
              · have HNO := hid (hO.2 (fun h => he (byteArray_ext (by rw [hex, h.2]; rfl))))
                have he2 : ¬ (s.extract i k).toList = (bs (Lib.itoa ((v : Int)))).toList := fun h => he (byteArray_ext (by rw [ByteArray.toList_eq, ByteArray.toList_eq] at h; exact h))
                have he3 : ((s.extract i k).toList == (bs (Lib.itoa ((v : Int)))).toList) = false := by simpa using he2
                clear hO hex hkj hk
                go_wp2_with fail
                obtain ⟨ι, W, ⟨i0, hi0⟩, hW, Wsur⟩ := ext_class w.drew
                have hne : Nonempty ι := ⟨i0⟩
                have WS := hid Wsur; clear Wsur
                have HW := hid hW; clear hW
                have Hi0 := hid hi0; clear hi0
                refine region_anyL (S := fun w' => ∃ i, w' = W i) (last := 17) (by kernel_rfl) ?_
                refine anyL_seg 0 11 (by kernel_rfl) (fun _ _ _ _ _ h => h) ⟨i0, Hi0.out.symm⟩ (f := 6) rfl (by kernel_rfl) (by kernel_rfl) ?_
                simp only [List.drop_zero, List.take_succ_cons, List.take_zero]
                repeat go_big_quiet_step (fail)
                refine wpQuiet_nil ?_
                refine anyL_actG (i := 11) (by kernel_rfl) rfl (by rfl) ?_
                intro K hK
                go_wp2_with fail
                refine (Number_calls ((v : Int)) HX.out w.drew).mono ?_
                rintro e w5 ⟨rfl, hb5⟩
                generalize bs (Lib.itoa ((v : Int))) = nt at *
                go_wp2_with fail
                have hS5 : ∃ i, w5 = W i := WS.out i0 _ (by rw [Hi0.out]; exact hb5)
                refine hK.out _ _ (fun _ => hS5) ?_
                clear hK K
                refine anyL_seg 12 5 (by kernel_rfl) (fun _ _ _ _ _ h => h) hS5 (f := 0) rfl (by kernel_rfl) (by kernel_rfl) ?_
                simp only [List.drop_succ_cons, List.drop_zero, List.take_succ_cons, List.take_zero]
                repeat go_big_quiet_step (fail)
                refine wpQuiet_nil ?_
                refine anyL_done (by kernel_rfl) ?_ 0
                go_wp2_with fail
                go_ret3
                exact rnum_bad HNO.out HX.out hkS ((Below.refl w.heap.size w).drew.trans hb5)
        · have d1 : ¬ (48 : Int) ≤ (s[k].toNat : Int) := by omega
          clear hd
          by_cases hv9 : v = 9223372036854775808
          · have HNO := hid (HEDGE.out j (by rw [← HVV.out, hv9]) (by simp))
            subst hv9
            clear hk
            go_wp2_with fail
            go_ret3
            exact rnum_bad HNO.out (I64.of (by decide) (by decide)) hi (Below.refl _ _)
          · have hv9' : ¬ (-(v : Int)) = -9223372036854775808 := by omega
            have hv9'' : (-(v : Int) == -9223372036854775808) = false := by simpa using hv9'
            have hX : I64 ((v : Int)) := ⟨by omega, by omega⟩
            have hO := HOWN.out j ((v : Int)) hend (by rw [← HVV.out]; simp) hX
            have HX := hid hX
            clear hX
            by_cases hj0 : j = 0
            · have HNO := hid (hO.2 (by omega))
              have hjk : ¬ (i : Int) < k := by omega
              have hjk1 : decide ((i : Int) < k) = false := decide_eq_false hjk
              have hjk2 : ¬ i < k := by omega
              have hjk3 : decide (i < k) = false := decide_eq_false hjk2
              clear hO hk
              go_wp2_with fail
              obtain ⟨ι, W, ⟨i0, hi0⟩, hW, Wsur⟩ := ext_class w.drew
              have hne : Nonempty ι := ⟨i0⟩
              have WS := hid Wsur; clear Wsur
              have HW := hid hW; clear hW
              have Hi0 := hid hi0; clear hi0
              refine region_anyL (S := fun w' => ∃ i, w' = W i) (last := 17) (by kernel_rfl) ?_
              refine anyL_seg 0 11 (by kernel_rfl) (fun _ _ _ _ _ h => h) ⟨i0, Hi0.out.symm⟩ (f := 6) rfl (by kernel_rfl) (by kernel_rfl) ?_
              simp only [List.drop_zero, List.take_succ_cons, List.take_zero]
              repeat go_big_quiet_step (fail)
              refine wpQuiet_nil ?_
              refine anyL_skipD (i := 11) (by kernel_rfl) rfl (by rfl) (by rfl) ⟨i0, Hi0.out.symm⟩ ?_
              refine anyL_seg 12 5 (by kernel_rfl) (fun _ _ _ _ _ h => h) ⟨i0, Hi0.out.symm⟩ (f := 0) rfl (by kernel_rfl) (by kernel_rfl) ?_
              simp only [List.drop_succ_cons, List.drop_zero, List.take_succ_cons, List.take_zero]
              repeat go_big_quiet_step (fail)
              refine wpQuiet_nil ?_
              refine anyL_done (by kernel_rfl) ?_ 0
              go_wp2_with fail
              go_ret3
              exact rnum_bad HNO.out HX.out hkS ((Below.refl _ _).drew)
            · have hjk : (i : Int) < k := by omega
              have hjk1 : decide ((i : Int) < k) = true := decide_eq_true hjk
              have hjk2 : i < k := by omega
              have hjk3 : decide (i < k) = true := decide_eq_true hjk2
              have hex : (s.extract i k).data.toList = (rest s i).take (0 + j) := by rw [← rest_take, hk, Nat.add_assoc]
              have hkj : k = i + (0 + j) := by omega
              have HKJ := hid hkj
              by_cases he : s.extract i k = bs (Lib.itoa ((v : Int)))
              · have HYES := hid (hO.1 ⟨by omega, by rw [← hex, he]; rfl⟩)
                have he2 : (s.extract i k).toList = (bs (Lib.itoa ((v : Int)))).toList := by rw [he]
                have he3 : ((s.extract i k).toList == (bs (Lib.itoa ((v : Int)))).toList) = true := by rw [he]; simp
                clear hO hex hkj hk
                go_wp2_with fail
                obtain ⟨ι, W, ⟨i0, hi0⟩, hW, Wsur⟩ := ext_class w.drew
                have hne : Nonempty ι := ⟨i0⟩
                have WS := hid Wsur; clear Wsur
                have HW := hid hW; clear hW
                have Hi0 := hid hi0; clear hi0
                refine region_anyL (S := fun w' => ∃ i, w' = W i) (last := 17) (by kernel_rfl) ?_
                refine anyL_seg 0 11 (by kernel_rfl) (fun _ _ _ _ _ h => h) ⟨i0, Hi0.out.symm⟩ (f := 6) rfl (by kernel_rfl) (by kernel_rfl) ?_
                simp only [List.drop_zero, List.take_succ_cons, List.take_zero]
                repeat go_big_quiet_step (fail)
                refine wpQuiet_nil ?_
                refine anyL_actG (i := 11) (by kernel_rfl) rfl (by rfl) ?_
                intro K hK
                go_wp2_with fail
                refine (Number_calls ((v : Int)) HX.out w.drew).mono ?_
                rintro e w5 ⟨rfl, hb5⟩
                generalize bs (Lib.itoa ((v : Int))) = nt at *
                go_wp2_with fail
                have hS5 : ∃ i, w5 = W i := WS.out i0 _ (by rw [Hi0.out]; exact hb5)
                refine hK.out _ _ (fun _ => hS5) ?_
                clear hK K
                refine anyL_seg 12 5 (by kernel_rfl) (fun _ _ _ _ _ h => h) hS5 (f := 0) rfl (by kernel_rfl) (by kernel_rfl) ?_
                simp only [List.drop_succ_cons, List.drop_zero, List.take_succ_cons, List.take_zero]
                repeat go_big_quiet_step (fail)
                refine wpQuiet_nil ?_
                refine anyL_done (by kernel_rfl) ?_ 0
                go_wp2_with fail
                go_ret3
                exact rnum_good (by rw [HKJ.out]; exact HYES.out) HX.out hkS ((Below.refl w.heap.size w).drew.trans hb5)
              · have HNO := hid (hO.2 (fun h => he (byteArray_ext (by rw [hex, h.2]; rfl))))
                have he2 : ¬ (s.extract i k).toList = (bs (Lib.itoa ((v : Int)))).toList := fun h => he (byteArray_ext (by rw [ByteArray.toList_eq, ByteArray.toList_eq] at h; exact h))
                have he3 : ((s.extract i k).toList == (bs (Lib.itoa ((v : Int)))).toList) = false := by simpa using he2
                clear hO hex hkj hk
                go_wp2_with fail
                obtain ⟨ι, W, ⟨i0, hi0⟩, hW, Wsur⟩ := ext_class w.drew
                have hne : Nonempty ι := ⟨i0⟩
                have WS := hid Wsur; clear Wsur
                have HW := hid hW; clear hW
                have Hi0 := hid hi0; clear hi0
                refine region_anyL (S := fun w' => ∃ i, w' = W i) (last := 17) (by kernel_rfl) ?_
                refine anyL_seg 0 11 (by kernel_rfl) (fun _ _ _ _ _ h => h) ⟨i0, Hi0.out.symm⟩ (f := 6) rfl (by kernel_rfl) (by kernel_rfl) ?_
                simp only [List.drop_zero, List.take_succ_cons, List.take_zero]
                repeat go_big_quiet_step (fail)
                refine wpQuiet_nil ?_
                refine anyL_actG (i := 11) (by kernel_rfl) rfl (by rfl) ?_
                intro K hK
                go_wp2_with fail
                refine (Number_calls ((v : Int)) HX.out w.drew).mono ?_
                rintro e w5 ⟨rfl, hb5⟩
                generalize bs (Lib.itoa ((v : Int))) = nt at *
                go_wp2_with fail
                have hS5 : ∃ i, w5 = W i := WS.out i0 _ (by rw [Hi0.out]; exact hb5)
                refine hK.out _ _ (fun _ => hS5) ?_
                clear hK K
                refine anyL_seg 12 5 (by kernel_rfl) (fun _ _ _ _ _ h => h) hS5 (f := 0) rfl (by kernel_rfl) (by kernel_rfl) ?_
                simp only [List.drop_succ_cons, List.drop_zero, List.take_succ_cons, List.take_zero]
                repeat go_big_quiet_step (fail)
                refine wpQuiet_nil ?_
                refine anyL_done (by kernel_rfl) ?_ 0
                go_wp2_with fail
                go_ret3
                exact rnum_bad HNO.out HX.out hkS ((Below.refl w.heap.size w).drew.trans hb5)
    · have hks' : ¬ (k : Int) < s.size := by omega
      have hend : j = D.length ∨ (j = 20 ∧ 20 ≤ D.length) := .inl (by omega)
      by_cases hv9 : v = 9223372036854775808
      · have HNO := hid (HEDGE.out j (by rw [← HVV.out, hv9]) (by simp))
        subst hv9
        clear hk
        go_wp2_with fail
        go_ret3
        exact rnum_bad HNO.out (I64.of (by decide) (by decide)) hi (Below.refl _ _)
      · have hv9' : ¬ (-(v : Int)) = -9223372036854775808 := by omega
        have hv9'' : (-(v : Int) == -9223372036854775808) = false := by simpa using hv9'
        have hX : I64 ((v : Int)) := ⟨by omega, by omega⟩
        have hO := HOWN.out j ((v : Int)) hend (by rw [← HVV.out]; simp) hX
        have HX := hid hX
        clear hX
        by_cases hj0 : j = 0
        · have HNO := hid (hO.2 (by omega))
          have hjk : ¬ (i : Int) < k := by omega
          have hjk1 : decide ((i : Int) < k) = false := decide_eq_false hjk
          have hjk2 : ¬ i < k := by omega
          have hjk3 : decide (i < k) = false := decide_eq_false hjk2
          clear hO hk
          go_wp2_with fail
          obtain ⟨ι, W, ⟨i0, hi0⟩, hW, Wsur⟩ := ext_class w.drew
          have hne : Nonempty ι := ⟨i0⟩
          have WS := hid Wsur; clear Wsur
          have HW := hid hW; clear hW
          have Hi0 := hid hi0; clear hi0
          refine region_anyL (S := fun w' => ∃ i, w' = W i) (last := 17) (by kernel_rfl) ?_
          refine anyL_seg 0 11 (by kernel_rfl) (fun _ _ _ _ _ h => h) ⟨i0, Hi0.out.symm⟩ (f := 6) rfl (by kernel_rfl) (by kernel_rfl) ?_
          simp only [List.drop_zero, List.take_succ_cons, List.take_zero]
          repeat go_big_quiet_step (fail)
          refine wpQuiet_nil ?_
          refine anyL_skipD (i := 11) (by kernel_rfl) rfl (by rfl) (by rfl) ⟨i0, Hi0.out.symm⟩ ?_
          refine anyL_seg 12 5 (by kernel_rfl) (fun _ _ _ _ _ h => h) ⟨i0, Hi0.out.symm⟩ (f := 0) rfl (by kernel_rfl) (by kernel_rfl) ?_
          simp only [List.drop_succ_cons, List.drop_zero, List.take_succ_cons, List.take_zero]
          repeat go_big_quiet_step (fail)
          refine wpQuiet_nil ?_
          refine anyL_done (by kernel_rfl) ?_ 0
          go_wp2_with fail
          go_ret3
          exact rnum_bad HNO.out HX.out hkS ((Below.refl _ _).drew)
        · have hjk : (i : Int) < k := by omega
          have hjk1 : decide ((i : Int) < k) = true := decide_eq_true hjk
          have hjk2 : i < k := by omega
          have hjk3 : decide (i < k) = true := decide_eq_true hjk2
          have hex : (s.extract i k).data.toList = (rest s i).take (0 + j) := by rw [← rest_take, hk, Nat.add_assoc]
          have hkj : k = i + (0 + j) := by omega
          have HKJ := hid hkj
          by_cases he : s.extract i k = bs (Lib.itoa ((v : Int)))
          · have HYES := hid (hO.1 ⟨by omega, by rw [← hex, he]; rfl⟩)
            have he2 : (s.extract i k).toList = (bs (Lib.itoa ((v : Int)))).toList := by rw [he]
            have he3 : ((s.extract i k).toList == (bs (Lib.itoa ((v : Int)))).toList) = true := by rw [he]; simp
            clear hO hex hkj hk
            go_wp2_with fail
            obtain ⟨ι, W, ⟨i0, hi0⟩, hW, Wsur⟩ := ext_class w.drew
            have hne : Nonempty ι := ⟨i0⟩
            have WS := hid Wsur; clear Wsur
            have HW := hid hW; clear hW
            have Hi0 := hid hi0; clear hi0
            refine region_anyL (S := fun w' => ∃ i, w' = W i) (last := 17) (by kernel_rfl) ?_
            refine anyL_seg 0 11 (by kernel_rfl) (fun _ _ _ _ _ h => h) ⟨i0, Hi0.out.symm⟩ (f := 6) rfl (by kernel_rfl) (by kernel_rfl) ?_
            simp only [List.drop_zero, List.take_succ_cons, List.take_zero]
            repeat go_big_quiet_step (fail)
            refine wpQuiet_nil ?_
            refine anyL_actG (i := 11) (by kernel_rfl) rfl (by rfl) ?_
            intro K hK
            go_wp2_with fail
            refine (Number_calls ((v : Int)) HX.out w.drew).mono ?_
            rintro e w5 ⟨rfl, hb5⟩
            generalize bs (Lib.itoa ((v : Int))) = nt at *
            go_wp2_with fail
            have hS5 : ∃ i, w5 = W i := WS.out i0 _ (by rw [Hi0.out]; exact hb5)
            refine hK.out _ _ (fun _ => hS5) ?_
            clear hK K
            refine anyL_seg 12 5 (by kernel_rfl) (fun _ _ _ _ _ h => h) hS5 (f := 0) rfl (by kernel_rfl) (by kernel_rfl) ?_
            simp only [List.drop_succ_cons, List.drop_zero, List.take_succ_cons, List.take_zero]
            repeat go_big_quiet_step (fail)
            refine wpQuiet_nil ?_
            refine anyL_done (by kernel_rfl) ?_ 0
            go_wp2_with fail
            go_ret3
            exact rnum_good (by rw [HKJ.out]; exact HYES.out) HX.out hkS ((Below.refl w.heap.size w).drew.trans hb5)
          · have HNO := hid (hO.2 (fun h => he (byteArray_ext (by rw [hex, h.2]; rfl))))
            have he2 : ¬ (s.extract i k).toList = (bs (Lib.itoa ((v : Int)))).toList := fun h => he (byteArray_ext (by rw [ByteArray.toList_eq, ByteArray.toList_eq] at h; exact h))
            have he3 : ((s.extract i k).toList == (bs (Lib.itoa ((v : Int)))).toList) = false := by simpa using he2
            clear hO hex hkj hk
            go_wp2_with fail
            obtain ⟨ι, W, ⟨i0, hi0⟩, hW, Wsur⟩ := ext_class w.drew
            have hne : Nonempty ι := ⟨i0⟩
            have WS := hid Wsur; clear Wsur
            have HW := hid hW; clear hW
            have Hi0 := hid hi0; clear hi0
            refine region_anyL (S := fun w' => ∃ i, w' = W i) (last := 17) (by kernel_rfl) ?_
            refine anyL_seg 0 11 (by kernel_rfl) (fun _ _ _ _ _ h => h) ⟨i0, Hi0.out.symm⟩ (f := 6) rfl (by kernel_rfl) (by kernel_rfl) ?_
            simp only [List.drop_zero, List.take_succ_cons, List.take_zero]
            repeat go_big_quiet_step (fail)
            refine wpQuiet_nil ?_
            refine anyL_actG (i := 11) (by kernel_rfl) rfl (by rfl) ?_
            intro K hK
            go_wp2_with fail
            refine (Number_calls ((v : Int)) HX.out w.drew).mono ?_
            rintro e w5 ⟨rfl, hb5⟩
            generalize bs (Lib.itoa ((v : Int))) = nt at *
            go_wp2_with fail
            have hS5 : ∃ i, w5 = W i := WS.out i0 _ (by rw [Hi0.out]; exact hb5)
            refine hK.out _ _ (fun _ => hS5) ?_
            clear hK K
            refine anyL_seg 12 5 (by kernel_rfl) (fun _ _ _ _ _ h => h) hS5 (f := 0) rfl (by kernel_rfl) (by kernel_rfl) ?_
            simp only [List.drop_succ_cons, List.drop_zero, List.take_succ_cons, List.take_zero]
            repeat go_big_quiet_step (fail)
            refine wpQuiet_nil ?_
            refine anyL_done (by kernel_rfl) ?_ 0
            go_wp2_with fail
            go_ret3
            exact rnum_bad HNO.out HX.out hkS ((Below.refl w.heap.size w).drew.trans hb5)
set_option maxHeartbeats 4000000 in
set_option maxRecDepth 100000 in
theorem rnumber_end (s : ByteArray) (i : Nat) (hi : i ≤ s.size) (_hs : s.size ≤ 65536) (hlt : ¬ i < s.size) (w : World) :
    Calls Tryd.prog 50 #[.string s, .int .i64 i] w (RNumPost s i w) := by
  obtain ⟨D, hD⟩ : ∃ D, D = digs (rest s i) := ⟨_, rfl⟩
  have hm : numLo2 (rest s i) = 0 := by
    unfold numLo2
    rw [List.getElem?_eq_none (by rw [rest_len]; omega)]; rfl
  obtain ⟨hd1, hd2, hd3⟩ := digs_at (rest s i)
  rw [rest_len] at hd3
  rw [← hD, hm] at hd1 hd2 hd3
  have H1 : Hid (∀ k j (_ : k = i + 0 + j) (h : k < s.size), j < D.length → D[j]? = some s[k] ∧ dig s[k] = true) := hid (by
    intro k j hk h hj
    subst hk
    exact hd1 j _ hj (by rw [rest_get (by omega)]; simp))
  have H2 : Hid (∀ k (_ : k = i + 0 + D.length) (h : k < s.size), dig s[k] = false) := hid (by
    intro k hk h
    subst hk
    exact hd2 _ (by rw [rest_get (by omega)]; simp))
  have HBIG : Hid (∀ j, 9223372036854775808 < valD 0 (D.take j) → numF (rest s i) = none) := hid (fun j h => numF_big (j := j) (by rw [← hD]; exact h))
  have HEDGE : Hid (∀ j, valD 0 (D.take j) = 9223372036854775808 → 0 = 0 → numF (rest s i) = none) := hid (fun j h h0 => numF_edge (j := j) (by rw [← hD]; exact h) (by omega))
  have HOWN : Hid (∀ (j : Nat) (x : Int), (j = D.length ∨ (j = 20 ∧ 20 ≤ D.length)) → x = (if 0 = 1 then -(valD 0 (D.take j) : Int) else (valD 0 (D.take j) : Int)) → I64 x →
      (0 < j ∧ (rest s i).take (0 + j) = Lib.itoa x → numF (rest s i) = some (x, rest s (i + (0 + j)))) ∧ (¬ (0 < j ∧ (rest s i).take (0 + j) = Lib.itoa x) → numF (rest s i) = none)) := hid (by
    intro j x h1 h2 h3
    have := numF_own (l := rest s i) (j := j) (x := x) (by rw [← hD]; exact h1) (by rw [← hD, hm]; exact h2) h3
    rw [hm, rest_rest] at this
    exact this)
  clear hd1 hd2 hD hm
  have hlt' : ¬ (i : Int) < s.size := by omega
  go_enter Tryd.func50, Tryd.ntmps50
  go_wp2_with fail
  go_loop [7, 9] (fun vk vx => ∃ (k j v : Nat), k = i + 0 + j ∧ v = valD 0 (D.take j) ∧ j ≤ D.length ∧ j ≤ 20 ∧ v ≤ 9223372036854775808 ∧ vk = .int .i64 (k : Int) ∧ vx = .int .i64 (-(v : Int))) (fun vk _ => s.size - (intOf vk).toNat)
  case atStart => exact ⟨i + 0, 0, 0, by omega, rfl, by omega, by omega, by omega, by go_num, rfl⟩
  case round =>
    obtain ⟨k, j, v, hk, hvv, hj, hj20, hvle, rfl, rfl⟩ := hrel
    have HVV := hid hvv
    have HK := hid hk
    have hkS : k ≤ s.size := by omega
    have hkl : i + 0 ≤ k := by omega
    clear hvv
    by_cases hks : k < s.size
    · have hks' : (k : Int) < s.size := by omega
      omega
    · have hks' : ¬ (k : Int) < s.size := by omega
      have hend : j = D.length ∨ (j = 20 ∧ 20 ≤ D.length) := .inl (by omega)
      by_cases hv9 : v = 9223372036854775808
      · have HNO := hid (HEDGE.out j (by rw [← HVV.out, hv9]) (by simp))
        subst hv9
        clear hk
        go_wp2_with fail
        go_ret3
        exact rnum_bad HNO.out (I64.of (by decide) (by decide)) hi (Below.refl _ _)
      · have hv9' : ¬ (-(v : Int)) = -9223372036854775808 := by omega
        have hv9'' : (-(v : Int) == -9223372036854775808) = false := by simpa using hv9'
        have hX : I64 ((v : Int)) := ⟨by omega, by omega⟩
        have hO := HOWN.out j ((v : Int)) hend (by rw [← HVV.out]; simp) hX
        have HX := hid hX
        clear hX
        by_cases hj0 : j = 0
        · have HNO := hid (hO.2 (by omega))
          have hjk : ¬ (i : Int) < k := by omega
          have hjk1 : decide ((i : Int) < k) = false := decide_eq_false hjk
          have hjk2 : ¬ i < k := by omega
          have hjk3 : decide (i < k) = false := decide_eq_false hjk2
          clear hO hk
          go_wp2_with fail
          obtain ⟨ι, W, ⟨i0, hi0⟩, hW, Wsur⟩ := ext_class w.drew
          have hne : Nonempty ι := ⟨i0⟩
          have WS := hid Wsur; clear Wsur
          have HW := hid hW; clear hW
          have Hi0 := hid hi0; clear hi0
          refine region_anyL (S := fun w' => ∃ i, w' = W i) (last := 17) (by kernel_rfl) ?_
          refine anyL_seg 0 11 (by kernel_rfl) (fun _ _ _ _ _ h => h) ⟨i0, Hi0.out.symm⟩ (f := 6) rfl (by kernel_rfl) (by kernel_rfl) ?_
          simp only [List.drop_zero, List.take_succ_cons, List.take_zero]
          repeat go_big_quiet_step (fail)
          refine wpQuiet_nil ?_
          refine anyL_skipD (i := 11) (by kernel_rfl) rfl (by rfl) (by rfl) ⟨i0, Hi0.out.symm⟩ ?_
          refine anyL_seg 12 5 (by kernel_rfl) (fun _ _ _ _ _ h => h) ⟨i0, Hi0.out.symm⟩ (f := 0) rfl (by kernel_rfl) (by kernel_rfl) ?_
          simp only [List.drop_succ_cons, List.drop_zero, List.take_succ_cons, List.take_zero]
          repeat go_big_quiet_step (fail)
          refine wpQuiet_nil ?_
          refine anyL_done (by kernel_rfl) ?_ 0
          go_wp2_with fail
          go_ret3
          exact rnum_bad HNO.out HX.out hkS ((Below.refl _ _).drew)
        · have hjk : (i : Int) < k := by omega
          have hjk1 : decide ((i : Int) < k) = true := decide_eq_true hjk
          have hjk2 : i < k := by omega
          have hjk3 : decide (i < k) = true := decide_eq_true hjk2
          have hex : (s.extract i k).data.toList = (rest s i).take (0 + j) := by rw [← rest_take, hk, Nat.add_assoc]
          have hkj : k = i + (0 + j) := by omega
          have HKJ := hid hkj
          by_cases he : s.extract i k = bs (Lib.itoa ((v : Int)))
          · have HYES := hid (hO.1 ⟨by omega, by rw [← hex, he]; rfl⟩)
            have he2 : (s.extract i k).toList = (bs (Lib.itoa ((v : Int)))).toList := by rw [he]
            have he3 : ((s.extract i k).toList == (bs (Lib.itoa ((v : Int)))).toList) = true := by rw [he]; simp
            clear hO hex hkj hk
            go_wp2_with fail
            obtain ⟨ι, W, ⟨i0, hi0⟩, hW, Wsur⟩ := ext_class w.drew
            have hne : Nonempty ι := ⟨i0⟩
            have WS := hid Wsur; clear Wsur
            have HW := hid hW; clear hW
            have Hi0 := hid hi0; clear hi0
            refine region_anyL (S := fun w' => ∃ i, w' = W i) (last := 17) (by kernel_rfl) ?_
            refine anyL_seg 0 11 (by kernel_rfl) (fun _ _ _ _ _ h => h) ⟨i0, Hi0.out.symm⟩ (f := 6) rfl (by kernel_rfl) (by kernel_rfl) ?_
            simp only [List.drop_zero, List.take_succ_cons, List.take_zero]
            repeat go_big_quiet_step (fail)
            refine wpQuiet_nil ?_
            refine anyL_actG (i := 11) (by kernel_rfl) rfl (by rfl) ?_
            intro K hK
            go_wp2_with fail
            refine (Number_calls ((v : Int)) HX.out w.drew).mono ?_
            rintro e w5 ⟨rfl, hb5⟩
            generalize bs (Lib.itoa ((v : Int))) = nt at *
            go_wp2_with fail
            have hS5 : ∃ i, w5 = W i := WS.out i0 _ (by rw [Hi0.out]; exact hb5)
            refine hK.out _ _ (fun _ => hS5) ?_
            clear hK K
            refine anyL_seg 12 5 (by kernel_rfl) (fun _ _ _ _ _ h => h) hS5 (f := 0) rfl (by kernel_rfl) (by kernel_rfl) ?_
            simp only [List.drop_succ_cons, List.drop_zero, List.take_succ_cons, List.take_zero]
            repeat go_big_quiet_step (fail)
            refine wpQuiet_nil ?_
            refine anyL_done (by kernel_rfl) ?_ 0
            go_wp2_with fail
            go_ret3
            exact rnum_good (by rw [HKJ.out]; exact HYES.out) HX.out hkS ((Below.refl w.heap.size w).drew.trans hb5)
          · have HNO := hid (hO.2 (fun h => he (byteArray_ext (by rw [hex, h.2]; rfl))))
            have he2 : ¬ (s.extract i k).toList = (bs (Lib.itoa ((v : Int)))).toList := fun h => he (byteArray_ext (by rw [ByteArray.toList_eq, ByteArray.toList_eq] at h; exact h))
            have he3 : ((s.extract i k).toList == (bs (Lib.itoa ((v : Int)))).toList) = false := by simpa using he2
            clear hO hex hkj hk
            go_wp2_with fail
            obtain ⟨ι, W, ⟨i0, hi0⟩, hW, Wsur⟩ := ext_class w.drew
            have hne : Nonempty ι := ⟨i0⟩
            have WS := hid Wsur; clear Wsur
            have HW := hid hW; clear hW
            have Hi0 := hid hi0; clear hi0
            refine region_anyL (S := fun w' => ∃ i, w' = W i) (last := 17) (by kernel_rfl) ?_
            refine anyL_seg 0 11 (by kernel_rfl) (fun _ _ _ _ _ h => h) ⟨i0, Hi0.out.symm⟩ (f := 6) rfl (by kernel_rfl) (by kernel_rfl) ?_
            simp only [List.drop_zero, List.take_succ_cons, List.take_zero]
            repeat go_big_quiet_step (fail)
            refine wpQuiet_nil ?_
            refine anyL_actG (i := 11) (by kernel_rfl) rfl (by rfl) ?_
            intro K hK
            go_wp2_with fail
            refine (Number_calls ((v : Int)) HX.out w.drew).mono ?_
            rintro e w5 ⟨rfl, hb5⟩
            generalize bs (Lib.itoa ((v : Int))) = nt at *
            go_wp2_with fail
            have hS5 : ∃ i, w5 = W i := WS.out i0 _ (by rw [Hi0.out]; exact hb5)
            refine hK.out _ _ (fun _ => hS5) ?_
            clear hK K
            refine anyL_seg 12 5 (by kernel_rfl) (fun _ _ _ _ _ h => h) hS5 (f := 0) rfl (by kernel_rfl) (by kernel_rfl) ?_
            simp only [List.drop_succ_cons, List.drop_zero, List.take_succ_cons, List.take_zero]
            repeat go_big_quiet_step (fail)
            refine wpQuiet_nil ?_
            refine anyL_done (by kernel_rfl) ?_ 0
            go_wp2_with fail
            go_ret3
            exact rnum_bad HNO.out HX.out hkS ((Below.refl w.heap.size w).drew.trans hb5)
theorem rnumber_calls (s : ByteArray) (i : Nat) (hi : i ≤ s.size) (hs : s.size ≤ 65536) (w : World) :
    Calls Tryd.prog 50 #[.string s, .int .i64 i] w (RNumPost s i w) := by
  by_cases h : i < s.size
  · by_cases h45 : s[i] = 45
    · exact rnumber_neg s i hi hs h h45 w
    · exact rnumber_pos s i hi hs h h45 w
  · exact rnumber_end s i hi hs h w
end Go.Proofs.YtcdnkmefcldfmaaDoor
