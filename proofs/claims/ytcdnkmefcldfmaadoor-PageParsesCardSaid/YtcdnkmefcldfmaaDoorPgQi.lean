/-
  The reference's Parse.
-/
import Derived.Test.YtcdnkmefcldfmaaDoorPgQh
import Derived.Test.YtcdnkmefcldfmaaDoorPgPa
namespace Go.Proofs.YtcdnkmefcldfmaaDoor
open Go.RowKit Go.Um

/-- where a line ends. -/
def lnLen (l : By) : Nat := (l.takeWhile (fun c => c ≠ 10)).length
theorem lnLen_at (l : By) : (∀ j c, j < lnLen l → l[j]? = some c → c ≠ 10) ∧ (∀ c, l[lnLen l]? = some c → c = 10) ∧ lnLen l ≤ l.length := by
  unfold lnLen
  induction l with
  | nil => simp
  | cons x xs ih =>
    by_cases hx : x = 10
    · subst hx
      rw [List.takeWhile_cons_of_neg (by simp)]
      refine ⟨fun j c hj => by simp at hj, fun c hc => ?_, by simp⟩
      simp at hc
      exact hc.symm
    · rw [List.takeWhile_cons_of_pos (by simpa using hx)]
      refine ⟨fun j c hj hc => ?_, fun c hc => ?_, ?_⟩
      · cases j with
        | zero => simp at hc; subst hc; exact hx
        | succ j => exact ih.1 j c (by simpa using hj) (by simpa using hc)
      · exact ih.2.1 c (by simpa using hc)
      · simpa using ih.2.2
theorem cut_end {l : By} (h : lnLen l = l.length) : cutL l = none := by
  unfold cutL
  rw [if_neg]
  intro hm
  obtain ⟨j, hj, hc⟩ := List.getElem_of_mem hm
  exact (lnLen_at l).1 j 10 (by omega) (by rw [List.getElem?_eq_getElem hj, hc]) rfl
theorem takeWhile_take (l : By) : l.takeWhile (fun c => c ≠ 10) = l.take (lnLen l) := by
  unfold lnLen
  induction l with
  | nil => rfl
  | cons x xs ih =>
    by_cases hx : x = 10
    · rw [List.takeWhile_cons_of_neg (by simpa using hx)]; rfl
    · rw [List.takeWhile_cons_of_pos (by simpa using hx), List.length_cons, List.take_succ_cons, ← ih]
theorem cut_at {l : By} (h : lnLen l < l.length) : cutL l = some (l.take (lnLen l), l.drop (lnLen l + 1)) := by
  unfold cutL
  have h1 : 10 ∈ l := by
    have h2 := (lnLen_at l).2.1 _ (List.getElem?_eq_getElem h)
    rw [← h2]
    exact List.getElem_mem h
  rw [if_pos h1]
  rw [takeWhile_take]
  have : (List.take (lnLen l) l).length = lnLen l := by rw [List.length_take]; omega
  rw [this]
def RParsePost (l : By) (w : World) (e : Ending) (w' : World) : Prop := Below w.heap.size w w' ∧
  (match parseF (l.length + 1) 1 d0 l with
  | .inl d => ∃ vr vf, e = .returned (.tuple #[aggD d vr vf, .int .i64 0]) ∧ (listR ruleR).rel w' (upto w'.heap.size) [vr] d.rules ∧ (listR finalR).rel w' (upto w'.heap.size) [vf] d.finals ∧
      (I64 d.inn ∧ I64 d.out ∧ I64 d.states ∧ I64 d.start)
  | .inr n => e = .returned (.tuple #[zeroD, .int .i64 n]))
theorem rparse_bad {l : By} {w w' : World} {n : Nat} (h : parseF (l.length + 1) 1 d0 l = .inr n) (hb : Below w.heap.size w w') : RParsePost l w (.returned (.tuple #[zeroD, .int .i64 n])) w' := by
  refine ⟨hb, ?_⟩
  rw [h]
theorem rparse_ok {l : By} {w w' : World} {d : Desc} {base : Nat} {vr vf : Value} (h : parseF (l.length + 1) 1 d0 l = .inl d) (hb : Below w.heap.size w w') (hd : DescV base d w' vr vf) : RParsePost l w (.returned (.tuple #[aggD d vr vf, .int .i64 0])) w' := by
  refine ⟨hb, ?_⟩
  rw [h]
  exact ⟨vr, vf, rfl, hd.rules.rel (fun g hg => hg.lt) (fun g hg => (hd.rules.tag g hg).1.lt), hd.finals.rel (fun g hg => hg.lt) (fun g hg => (hd.finals.tag g hg).1.lt), hd.nums⟩

set_option maxHeartbeats 4000000 in
set_option maxRecDepth 100000 in
theorem rParse_calls (s : ByteArray) (hs : s.size ≤ 65536) (w : World) : Calls Tryd.prog 14 #[.string s] w (RParsePost s.data.toList w) := by
  obtain ⟨w0, hw0⟩ : ∃ w0, w0 = (w.alloc (.cells #[.int .i64 0, .int .i64 0, .int .i64 0, .int .i64 0, .slice none 0 0, .slice none 0 0] 26)).alloc (.cells #[.int .i64 0, .int .i64 0, .int .i64 0, .int .i64 0, .slice none 0 0, .slice none 0 0] 26) := ⟨_, rfl⟩
  have hB0 : Below w.heap.size w w0 := by rw [hw0]; exact ((Below.refl _ _).alloc (Nat.le_refl _) _).alloc (by simp) _
  have hR0 : w0.heap[w.heap.size]? = some (.cells #[.int .i64 0, .int .i64 0, .int .i64 0, .int .i64 0, .slice none 0 0, .slice none 0 0] 26 (0, 0)) := by rw [hw0, Below.heap_alloc _ _ _ (by simp)]; exact heap_alloc_new _ _
  have hP0 : w0.heap[w.heap.size + 1]? = some (.cells #[.int .i64 0, .int .i64 0, .int .i64 0, .int .i64 0, .slice none 0 0, .slice none 0 0] 26 (0, 0)) := by
    have := heap_alloc_new (w.alloc (.cells #[.int .i64 0, .int .i64 0, .int .i64 0, .int .i64 0, .slice none 0 0, .slice none 0 0] 26)) (.cells #[.int .i64 0, .int .i64 0, .int .i64 0, .int .i64 0, .slice none 0 0, .slice none 0 0] 26)
    rw [hw0]
    simpa using this
  have hD0 : DescV (w.heap.size + 2) d0 w0 (.slice none 0 0) (.slice none 0 0) := ⟨OwnR.nil, OwnR.nil, ⟨I64.of (by decide) (by decide), I64.of (by decide) (by decide), I64.of (by decide) (by decide), I64.of (by decide) (by decide)⟩⟩
  have HR0 := hid hR0
  have HP0 := hid hP0
  have HB0 := hid hB0
  have HD0 := hid hD0
  have HW0 := hid hw0
  have hs0 : w.heap.size + 2 ≤ w0.heap.size := by rw [hw0]; simp
  clear hR0 hP0 hB0 hw0 hD0
  go_enter Tryd.func14, Tryd.ntmps14
  go_wp2_with fail
  rw [← HW0.out]
  clear HW0
  go_loopw [5, 6] (fun vn vi wr => ∃ (n i : Nat) (d : Desc) (vr vf : Value) (m : Nat), vn = .int .i64 n ∧ vi = .int .i64 i ∧ i ≤ s.size ∧ wr.heap[w.heap.size + 1]? = some (.cells #[.int .i64 d.inn, .int .i64 d.out, .int .i64 d.states, .int .i64 d.start, vr, vf] 26 (0, 0)) ∧ wr.heap[w.heap.size]? = some (.cells #[.int .i64 0, .int .i64 0, .int .i64 0, .int .i64 0, .slice none 0 0, .slice none 0 0] 26 (0, 0)) ∧
    DescV (w.heap.size + 2) d wr vr vf ∧ Below w.heap.size w wr ∧ w.heap.size + 2 ≤ wr.heap.size ∧ parseF m (n + 1) d (rest s i) = parseF (s.data.toList.length + 1) 1 d0 s.data.toList ∧ s.size - i < m ∧ n + (s.size - i) ≤ 70000 ∧ d.rules.length + (s.size - i) ≤ 70000 ∧ d.finals.length + (s.size - i) ≤ 70000) (fun _ vi _ => s.size - (intOf vi).toNat)
  case atStart => exact ⟨0, 0, d0, _, _, s.data.toList.length + 1, rfl, rfl, Nat.zero_le _, HP0.out, HR0.out, HD0.out, HB0.out, hs0, rfl, by rw [sizeQ]; omega, by omega, by simp [d0]; omega, by simp [d0]; omega⟩
  case round =>
    obtain ⟨wo, hwo⟩ : ∃ wo, wo = wr := ⟨_, rfl⟩
    subst hwo
    obtain ⟨n, i, d, vr, vf, m, rfl, rfl, his, hP, hR, hD, hB, hszo, hpf, him, hnt, hrt, hft⟩ := hrel
    obtain ⟨⟨Ar, cr, rfl⟩, Af, cf, rfl⟩ := hD.form
    have HPF := hid hpf
    have HD := hid hD
    have HP : Hid (wo.heap[w.heap.size + 1]? = some (.cells #[.int .i64 d.inn, .int .i64 d.out, .int .i64 d.states, .int .i64 d.start, .slice Ar d.rules.length cr, .slice Af d.finals.length cf] 26 (0, 0))) := hid hP
    have HR := hid hR
    obtain ⟨m', rfl⟩ : ∃ m', m = m' + 1 := ⟨m - 1, by omega⟩
    obtain ⟨t, ht⟩ : ∃ t, t = lnLen (rest s i) := ⟨_, rfl⟩
    obtain ⟨ht1, ht2, ht3⟩ := lnLen_at (rest s i)
    rw [← ht] at ht1 ht2 ht3
    rw [rest_len] at ht3
    have H1 : Hid (∀ k (_ : i ≤ k) (_ : k < i + t) (h : k < s.size), s[k] ≠ 10) := hid (by
      intro k h1 h2 h
      refine ht1 (k - i) _ (by omega) ?_
      rw [rest_get (by omega)]
      simp [show i + (k - i) = k by omega])
    have H2 : Hid (∀ k (_ : k = i + t) (h : k < s.size), s[k] = 10) := hid (by
      intro k h1 h
      subst h1
      refine ht2 _ ?_
      rw [rest_get (by omega)])
    have HT := hid ht
    clear hpf hD hP hR ht1 ht2 ht
    by_cases hn0 : n = 0
    · subst hn0
      by_cases hin : i < s.size
      · have hin' : (i : Int) < s.size := by omega
        have HCD : Hid (¬ (rest s i = [] ∧ 1 ≠ 1)) := hid (fun h => h.2 rfl)
        go_wp2_with fail
        go_loop [7] (fun vk => ∃ k : Nat, vk = .int .i64 k ∧ i ≤ k ∧ k ≤ i + t) (fun vk => s.size - (intOf vk).toNat)
        case atStart => exact ⟨i, rfl, Nat.le_refl _, by omega⟩
        case round =>
          obtain ⟨k, rfl, hik, hkt⟩ := hrel
          by_cases hks : k < s.size
          · have hks' : (k : Int) < s.size := by omega
            by_cases hkt2 : k < i + t
            · have hc := H1.out k hik hkt2 hks
              have q1 : ¬ s[k].toNat = 10 := fun h => hc (UInt8.toNat_inj.1 (by rw [h]; rfl))
              have q2 : ¬ (s[k].toNat : Int) = 10 := by omega
              have q3 : ((s[k].toNat : Int) == 10) = false := by simpa using q2
              have q4 : (s[k].toNat == 10) = false := by simpa using q1
              clear hc
              go_wp2_with fail
              refine ⟨⟨k + 1, by go_num, by omega, by omega⟩, ?_⟩
              simp [intOf]; omega
            · have hke : k = i + t := by omega
              have hc := H2.out k hke hks
              have q1 : s[k].toNat = 10 := by rw [hc]; rfl
              have q2 : (s[k].toNat : Int) = 10 := by omega
              have q3 : ((s[k].toNat : Int) == 10) = true := by simpa using q2
              have q4 : (s[k].toNat == 10) = true := by simpa using q1
              have hkn : ¬ (k : Int) = s.size := by omega
              have hkn2 : ((k : Int) == s.size) = false := by simpa using hkn
              have hcut : cutL (rest s i) = some ((rest s i).take t, rest s (k + 1)) := by
                rw [HT.out, cut_at (by rw [← HT.out, rest_len]; omega), rest_rest, ← HT.out, hke]; rfl
              have hex : (s.extract i k).data.toList = (rest s i).take t := by rw [hke, rest_take]
              have HCUT := hid hcut
              have HEX := hid hex
              have hexs : (s.extract i k).size ≤ 65536 := by rw [ByteArray.size_extract]; omega
              have HPF2 : Hid ((match lineF true d (s.extract i k).data.toList with | none => .inr 1 | some d' => parseF m' (1 + 1) d' (rest s (k + 1))) = parseF (s.data.toList.length + 1) 1 d0 s.data.toList) := hid (by
                rw [← HPF.out, parseF, if_neg HCD.out]
                simp only [HCUT.out, HEX.out]
                rfl)
              clear hc hcut hex hke
              go_wp2_with fail
              obtain ⟨ι, W, ⟨i0, hi0⟩, hW, Wsur⟩ := held_class wo.drew (fun _ => False)
              have hne : Nonempty ι := ⟨i0⟩
              have WS := hid Wsur; clear Wsur
              have HW := hid hW; clear hW
              have Hi0 := hid hi0; clear hi0
              have hany : ∀ w' : World, ∃ i, w' = W i := fun w' => WS.out w' (fun g hg => hg.elim)
              have HANY := hid hany
              clear hany
              refine region_anyL (S := fun w' => ∃ i, w' = W i) (last := 13) (by kernel_rfl) ?_
              refine anyL_seg 1 6 (by kernel_rfl) (fun _ _ _ _ _ h => h) ⟨i0, Hi0.out.symm⟩ (f := 7) rfl (by kernel_rfl) (by kernel_rfl) ?_
              simp only [List.drop_succ_cons, List.drop_zero, List.take_succ_cons, List.take_zero]
              repeat go_big_quiet_step (fail)
              refine wpQuiet_nil ?_
              refine anyL_act (i := 0) (by kernel_rfl) rfl rfl ?_
              intro K hK
              have c0 : wo.cell? ⟨w.heap.size + 1, 0, none⟩ = some (.int .i64 d.inn) := by rw [Lib.cell_of_heap HP.out]; rfl
              have c1 : wo.cell? ⟨w.heap.size + 1, 1, none⟩ = some (.int .i64 d.out) := by rw [Lib.cell_of_heap HP.out]; rfl
              have c2 : wo.cell? ⟨w.heap.size + 1, 2, none⟩ = some (.int .i64 d.states) := by rw [Lib.cell_of_heap HP.out]; rfl
              have c3 : wo.cell? ⟨w.heap.size + 1, 3, none⟩ = some (.int .i64 d.start) := by rw [Lib.cell_of_heap HP.out]; rfl
              have c4 : wo.cell? ⟨w.heap.size + 1, 4, none⟩ = some (.slice Ar d.rules.length cr) := by rw [Lib.cell_of_heap HP.out]; rfl
              have c5 : wo.cell? ⟨w.heap.size + 1, 5, none⟩ = some (.slice Af d.finals.length cf) := by rw [Lib.cell_of_heap HP.out]; rfl
              go_wp2_with fail
              refine hK.out _ _ (fun _ => HANY.out _) ?_
              clear hK K c0 c1 c2 c3 c4 c5
              refine anyL_act (i := 7) (by kernel_rfl) rfl rfl ?_
              intro K hK
              go_wp2_with fail
              refine (rline_calls (w.heap.size + 2) true (s.extract i k) hexs d (.slice Ar d.rules.length cr) (.slice Af d.finals.length cf) wo.drew (HD.out.later (Below.refl _ _).drew) hszo (by omega) (by omega)).mono ?_
              rintro e w3 ⟨d2, Ar2, Af2, nr2, nf2, cr2, cf2, rfl, hd2, hb3⟩
              have HD2 := hid hd2
              generalize hok : (lineF true d (s.extract i k).data.toList).isSome = okv
              have HOK := hid hok
              clear hd2 hok
              unfold aggD
              go_wp2_with fail
              refine hK.out _ _ (fun _ => HANY.out _) ?_
              clear hK K
              refine anyL_seg 8 3 (by kernel_rfl) (fun _ _ _ _ _ h => h) (HANY.out _) (f := 2) rfl (by kernel_rfl) (by kernel_rfl) ?_
              simp only [List.drop_succ_cons, List.drop_zero, List.take_succ_cons, List.take_zero]
              repeat go_big_quiet_step (fail)
              refine wpQuiet_nil ?_
              have HP3 := hid ((hb3.block (w.heap.size + 1) (by omega)).trans HP.out)
              have HR3 := hid ((hb3.block w.heap.size (by omega)).trans HR.out)
              have hsz3 : w.heap.size + 2 ≤ w3.heap.size := Nat.le_trans hszo hb3.size
              have hB3 : Below w.heap.size w w3 := hB.drew.trans (hb3.mono (by omega))
              refine anyL_act (i := 11) (by kernel_rfl) rfl rfl ?_
              intro K hK
              have c0 : w3.cell? ⟨w.heap.size + 1, 0, none⟩ = some (.int .i64 d.inn) := by rw [Lib.cell_of_heap HP3.out]; rfl
              have c1 : w3.cell? ⟨w.heap.size + 1, 1, none⟩ = some (.int .i64 d.out) := by rw [Lib.cell_of_heap HP3.out]; rfl
              have c2 : w3.cell? ⟨w.heap.size + 1, 2, none⟩ = some (.int .i64 d.states) := by rw [Lib.cell_of_heap HP3.out]; rfl
              have c3 : w3.cell? ⟨w.heap.size + 1, 3, none⟩ = some (.int .i64 d.start) := by rw [Lib.cell_of_heap HP3.out]; rfl
              have c4 : w3.cell? ⟨w.heap.size + 1, 4, none⟩ = some (.slice Ar d.rules.length cr) := by rw [Lib.cell_of_heap HP3.out]; rfl
              have c5 : w3.cell? ⟨w.heap.size + 1, 5, none⟩ = some (.slice Af d.finals.length cf) := by rw [Lib.cell_of_heap HP3.out]; rfl
              have cf0 : w3.frozen? ⟨w.heap.size + 1, 0, none⟩ = false := Lib.frozen_of_heap HP3.out _
              have cf1 : w3.frozen? ⟨w.heap.size + 1, 1, none⟩ = false := Lib.frozen_of_heap HP3.out _
              have cf2 : w3.frozen? ⟨w.heap.size + 1, 2, none⟩ = false := Lib.frozen_of_heap HP3.out _
              have cf3 : w3.frozen? ⟨w.heap.size + 1, 3, none⟩ = false := Lib.frozen_of_heap HP3.out _
              have cf4 : w3.frozen? ⟨w.heap.size + 1, 4, none⟩ = false := Lib.frozen_of_heap HP3.out _
              have cf5 : w3.frozen? ⟨w.heap.size + 1, 5, none⟩ = false := Lib.frozen_of_heap HP3.out _
              go_wp2_with fail
              clear c0 c1 c2 c3 c4 c5 cf0 cf1 cf2 cf3 cf4 cf5
              have hk6 := fun g hg => set6_heap (w := w3) (b := w.heap.size + 1) (v0 := .int .i64 d2.inn) (v1 := .int .i64 d2.out) (v2 := .int .i64 d2.states) (v3 := .int .i64 d2.start) (v4 := .slice Ar2 nr2 cr2) (v5 := .slice Af2 nf2 cf2) g hg
              have ha6 := set6_at (v0 := .int .i64 d2.inn) (v1 := .int .i64 d2.out) (v2 := .int .i64 d2.states) (v3 := .int .i64 d2.start) (v4 := .slice Ar2 nr2 cr2) (v5 := .slice Af2 nf2 cf2) HP3.out
              have hb6 := set6_below (b := w.heap.size + 1) (v0 := .int .i64 d2.inn) (v1 := .int .i64 d2.out) (v2 := .int .i64 d2.states) (v3 := .int .i64 d2.start) (v4 := .slice Ar2 nr2 cr2) (v5 := .slice Af2 nf2 cf2) hB3 (by omega)
              have hs6 := set6_size (w := w3) (b := w.heap.size + 1) (v0 := .int .i64 d2.inn) (v1 := .int .i64 d2.out) (v2 := .int .i64 d2.states) (v3 := .int .i64 d2.start) (v4 := .slice Ar2 nr2 cr2) (v5 := .slice Af2 nf2 cf2)
              unfold set6 at hk6 ha6 hb6 hs6
              generalize ((((((w3.setCell ⟨w.heap.size + 1, 0, none⟩ (.int .i64 d2.inn)).setCell ⟨w.heap.size + 1, 1, none⟩ (.int .i64 d2.out)).setCell ⟨w.heap.size + 1, 2, none⟩ (.int .i64 d2.states)).setCell ⟨w.heap.size + 1, 3, none⟩ (.int .i64 d2.start)).setCell ⟨w.heap.size + 1, 4, none⟩ (.slice Ar2 nr2 cr2)).setCell ⟨w.heap.size + 1, 5, none⟩ (.slice Af2 nf2 cf2)) = w6 at hk6 ha6 hb6 hs6 ⊢
              refine hK.out _ _ (fun _ => HANY.out _) ?_
              clear hK K
              refine anyL_seg 12 1 (by kernel_rfl) (fun _ _ _ _ _ h => h) (HANY.out _) (f := 0) rfl (by kernel_rfl) (by kernel_rfl) ?_
              simp only [List.drop_succ_cons, List.drop_zero, List.take_succ_cons, List.take_zero]
              repeat go_big_quiet_step (fail)
              refine wpQuiet_nil ?_
              refine anyL_done (by kernel_rfl) ?_ _
              have HA6 := hid ha6
              have HRE := hid ((hk6 w.heap.size (by omega)).trans HR3.out)
              have HK6 := hid hk6
              clear HANY WS HW Hi0 hne i0 W ι ha6 hk6
              cases okv with
              | false =>
                have HF : Hid (parseF (s.data.toList.length + 1) 1 d0 s.data.toList = .inr 1) := hid (by
                  rw [← HPF2.out, show lineF true d (s.extract i k).data.toList = none by have := HOK.out; simpa using this])
                have r0 : w6.cell? ⟨w.heap.size, 0, none⟩ = some (.int .i64 0) := by rw [Lib.cell_of_heap HRE.out]; rfl
                have r1 : w6.cell? ⟨w.heap.size, 1, none⟩ = some (.int .i64 0) := by rw [Lib.cell_of_heap HRE.out]; rfl
                have r2 : w6.cell? ⟨w.heap.size, 2, none⟩ = some (.int .i64 0) := by rw [Lib.cell_of_heap HRE.out]; rfl
                have r3 : w6.cell? ⟨w.heap.size, 3, none⟩ = some (.int .i64 0) := by rw [Lib.cell_of_heap HRE.out]; rfl
                have r4 : w6.cell? ⟨w.heap.size, 4, none⟩ = some (.slice none 0 0) := by rw [Lib.cell_of_heap HRE.out]; rfl
                have r5 : w6.cell? ⟨w.heap.size, 5, none⟩ = some (.slice none 0 0) := by rw [Lib.cell_of_heap HRE.out]; rfl
                have rf0 : w6.frozen? ⟨w.heap.size, 0, none⟩ = false := Lib.frozen_of_heap HRE.out _
                have rf1 : w6.frozen? ⟨w.heap.size, 1, none⟩ = false := Lib.frozen_of_heap HRE.out _
                have rf2 : w6.frozen? ⟨w.heap.size, 2, none⟩ = false := Lib.frozen_of_heap HRE.out _
                have rf3 : w6.frozen? ⟨w.heap.size, 3, none⟩ = false := Lib.frozen_of_heap HRE.out _
                have rf4 : w6.frozen? ⟨w.heap.size, 4, none⟩ = false := Lib.frozen_of_heap HRE.out _
                have rf5 : w6.frozen? ⟨w.heap.size, 5, none⟩ = false := Lib.frozen_of_heap HRE.out _
                go_wp2_with fail
                exact bodyPost_ret (v := .tuple #[.agg #[.int .i64 0, .int .i64 0, .int .i64 0, .int .i64 0, .slice none 0 0, .slice none 0 0], .int .i64 1]) (by simp [results, Tryd.results14, go_sem, r0, r1, r2, r3, r4, r5]) rfl (rparse_bad (n := 1) HF.out (set6_below hb6 (Nat.le_refl _)))
              | true =>
                obtain ⟨d', hd'⟩ := Option.isSome_iff_exists.1 HOK.out
                obtain ⟨rfl, hD2⟩ := HD2.out d' hd'
                have hgr := line_grows hd'
                have HPF3 : Hid (parseF m' (1 + 1) d2 (rest s (k + 1)) = parseF (s.data.toList.length + 1) 1 d0 s.data.toList) := hid (by rw [← HPF2.out, hd'])
                have hf2 := hD2.form
                have HDE := hid (hD2.away ⟨_, _, HP3.out⟩ HK6.out)
                clear hd' hf2 hD2
                go_wp2_with fail
                refine ⟨⟨1, k + 1, d2, .slice Ar2 nr2 cr2, .slice Af2 nf2 cf2, m', rfl, by go_num, by omega, HA6.out, HRE.out, HDE.out, hb6, by omega, HPF3.out, by omega, by omega, by omega, by omega⟩, ?_⟩
                simp [intOf]; omega
          · have hks' : ¬ (k : Int) < s.size := by omega
            have hkn : (k : Int) = s.size := by omega
            have hkn2 : ((k : Int) == s.size) = true := by simpa using hkn
            have HF : Hid (parseF (s.data.toList.length + 1) 1 d0 s.data.toList = .inr 1) := hid (by
              rw [← HPF.out, parseF, if_neg HCD.out]
              rw [cut_end (by rw [← HT.out, rest_len]; omega)])
            have HRE := HR
            have r0 : wo.cell? ⟨w.heap.size, 0, none⟩ = some (.int .i64 0) := by rw [Lib.cell_of_heap HRE.out]; rfl
            have r1 : wo.cell? ⟨w.heap.size, 1, none⟩ = some (.int .i64 0) := by rw [Lib.cell_of_heap HRE.out]; rfl
            have r2 : wo.cell? ⟨w.heap.size, 2, none⟩ = some (.int .i64 0) := by rw [Lib.cell_of_heap HRE.out]; rfl
            have r3 : wo.cell? ⟨w.heap.size, 3, none⟩ = some (.int .i64 0) := by rw [Lib.cell_of_heap HRE.out]; rfl
            have r4 : wo.cell? ⟨w.heap.size, 4, none⟩ = some (.slice none 0 0) := by rw [Lib.cell_of_heap HRE.out]; rfl
            have r5 : wo.cell? ⟨w.heap.size, 5, none⟩ = some (.slice none 0 0) := by rw [Lib.cell_of_heap HRE.out]; rfl
            have rf0 : wo.frozen? ⟨w.heap.size, 0, none⟩ = false := Lib.frozen_of_heap HRE.out _
            have rf1 : wo.frozen? ⟨w.heap.size, 1, none⟩ = false := Lib.frozen_of_heap HRE.out _
            have rf2 : wo.frozen? ⟨w.heap.size, 2, none⟩ = false := Lib.frozen_of_heap HRE.out _
            have rf3 : wo.frozen? ⟨w.heap.size, 3, none⟩ = false := Lib.frozen_of_heap HRE.out _
            have rf4 : wo.frozen? ⟨w.heap.size, 4, none⟩ = false := Lib.frozen_of_heap HRE.out _
            have rf5 : wo.frozen? ⟨w.heap.size, 5, none⟩ = false := Lib.frozen_of_heap HRE.out _
            go_wp2_with fail
            exact bodyPost_ret (v := .tuple #[.agg #[.int .i64 0, .int .i64 0, .int .i64 0, .int .i64 0, .slice none 0 0, .slice none 0 0], .int .i64 1]) (by simp [results, Tryd.results14, go_sem, r0, r1, r2, r3, r4, r5]) rfl (rparse_bad (n := 1) HF.out (set6_below hB (Nat.le_refl _)))
      · have hin' : ¬ (i : Int) < s.size := by omega
        have HCD : Hid (¬ (rest s i = [] ∧ 1 ≠ 1)) := hid (fun h => h.2 rfl)
        go_wp2_with fail
        go_loop [7] (fun vk => ∃ k : Nat, vk = .int .i64 k ∧ i ≤ k ∧ k ≤ i + t) (fun vk => s.size - (intOf vk).toNat)
        case atStart => exact ⟨i, rfl, Nat.le_refl _, by omega⟩
        case round =>
          obtain ⟨k, rfl, hik, hkt⟩ := hrel
          by_cases hks : k < s.size
          · have hks' : (k : Int) < s.size := by omega
            omega
          · have hks' : ¬ (k : Int) < s.size := by omega
            have hkn : (k : Int) = s.size := by omega
            have hkn2 : ((k : Int) == s.size) = true := by simpa using hkn
            have HF : Hid (parseF (s.data.toList.length + 1) 1 d0 s.data.toList = .inr 1) := hid (by
              rw [← HPF.out, parseF, if_neg HCD.out]
              rw [cut_end (by rw [← HT.out, rest_len]; omega)])
            have HRE := HR
            have r0 : wo.cell? ⟨w.heap.size, 0, none⟩ = some (.int .i64 0) := by rw [Lib.cell_of_heap HRE.out]; rfl
            have r1 : wo.cell? ⟨w.heap.size, 1, none⟩ = some (.int .i64 0) := by rw [Lib.cell_of_heap HRE.out]; rfl
            have r2 : wo.cell? ⟨w.heap.size, 2, none⟩ = some (.int .i64 0) := by rw [Lib.cell_of_heap HRE.out]; rfl
            have r3 : wo.cell? ⟨w.heap.size, 3, none⟩ = some (.int .i64 0) := by rw [Lib.cell_of_heap HRE.out]; rfl
            have r4 : wo.cell? ⟨w.heap.size, 4, none⟩ = some (.slice none 0 0) := by rw [Lib.cell_of_heap HRE.out]; rfl
            have r5 : wo.cell? ⟨w.heap.size, 5, none⟩ = some (.slice none 0 0) := by rw [Lib.cell_of_heap HRE.out]; rfl
            have rf0 : wo.frozen? ⟨w.heap.size, 0, none⟩ = false := Lib.frozen_of_heap HRE.out _
            have rf1 : wo.frozen? ⟨w.heap.size, 1, none⟩ = false := Lib.frozen_of_heap HRE.out _
            have rf2 : wo.frozen? ⟨w.heap.size, 2, none⟩ = false := Lib.frozen_of_heap HRE.out _
            have rf3 : wo.frozen? ⟨w.heap.size, 3, none⟩ = false := Lib.frozen_of_heap HRE.out _
            have rf4 : wo.frozen? ⟨w.heap.size, 4, none⟩ = false := Lib.frozen_of_heap HRE.out _
            have rf5 : wo.frozen? ⟨w.heap.size, 5, none⟩ = false := Lib.frozen_of_heap HRE.out _
            go_wp2_with fail
            exact bodyPost_ret (v := .tuple #[.agg #[.int .i64 0, .int .i64 0, .int .i64 0, .int .i64 0, .slice none 0 0, .slice none 0 0], .int .i64 1]) (by simp [results, Tryd.results14, go_sem, r0, r1, r2, r3, r4, r5]) rfl (rparse_bad (n := 1) HF.out (set6_below hB (Nat.le_refl _)))
    · have hn0' : ¬ (n : Int) = 0 := by omega
      have hn2 : ((n : Int) == 0) = false := by simpa using hn0'
      have hn3 : (n == 0) = false := by simpa using hn0
      have hn4 : ¬ (n : Int) + 1 = 1 := by omega
      have hn5 : ((n : Int) + 1 == 1) = false := by simpa using hn4
      have hn6 : ¬ n + 1 = 1 := by omega
      have hn7 : (n + 1 == 1) = false := by simpa using hn6
      by_cases hin : i < s.size
      · have hin' : (i : Int) < s.size := by omega
        have HCD : Hid (¬ (rest s i = [] ∧ (n + 1) ≠ 1)) := hid (fun h => rest_more hin h.1)
        go_wp2_with fail
        go_loop [7] (fun vk => ∃ k : Nat, vk = .int .i64 k ∧ i ≤ k ∧ k ≤ i + t) (fun vk => s.size - (intOf vk).toNat)
        case atStart => exact ⟨i, rfl, Nat.le_refl _, by omega⟩
        case round =>
          obtain ⟨k, rfl, hik, hkt⟩ := hrel
          by_cases hks : k < s.size
          · have hks' : (k : Int) < s.size := by omega
            by_cases hkt2 : k < i + t
            · have hc := H1.out k hik hkt2 hks
              have q1 : ¬ s[k].toNat = 10 := fun h => hc (UInt8.toNat_inj.1 (by rw [h]; rfl))
              have q2 : ¬ (s[k].toNat : Int) = 10 := by omega
              have q3 : ((s[k].toNat : Int) == 10) = false := by simpa using q2
              have q4 : (s[k].toNat == 10) = false := by simpa using q1
              clear hc
              go_wp2_with fail
              refine ⟨⟨k + 1, by go_num, by omega, by omega⟩, ?_⟩
              simp [intOf]; omega
            · have hke : k = i + t := by omega
              have hc := H2.out k hke hks
              have q1 : s[k].toNat = 10 := by rw [hc]; rfl
              have q2 : (s[k].toNat : Int) = 10 := by omega
              have q3 : ((s[k].toNat : Int) == 10) = true := by simpa using q2
              have q4 : (s[k].toNat == 10) = true := by simpa using q1
              have hkn : ¬ (k : Int) = s.size := by omega
              have hkn2 : ((k : Int) == s.size) = false := by simpa using hkn
              have hcut : cutL (rest s i) = some ((rest s i).take t, rest s (k + 1)) := by
                rw [HT.out, cut_at (by rw [← HT.out, rest_len]; omega), rest_rest, ← HT.out, hke]; rfl
              have hex : (s.extract i k).data.toList = (rest s i).take t := by rw [hke, rest_take]
              have HCUT := hid hcut
              have HEX := hid hex
              have hexs : (s.extract i k).size ≤ 65536 := by rw [ByteArray.size_extract]; omega
              have HPF2 : Hid ((match lineF false d (s.extract i k).data.toList with | none => .inr (n + 1) | some d' => parseF m' ((n + 1) + 1) d' (rest s (k + 1))) = parseF (s.data.toList.length + 1) 1 d0 s.data.toList) := hid (by
                rw [← HPF.out, parseF, if_neg HCD.out]
                simp only [HCUT.out, HEX.out, show decide (n + 1 = 1) = false from decide_eq_false (by omega)]
                rfl)
              clear hc hcut hex hke
              go_wp2_with fail
              obtain ⟨ι, W, ⟨i0, hi0⟩, hW, Wsur⟩ := held_class wo.drew (fun _ => False)
              have hne : Nonempty ι := ⟨i0⟩
              have WS := hid Wsur; clear Wsur
              have HW := hid hW; clear hW
              have Hi0 := hid hi0; clear hi0
              have hany : ∀ w' : World, ∃ i, w' = W i := fun w' => WS.out w' (fun g hg => hg.elim)
              have HANY := hid hany
              clear hany
              refine region_anyL (S := fun w' => ∃ i, w' = W i) (last := 13) (by kernel_rfl) ?_
              refine anyL_seg 1 6 (by kernel_rfl) (fun _ _ _ _ _ h => h) ⟨i0, Hi0.out.symm⟩ (f := 7) rfl (by kernel_rfl) (by kernel_rfl) ?_
              simp only [List.drop_succ_cons, List.drop_zero, List.take_succ_cons, List.take_zero]
              repeat go_big_quiet_step (fail)
              refine wpQuiet_nil ?_
              refine anyL_act (i := 0) (by kernel_rfl) rfl rfl ?_
              intro K hK
              have c0 : wo.cell? ⟨w.heap.size + 1, 0, none⟩ = some (.int .i64 d.inn) := by rw [Lib.cell_of_heap HP.out]; rfl
              have c1 : wo.cell? ⟨w.heap.size + 1, 1, none⟩ = some (.int .i64 d.out) := by rw [Lib.cell_of_heap HP.out]; rfl
              have c2 : wo.cell? ⟨w.heap.size + 1, 2, none⟩ = some (.int .i64 d.states) := by rw [Lib.cell_of_heap HP.out]; rfl
              have c3 : wo.cell? ⟨w.heap.size + 1, 3, none⟩ = some (.int .i64 d.start) := by rw [Lib.cell_of_heap HP.out]; rfl
              have c4 : wo.cell? ⟨w.heap.size + 1, 4, none⟩ = some (.slice Ar d.rules.length cr) := by rw [Lib.cell_of_heap HP.out]; rfl
              have c5 : wo.cell? ⟨w.heap.size + 1, 5, none⟩ = some (.slice Af d.finals.length cf) := by rw [Lib.cell_of_heap HP.out]; rfl
              go_wp2_with fail
              refine hK.out _ _ (fun _ => HANY.out _) ?_
              clear hK K c0 c1 c2 c3 c4 c5
              refine anyL_act (i := 7) (by kernel_rfl) rfl rfl ?_
              intro K hK
              go_wp2_with fail
              refine (rline_calls (w.heap.size + 2) false (s.extract i k) hexs d (.slice Ar d.rules.length cr) (.slice Af d.finals.length cf) wo.drew (HD.out.later (Below.refl _ _).drew) hszo (by omega) (by omega)).mono ?_
              rintro e w3 ⟨d2, Ar2, Af2, nr2, nf2, cr2, cf2, rfl, hd2, hb3⟩
              have HD2 := hid hd2
              generalize hok : (lineF false d (s.extract i k).data.toList).isSome = okv
              have HOK := hid hok
              clear hd2 hok
              unfold aggD
              go_wp2_with fail
              refine hK.out _ _ (fun _ => HANY.out _) ?_
              clear hK K
              refine anyL_seg 8 3 (by kernel_rfl) (fun _ _ _ _ _ h => h) (HANY.out _) (f := 2) rfl (by kernel_rfl) (by kernel_rfl) ?_
              simp only [List.drop_succ_cons, List.drop_zero, List.take_succ_cons, List.take_zero]
              repeat go_big_quiet_step (fail)
              refine wpQuiet_nil ?_
              have HP3 := hid ((hb3.block (w.heap.size + 1) (by omega)).trans HP.out)
              have HR3 := hid ((hb3.block w.heap.size (by omega)).trans HR.out)
              have hsz3 : w.heap.size + 2 ≤ w3.heap.size := Nat.le_trans hszo hb3.size
              have hB3 : Below w.heap.size w w3 := hB.drew.trans (hb3.mono (by omega))
              refine anyL_act (i := 11) (by kernel_rfl) rfl rfl ?_
              intro K hK
              have c0 : w3.cell? ⟨w.heap.size + 1, 0, none⟩ = some (.int .i64 d.inn) := by rw [Lib.cell_of_heap HP3.out]; rfl
              have c1 : w3.cell? ⟨w.heap.size + 1, 1, none⟩ = some (.int .i64 d.out) := by rw [Lib.cell_of_heap HP3.out]; rfl
              have c2 : w3.cell? ⟨w.heap.size + 1, 2, none⟩ = some (.int .i64 d.states) := by rw [Lib.cell_of_heap HP3.out]; rfl
              have c3 : w3.cell? ⟨w.heap.size + 1, 3, none⟩ = some (.int .i64 d.start) := by rw [Lib.cell_of_heap HP3.out]; rfl
              have c4 : w3.cell? ⟨w.heap.size + 1, 4, none⟩ = some (.slice Ar d.rules.length cr) := by rw [Lib.cell_of_heap HP3.out]; rfl
              have c5 : w3.cell? ⟨w.heap.size + 1, 5, none⟩ = some (.slice Af d.finals.length cf) := by rw [Lib.cell_of_heap HP3.out]; rfl
              have cf0 : w3.frozen? ⟨w.heap.size + 1, 0, none⟩ = false := Lib.frozen_of_heap HP3.out _
              have cf1 : w3.frozen? ⟨w.heap.size + 1, 1, none⟩ = false := Lib.frozen_of_heap HP3.out _
              have cf2 : w3.frozen? ⟨w.heap.size + 1, 2, none⟩ = false := Lib.frozen_of_heap HP3.out _
              have cf3 : w3.frozen? ⟨w.heap.size + 1, 3, none⟩ = false := Lib.frozen_of_heap HP3.out _
              have cf4 : w3.frozen? ⟨w.heap.size + 1, 4, none⟩ = false := Lib.frozen_of_heap HP3.out _
              have cf5 : w3.frozen? ⟨w.heap.size + 1, 5, none⟩ = false := Lib.frozen_of_heap HP3.out _
              go_wp2_with fail
              clear c0 c1 c2 c3 c4 c5 cf0 cf1 cf2 cf3 cf4 cf5
              have hk6 := fun g hg => set6_heap (w := w3) (b := w.heap.size + 1) (v0 := .int .i64 d2.inn) (v1 := .int .i64 d2.out) (v2 := .int .i64 d2.states) (v3 := .int .i64 d2.start) (v4 := .slice Ar2 nr2 cr2) (v5 := .slice Af2 nf2 cf2) g hg
              have ha6 := set6_at (v0 := .int .i64 d2.inn) (v1 := .int .i64 d2.out) (v2 := .int .i64 d2.states) (v3 := .int .i64 d2.start) (v4 := .slice Ar2 nr2 cr2) (v5 := .slice Af2 nf2 cf2) HP3.out
              have hb6 := set6_below (b := w.heap.size + 1) (v0 := .int .i64 d2.inn) (v1 := .int .i64 d2.out) (v2 := .int .i64 d2.states) (v3 := .int .i64 d2.start) (v4 := .slice Ar2 nr2 cr2) (v5 := .slice Af2 nf2 cf2) hB3 (by omega)
              have hs6 := set6_size (w := w3) (b := w.heap.size + 1) (v0 := .int .i64 d2.inn) (v1 := .int .i64 d2.out) (v2 := .int .i64 d2.states) (v3 := .int .i64 d2.start) (v4 := .slice Ar2 nr2 cr2) (v5 := .slice Af2 nf2 cf2)
              unfold set6 at hk6 ha6 hb6 hs6
              generalize ((((((w3.setCell ⟨w.heap.size + 1, 0, none⟩ (.int .i64 d2.inn)).setCell ⟨w.heap.size + 1, 1, none⟩ (.int .i64 d2.out)).setCell ⟨w.heap.size + 1, 2, none⟩ (.int .i64 d2.states)).setCell ⟨w.heap.size + 1, 3, none⟩ (.int .i64 d2.start)).setCell ⟨w.heap.size + 1, 4, none⟩ (.slice Ar2 nr2 cr2)).setCell ⟨w.heap.size + 1, 5, none⟩ (.slice Af2 nf2 cf2)) = w6 at hk6 ha6 hb6 hs6 ⊢
              refine hK.out _ _ (fun _ => HANY.out _) ?_
              clear hK K
              refine anyL_seg 12 1 (by kernel_rfl) (fun _ _ _ _ _ h => h) (HANY.out _) (f := 0) rfl (by kernel_rfl) (by kernel_rfl) ?_
              simp only [List.drop_succ_cons, List.drop_zero, List.take_succ_cons, List.take_zero]
              repeat go_big_quiet_step (fail)
              refine wpQuiet_nil ?_
              refine anyL_done (by kernel_rfl) ?_ _
              have HA6 := hid ha6
              have HRE := hid ((hk6 w.heap.size (by omega)).trans HR3.out)
              have HK6 := hid hk6
              clear HANY WS HW Hi0 hne i0 W ι ha6 hk6
              cases okv with
              | false =>
                have HF : Hid (parseF (s.data.toList.length + 1) 1 d0 s.data.toList = .inr (n + 1)) := hid (by
                  rw [← HPF2.out, show lineF false d (s.extract i k).data.toList = none by have := HOK.out; simpa using this])
                have r0 : w6.cell? ⟨w.heap.size, 0, none⟩ = some (.int .i64 0) := by rw [Lib.cell_of_heap HRE.out]; rfl
                have r1 : w6.cell? ⟨w.heap.size, 1, none⟩ = some (.int .i64 0) := by rw [Lib.cell_of_heap HRE.out]; rfl
                have r2 : w6.cell? ⟨w.heap.size, 2, none⟩ = some (.int .i64 0) := by rw [Lib.cell_of_heap HRE.out]; rfl
                have r3 : w6.cell? ⟨w.heap.size, 3, none⟩ = some (.int .i64 0) := by rw [Lib.cell_of_heap HRE.out]; rfl
                have r4 : w6.cell? ⟨w.heap.size, 4, none⟩ = some (.slice none 0 0) := by rw [Lib.cell_of_heap HRE.out]; rfl
                have r5 : w6.cell? ⟨w.heap.size, 5, none⟩ = some (.slice none 0 0) := by rw [Lib.cell_of_heap HRE.out]; rfl
                have rf0 : w6.frozen? ⟨w.heap.size, 0, none⟩ = false := Lib.frozen_of_heap HRE.out _
                have rf1 : w6.frozen? ⟨w.heap.size, 1, none⟩ = false := Lib.frozen_of_heap HRE.out _
                have rf2 : w6.frozen? ⟨w.heap.size, 2, none⟩ = false := Lib.frozen_of_heap HRE.out _
                have rf3 : w6.frozen? ⟨w.heap.size, 3, none⟩ = false := Lib.frozen_of_heap HRE.out _
                have rf4 : w6.frozen? ⟨w.heap.size, 4, none⟩ = false := Lib.frozen_of_heap HRE.out _
                have rf5 : w6.frozen? ⟨w.heap.size, 5, none⟩ = false := Lib.frozen_of_heap HRE.out _
                go_wp2_with fail
                exact bodyPost_ret (v := .tuple #[.agg #[.int .i64 0, .int .i64 0, .int .i64 0, .int .i64 0, .slice none 0 0, .slice none 0 0], .int .i64 (n + 1)]) (by simp [results, Tryd.results14, go_sem, r0, r1, r2, r3, r4, r5]) rfl (rparse_bad (n := (n + 1)) HF.out (set6_below hb6 (Nat.le_refl _)))
              | true =>
                obtain ⟨d', hd'⟩ := Option.isSome_iff_exists.1 HOK.out
                obtain ⟨rfl, hD2⟩ := HD2.out d' hd'
                have hgr := line_grows hd'
                have HPF3 : Hid (parseF m' ((n + 1) + 1) d2 (rest s (k + 1)) = parseF (s.data.toList.length + 1) 1 d0 s.data.toList) := hid (by rw [← HPF2.out, hd'])
                have hf2 := hD2.form
                have HDE := hid (hD2.away ⟨_, _, HP3.out⟩ HK6.out)
                clear hd' hf2 hD2
                go_wp2_with fail
                refine ⟨⟨(n + 1), k + 1, d2, .slice Ar2 nr2 cr2, .slice Af2 nf2 cf2, m', by go_num, by go_num, by omega, HA6.out, HRE.out, HDE.out, hb6, by omega, HPF3.out, by omega, by omega, by omega, by omega⟩, ?_⟩
                simp [intOf]; omega
          · have hks' : ¬ (k : Int) < s.size := by omega
            have hkn : (k : Int) = s.size := by omega
            have hkn2 : ((k : Int) == s.size) = true := by simpa using hkn
            have HF : Hid (parseF (s.data.toList.length + 1) 1 d0 s.data.toList = .inr (n + 1)) := hid (by
              rw [← HPF.out, parseF, if_neg HCD.out]
              rw [cut_end (by rw [← HT.out, rest_len]; omega)])
            have HRE := HR
            have r0 : wo.cell? ⟨w.heap.size, 0, none⟩ = some (.int .i64 0) := by rw [Lib.cell_of_heap HRE.out]; rfl
            have r1 : wo.cell? ⟨w.heap.size, 1, none⟩ = some (.int .i64 0) := by rw [Lib.cell_of_heap HRE.out]; rfl
            have r2 : wo.cell? ⟨w.heap.size, 2, none⟩ = some (.int .i64 0) := by rw [Lib.cell_of_heap HRE.out]; rfl
            have r3 : wo.cell? ⟨w.heap.size, 3, none⟩ = some (.int .i64 0) := by rw [Lib.cell_of_heap HRE.out]; rfl
            have r4 : wo.cell? ⟨w.heap.size, 4, none⟩ = some (.slice none 0 0) := by rw [Lib.cell_of_heap HRE.out]; rfl
            have r5 : wo.cell? ⟨w.heap.size, 5, none⟩ = some (.slice none 0 0) := by rw [Lib.cell_of_heap HRE.out]; rfl
            have rf0 : wo.frozen? ⟨w.heap.size, 0, none⟩ = false := Lib.frozen_of_heap HRE.out _
            have rf1 : wo.frozen? ⟨w.heap.size, 1, none⟩ = false := Lib.frozen_of_heap HRE.out _
            have rf2 : wo.frozen? ⟨w.heap.size, 2, none⟩ = false := Lib.frozen_of_heap HRE.out _
            have rf3 : wo.frozen? ⟨w.heap.size, 3, none⟩ = false := Lib.frozen_of_heap HRE.out _
            have rf4 : wo.frozen? ⟨w.heap.size, 4, none⟩ = false := Lib.frozen_of_heap HRE.out _
            have rf5 : wo.frozen? ⟨w.heap.size, 5, none⟩ = false := Lib.frozen_of_heap HRE.out _
            go_wp2_with fail
            exact bodyPost_ret (v := .tuple #[.agg #[.int .i64 0, .int .i64 0, .int .i64 0, .int .i64 0, .slice none 0 0, .slice none 0 0], .int .i64 (n + 1)]) (by simp [results, Tryd.results14, go_sem, r0, r1, r2, r3, r4, r5]) rfl (rparse_bad (n := (n + 1)) HF.out (set6_below hB (Nat.le_refl _)))
      · have hin' : ¬ (i : Int) < s.size := by omega
        have HF : Hid (parseF (s.data.toList.length + 1) 1 d0 s.data.toList = .inl d) := hid (by rw [← HPF.out, parseF, if_pos ⟨rest_end hin, by omega⟩])
        have c0 : wo.cell? ⟨w.heap.size + 1, 0, none⟩ = some (.int .i64 d.inn) := by rw [Lib.cell_of_heap HP.out]; rfl
        have c1 : wo.cell? ⟨w.heap.size + 1, 1, none⟩ = some (.int .i64 d.out) := by rw [Lib.cell_of_heap HP.out]; rfl
        have c2 : wo.cell? ⟨w.heap.size + 1, 2, none⟩ = some (.int .i64 d.states) := by rw [Lib.cell_of_heap HP.out]; rfl
        have c3 : wo.cell? ⟨w.heap.size + 1, 3, none⟩ = some (.int .i64 d.start) := by rw [Lib.cell_of_heap HP.out]; rfl
        have c4 : wo.cell? ⟨w.heap.size + 1, 4, none⟩ = some (.slice Ar d.rules.length cr) := by rw [Lib.cell_of_heap HP.out]; rfl
        have c5 : wo.cell? ⟨w.heap.size + 1, 5, none⟩ = some (.slice Af d.finals.length cf) := by rw [Lib.cell_of_heap HP.out]; rfl
        have r0 : wo.cell? ⟨w.heap.size, 0, none⟩ = some (.int .i64 0) := by rw [Lib.cell_of_heap HR.out]; rfl
        have r1 : wo.cell? ⟨w.heap.size, 1, none⟩ = some (.int .i64 0) := by rw [Lib.cell_of_heap HR.out]; rfl
        have r2 : wo.cell? ⟨w.heap.size, 2, none⟩ = some (.int .i64 0) := by rw [Lib.cell_of_heap HR.out]; rfl
        have r3 : wo.cell? ⟨w.heap.size, 3, none⟩ = some (.int .i64 0) := by rw [Lib.cell_of_heap HR.out]; rfl
        have r4 : wo.cell? ⟨w.heap.size, 4, none⟩ = some (.slice none 0 0) := by rw [Lib.cell_of_heap HR.out]; rfl
        have r5 : wo.cell? ⟨w.heap.size, 5, none⟩ = some (.slice none 0 0) := by rw [Lib.cell_of_heap HR.out]; rfl
        have rf0 : wo.frozen? ⟨w.heap.size, 0, none⟩ = false := Lib.frozen_of_heap HR.out _
        have rf1 : wo.frozen? ⟨w.heap.size, 1, none⟩ = false := Lib.frozen_of_heap HR.out _
        have rf2 : wo.frozen? ⟨w.heap.size, 2, none⟩ = false := Lib.frozen_of_heap HR.out _
        have rf3 : wo.frozen? ⟨w.heap.size, 3, none⟩ = false := Lib.frozen_of_heap HR.out _
        have rf4 : wo.frozen? ⟨w.heap.size, 4, none⟩ = false := Lib.frozen_of_heap HR.out _
        have rf5 : wo.frozen? ⟨w.heap.size, 5, none⟩ = false := Lib.frozen_of_heap HR.out _
        go_wp2_with fail
        exact bodyPost_ret (v := .tuple #[.agg #[.int .i64 d.inn, .int .i64 d.out, .int .i64 d.states, .int .i64 d.start, .slice Ar d.rules.length cr, .slice Af d.finals.length cf], .int .i64 0]) (by simp [results, Tryd.results14, go_sem, r0, r1, r2, r3, r4, r5]) rfl (rparse_ok HF.out (set6_below hB (Nat.le_refl _)) (HD.out.away ⟨_, _, HR.out⟩ (fun g hg => set6_heap g hg)))
end Go.Proofs.YtcdnkmefcldfmaaDoor
