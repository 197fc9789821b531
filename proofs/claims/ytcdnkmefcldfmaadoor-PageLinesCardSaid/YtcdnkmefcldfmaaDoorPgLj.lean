/-
  The law PageLines, walked.
-/
import Derived.Test.YtcdnkmefcldfmaaDoorPgLi
namespace Go.Proofs.YtcdnkmefcldfmaaDoor
open Go.RowKit Go.Um

set_option maxHeartbeats 8000000 in
set_option maxRecDepth 100000 in
theorem lines_calls (d : Desc) (at_ : Int) (line : ByteArray) (v u : Value) (w : World) (hr : (listR ruleR).rel w (upto w.heap.size) [v] d.rules) (hfi : (listR finalR).rel w (upto w.heap.size) [u] d.finals) (hd : I64 d.inn ∧ I64 d.out ∧ I64 d.states ∧ I64 d.start) (hline : line.size ≤ 9223372036854775807) (hv : Vars w.heap.size w) :
    Calls Tryd.prog 7 #[.agg #[.int .i64 d.inn, .int .i64 d.out, .int .i64 d.states, .int .i64 d.start, v, u], .int .i64 at_, .string line] w fun e w' => e = .returned (.bool true) ∧ Below w.heap.size w w' := by
  have hok := hid (desc_ok hr hfi hd)
  obtain ⟨A1, cp1, rfl, hcp1, hm1⟩ := list_form hr
  obtain ⟨A2, cp2, rfl, hcp2, hm2⟩ := list_form hfi
  unfold maxLen at hm1 hm2
  have HV := hid hv
  have hb0 : Below w.heap.size w (w.alloc (.cells #[.int .i64 d.inn, .int .i64 d.out, .int .i64 d.states, .int .i64 d.start, .slice A1 d.rules.length cp1, .slice A2 d.finals.length cp2] 26)) := (Below.refl _ _).alloc (Nat.le_refl _) _
  have HSM := hid (small_calls d (.slice A1 d.rules.length cp1) (.slice A2 d.finals.length cp2) (w.alloc (.cells #[.int .i64 d.inn, .int .i64 d.out, .int .i64 d.states, .int .i64 d.start, .slice A1 d.rules.length cp1, .slice A2 d.finals.length cp2] 26)) ((listR ruleR).later hr hb0) ((listR finalR).later hfi hb0) d.inn d.out d.states d.start)
  have hxb : (w.alloc (.cells #[.int .i64 d.inn, .int .i64 d.out, .int .i64 d.states, .int .i64 d.start, .slice A1 d.rules.length cp1, .slice A2 d.finals.length cp2] 26)).heap[w.heap.size]? = some (.cells #[.int .i64 d.inn, .int .i64 d.out, .int .i64 d.states, .int .i64 d.start, .slice A1 d.rules.length cp1, .slice A2 d.finals.length cp2] 26 (0, 0)) := heap_alloc_new _ _
  have HXB := hid hxb
  have HRU := hid hr
  have HFI := hid hfi
  clear hv hr hfi hxb
  cases hsm : smallF d with
  | false =>
    rw [hsm] at HSM
    clear hsm
    go_enter Tryd.func7, Tryd.ntmps7
    go_wp2_with fail
    refine HSM.out.mono ?_
    rintro e w1 ⟨rfl, hb1⟩
    have hbA := hb0.trans (hb1.mono hb0.size)
    clear HSM
    go_wp2_with fail
    refine (awake_calls _ ((HV.out.on hbA).more (hbA).size)).mono ?_
    rintro e wz ⟨rfl, hbz⟩
    go_wp2_with fail
    go_ret
    exact ⟨rfl, (hbA).trans (hbz.mono (hbA).size)⟩
  | true =>
    rw [hsm] at HSM
    by_cases hll : 200 < line.size
    · have hl1 : (200 : Int) < line.size := by omega
      clear hsm
      go_enter Tryd.func7, Tryd.ntmps7
      go_wp2_with fail
      refine HSM.out.mono ?_
      rintro e w1 ⟨rfl, hb1⟩
      have hbA := hb0.trans (hb1.mono hb0.size)
      clear HSM
      go_wp2_with fail
      refine (awake_calls _ ((HV.out.on hbA).more (hbA).size)).mono ?_
      rintro e wz ⟨rfl, hbz⟩
      go_wp2_with fail
      go_ret
      exact ⟨rfl, (hbA).trans (hbz.mono (hbA).size)⟩
    · have hl1 : ¬ (200 : Int) < line.size := by omega
      have hl2 : decide ((200 : Int) < line.size) = false := decide_eq_false hl1
      obtain ⟨hrl, hfl⟩ : d.rules.length ≤ 80 ∧ d.finals.length ≤ 80 := by
        unfold smallF at hsm
        split at hsm
        · cases hsm
        · rename_i h0; omega
      clear hsm
      go_enter Tryd.func7, Tryd.ntmps7
      go_wp2_with fail
      refine HSM.out.mono ?_
      rintro e w1 ⟨rfl, hb1⟩
      have hz0 : w.heap.size < (w.alloc (.cells #[.int .i64 d.inn, .int .i64 d.out, .int .i64 d.states, .int .i64 d.start, .slice A1 d.rules.length cp1, .slice A2 d.finals.length cp2] 26)).heap.size := by simp
      have HX := hid ((hb1.block _ hz0).trans HXB.out)
      have hbA := hb0.trans (hb1.mono hb0.size)
      have HPR := hid (Print_calls d (.slice A1 d.rules.length cp1) (.slice A2 d.finals.length cp2) w1 ((listR ruleR).later HRU.out hbA) ((listR finalR).later HFI.out hbA) hd ((HV.out.on hbA).more hbA.size))
      have b0 : w1.cell? ⟨w.heap.size, 0, none⟩ = some (.int .i64 d.inn) := by rw [Lib.cell_of_heap HX.out]; rfl
      have b1 : w1.cell? ⟨w.heap.size, 1, none⟩ = some (.int .i64 d.out) := by rw [Lib.cell_of_heap HX.out]; rfl
      have b2 : w1.cell? ⟨w.heap.size, 2, none⟩ = some (.int .i64 d.states) := by rw [Lib.cell_of_heap HX.out]; rfl
      have b3 : w1.cell? ⟨w.heap.size, 3, none⟩ = some (.int .i64 d.start) := by rw [Lib.cell_of_heap HX.out]; rfl
      have b4 : w1.cell? ⟨w.heap.size, 4, none⟩ = some (.slice A1 d.rules.length cp1) := by rw [Lib.cell_of_heap HX.out]; rfl
      have b5 : w1.cell? ⟨w.heap.size, 5, none⟩ = some (.slice A2 d.finals.length cp2) := by rw [Lib.cell_of_heap HX.out]; rfl
      have hz1 : w.heap.size < w1.heap.size := Nat.lt_of_lt_of_le hz0 hb1.size
      clear HSM hll
      by_cases hlong : 65536 < (printL d).length
      · have hpv : printV d = .tuple #[.string ⟨#[]⟩, .int .i64 4] := by unfold printV; rw [if_pos hlong]
        rw [hpv] at HPR
        clear hpv hlong
        go_wp2_with fail
        refine HPR.out.mono ?_
        rintro e w2 ⟨rfl, hb2⟩
        have hbB := hbA.trans (hb2.mono hbA.size)
        clear HPR b0 b1 b2 b3 b4 b5
        go_wp2_with fail
        refine (awake_calls _ ((HV.out.on hbB).more (hbB).size)).mono ?_
        rintro e wz ⟨rfl, hbz⟩
        go_wp2_with fail
        go_ret
        exact ⟨rfl, (hbB).trans (hbz.mono (hbB).size)⟩
      · obtain ⟨s, hs, hsl, hpv⟩ := printV_ok hlong
        rw [hpv] at HPR
        have hsz : s.size ≤ 65536 := by omega
        have hspos : 0 < s.size := by rw [hsl]; exact List.length_pos_iff.2 (printL_ne d)
        have HS := hid hs
        have HSL := hid hsl
        have hs1 : ((s.size : Int) == 0) = false := beq_eq_false_iff_ne.2 (by omega)
        have hs2 : (s.size == 0) = false := beq_eq_false_iff_ne.2 (by omega)
        obtain ⟨k, hk, hke⟩ := line_no at_ d.rules.length d.finals.length hrl hfl
        have hget : ∀ (i : Nat) (h : i < s.size), s.data.toList[i]? = some s[i] := fun i h => by
          rw [List.getElem?_eq_getElem (by rw [sizeL]; exact h)]; rfl
        have HG := hid hget
        have HL := hid (printL_lines d)
        have hLn := linesOf_length d
        have HNL := hid (linesOf_noNL d)
        clear hpv hlong hs hsl hget
        go_wp2_with fail
        refine HPR.out.mono ?_
        rintro e w2 ⟨rfl, hb2⟩
        have HX := hid ((hb2.block _ hz1).trans HX.out)
        have hbB := hbA.trans (hb2.mono hbA.size)
        clear HPR b0 b1 b2 b3 b4 b5
        have b0 : w2.cell? ⟨w.heap.size, 0, none⟩ = some (.int .i64 d.inn) := by rw [Lib.cell_of_heap HX.out]; rfl
        have b1 : w2.cell? ⟨w.heap.size, 1, none⟩ = some (.int .i64 d.out) := by rw [Lib.cell_of_heap HX.out]; rfl
        have b2 : w2.cell? ⟨w.heap.size, 2, none⟩ = some (.int .i64 d.states) := by rw [Lib.cell_of_heap HX.out]; rfl
        have b3 : w2.cell? ⟨w.heap.size, 3, none⟩ = some (.int .i64 d.start) := by rw [Lib.cell_of_heap HX.out]; rfl
        have b4 : w2.cell? ⟨w.heap.size, 4, none⟩ = some (.slice A1 d.rules.length cp1) := by rw [Lib.cell_of_heap HX.out]; rfl
        have b5 : w2.cell? ⟨w.heap.size, 5, none⟩ = some (.slice A2 d.finals.length cp2) := by rw [Lib.cell_of_heap HX.out]; rfl
        go_wp2_with fail
        rw [hke]
        clear hke b0 b1 b2 b3 b4 b5
        go_loop [11, 12] (fun vf vi => ∃ f i q : Nat, vf = .int .i64 f ∧ vi = .int .i64 i ∧ f = (((linesOf d).take i).flatMap nl).length + q ∧ i ≤ k ∧ (∀ li, (linesOf d)[i]? = some li → q ≤ li.length) ∧ (i = k → q = 0) ∧ f ≤ s.size) (fun vf _ => s.size - (intOf vf).toNat)
        case atStart => exact ⟨0, 0, 0, rfl, rfl, rfl, by omega, fun _ _ => by omega, fun _ => rfl, by omega⟩
        case round =>
          obtain ⟨f, i, q, rfl, rfl, hf, hik, hq, hq0, hfs⟩ := hrel
          have HF := hid hf
          have HQ := hid hq
          have HQ0 := hid hq0
          clear hf hq hq0
          have hsL : s.data.toList.length = (printL d).length := by rw [HS.out]
          rw [sizeL] at hsL
          have HSZ := hid hsL
          clear hsL
          obtain ⟨li, hli⟩ := at_lt (xs := linesOf d) (i := i) (by omega)
          have hql := HQ.out li hli
          have hch := line_char hli hql
          rw [← HF.out, ← HL.out, ← HS.out] at hch
          have hnl := HNL.out li (List.mem_of_getElem? hli)
          have hps := pos_succ hli
          have hpl := pos_le (linesOf d) (i + 1)
          rw [← HL.out, ← HSZ.out] at hpl
          have HPS := hid hps
          have hfz : f < s.size := by have := HF.out; omega
          have hfz' : (f : Int) < s.size := by omega
          by_cases hlt : i < k
          · have hlt' : (i : Int) < k := by omega
            by_cases hqe : q < li.length
            · obtain ⟨c, hc1, hc2⟩ := hch.1 hqe
              rw [HG.out f hfz] at hc2
              have hce : s[f] = c := by injection hc2
              have hcn : c ≠ 10 := hnl c (List.mem_of_getElem? hc1)
              have hn10 : s[f].toNat ≠ 10 := fun h => hcn (by rw [← hce]; exact UInt8.toNat_inj.1 h)
              have d1 : ((s[f].toNat : Int) == 10) = false := beq_eq_false_iff_ne.2 (by omega)
              have d2 : (s[f].toNat == 10) = false := beq_eq_false_iff_ne.2 hn10
              have HLI := hid hli
              have HQE := hid hqe
              clear hch hc1 hc2 hce hcn hn10 hli hps hqe hnl
              go_wp2_with fail
              refine ⟨⟨f + 1, i, q + 1, by go_num, rfl, by have := HF.out; omega, hik, fun l2 h2 => ?_, fun h => by omega, by omega⟩, ?_⟩
              · rw [HLI.out] at h2; cases h2; have := HQE.out; omega
              · simp [intOf]; omega
            · have hqe' : q = li.length := by omega
              have hc2 := hch.2 hqe'
              rw [HG.out f hfz] at hc2
              have hce : s[f] = 10 := by injection hc2
              have hn10 : s[f].toNat = 10 := by rw [hce]; rfl
              have d1 : ((s[f].toNat : Int) == 10) = true := beq_iff_eq.2 (by omega)
              have d2 : (s[f].toNat == 10) = true := beq_iff_eq.2 hn10
              have HQE := hid hqe'
              clear hch hc2 hce hn10 hli hps hqe' hqe hnl
              go_wp2_with fail
              refine ⟨⟨f + 1, i + 1, 0, by go_num, by go_num, by rw [HPS.out]; have := HF.out; have := HQE.out; omega, by omega, fun _ _ => by omega, fun _ => rfl, by omega⟩, ?_⟩
              simp [intOf]; omega
          · obtain rfl : i = k := by omega
            have hq1 := HQ0.out rfl
            have hlt' : ¬ (i : Int) < i := by omega
            have HLI := hid hli
            have HFE : Hid (f = (((linesOf d).take i).flatMap nl).length) := hid (by have := HF.out; omega)
            clear hch hli hps hnl hlt hq1
            go_wp2_with fail
            go_loop [13] (fun vt => ∃ t q : Nat, vt = .int .i64 t ∧ t = (((linesOf d).take i).flatMap nl).length + q ∧ q ≤ li.length) (fun vt => s.size - (intOf vt).toNat)
            case atStart => exact ⟨f, 0, rfl, HFE.out, by omega⟩
            case round =>
              obtain ⟨t, q2, rfl, ht, hq2⟩ := hrel
              have HT := hid ht
              clear ht
              have hch := line_char HLI.out hq2
              rw [← HT.out, ← HL.out, ← HS.out] at hch
              have hnl := HNL.out li (List.mem_of_getElem? HLI.out)
              have htl : t < s.size := by have := HT.out; have := HPS.out; omega
              have htl' : (t : Int) < s.size := by omega
              by_cases hqe : q2 < li.length
              · obtain ⟨c, hc1, hc2⟩ := hch.1 hqe
                rw [HG.out t htl] at hc2
                have hce : s[t] = c := by injection hc2
                have hcn : c ≠ 10 := hnl c (List.mem_of_getElem? hc1)
                have hn10 : s[t].toNat ≠ 10 := fun h => hcn (by rw [← hce]; exact UInt8.toNat_inj.1 h)
                have d1 : ((s[t].toNat : Int) == 10) = false := beq_eq_false_iff_ne.2 (by omega)
                have d2 : (s[t].toNat == 10) = false := beq_eq_false_iff_ne.2 hn10
                clear hch hc1 hc2 hce hcn hn10 hnl
                go_wp2_with fail
                refine ⟨⟨t + 1, q2 + 1, by go_num, by have := HT.out; omega, by omega⟩, ?_⟩
                simp [intOf]; omega
              · have hqe' : q2 = li.length := by omega
                have hc2 := hch.2 hqe'
                rw [HG.out t htl] at hc2
                have hce : s[t] = 10 := by injection hc2
                have hn10 : s[t].toNat = 10 := by rw [hce]; rfl
                have d1 : ((s[t].toNat : Int) == 10) = true := beq_iff_eq.2 (by omega)
                have d2 : (s[t].toNat == 10) = true := beq_iff_eq.2 hn10
                have hft : f ≤ t := by have := HFE.out; have := HT.out; omega
                have hfs' : (f : Int) ≤ s.size := by omega
                have hts' : (t : Int) ≤ s.size := by omega
                clear hch hc2 hce hn10 hnl hqe' hqe
                go_wp2_with fail
                go_quiet (fail)
                go_wp2_with fail
                have hbQ : Below w.heap.size w (w2.drewN nq) := below_drewN hbB nq
                generalize w2.drewN nq = w3 at hbQ ⊢
                have hTx := text_of s line f t
                have hxs : (s.extract 0 f ++ line ++ s.extract t s.size).size ≤ 9223372036854775807 := by simp only [ByteArray.size_append, ByteArray.size_extract]; omega
                generalize s.extract 0 f ++ line ++ s.extract t s.size = x at hTx hxs ⊢
                have hpre : s.data.toList.take f = ((linesOf d).take i).flatMap nl := by rw [HS.out, HL.out, HFE.out, take_pos]
                rw [hpre, List.append_assoc] at hTx
                have hil : i ≤ (linesOf d).length := by omega
                have HFN : Hid (∀ n, parseF (x.data.toList.length + 1) 1 d0 x.data.toList = .inr n → i + 1 ≤ n) := hid (by rw [hTx]; exact fun n h => front_no d hok.out hil _ h)
                have HVQ := hid ((HV.out.on hbQ).more hbQ.size)
                have hi160 : i ≤ 160 := by omega
                clear hTx hpre hil HS HL HFE HSL HG HNL HT HPS HF HQ HQ0 HSZ
                by_cases hxl : 65536 < x.size
                · refine (Parse_long x hxl hxs w3).mono ?_
                  rintro e w4 ⟨rfl, hb4⟩
                  have hbC := hbQ.trans (hb4.mono hbQ.size)
                  have hbD : Below w.heap.size w (w4.alloc (.cells #[.int .i64 0, .int .i64 0, .int .i64 0, .int .i64 0, .slice none 0 0, .slice none 0 0] 26)) := hbC.alloc hbC.size _
                  unfold zeroD
                  go_wp2_with fail
                  refine (awake_calls _ ((HV.out.on hbD).more (hbD).size)).mono ?_
                  rintro e wz ⟨rfl, hbz⟩
                  go_wp2_with fail
                  go_ret
                  exact ⟨rfl, (hbD).trans (hbz.mono (hbD).size)⟩
                · refine (Parse_calls x (by omega) w3 HVQ.out).mono ?_
                  rintro e w4 ⟨hb4, hm⟩
                  have hbC := hbQ.trans (hb4.mono hbQ.size)
                  cases hp : parseF (x.data.toList.length + 1) 1 d0 x.data.toList with
                  | inr n =>
                    rw [hp] at hm
                    simp only at hm
                    subst hm
                    have hn1 := HFN.out n hp
                    have hn2 := parse_big hp (Nat.lt_succ_self _)
                    rw [sizeL] at hn2
                    have hn' : (i : Int) + 1 ≤ n := by omega
                    have hbD : Below w.heap.size w (w4.alloc (.cells #[.int .i64 0, .int .i64 0, .int .i64 0, .int .i64 0, .slice none 0 0, .slice none 0 0] 26)) := hbC.alloc hbC.size _
                    unfold zeroD
                    clear hp HFN
                    go_wp2_with fail
                    refine (awake_calls _ ((HV.out.on hbD).more (hbD).size)).mono ?_
                    rintro e wz ⟨rfl, hbz⟩
                    go_wp2_with fail
                    go_ret
                    exact ⟨rfl, (hbD).trans (hbz.mono (hbD).size)⟩
                  | inl d2 =>
                    rw [hp] at hm
                    obtain ⟨vr, vf, rfl, hr, hf, hI⟩ := hm
                    obtain ⟨hpr, _⟩ := parse_some hp
                    have hpv : printV d2 = .tuple #[.string x, .int .i64 0] := by
                      unfold printV
                      rw [hpr, if_neg (by rw [sizeL]; omega), bytes_back]
                    obtain ⟨A, c, rfl, _, _⟩ := list_form hr
                    obtain ⟨A', c', rfl, _, _⟩ := list_form hf
                    have hbD : Below w.heap.size w (w4.alloc (.cells #[.int .i64 d2.inn, .int .i64 d2.out, .int .i64 d2.states, .int .i64 d2.start, .slice A d2.rules.length c, .slice A' d2.finals.length c'] 26)) := hbC.alloc hbC.size _
                    have hbE : Below w4.heap.size w4 (w4.alloc (.cells #[.int .i64 d2.inn, .int .i64 d2.out, .int .i64 d2.states, .int .i64 d2.start, .slice A d2.rules.length c, .slice A' d2.finals.length c'] 26)) := (Below.refl _ _).alloc (Nat.le_refl _) _
                    have HVA := hid ((HV.out.on hbD).more hbD.size)
                    have HPR := hid (Print_calls d2 _ _ _ ((listR ruleR).later hr hbE) ((listR finalR).later hf hbE) hI HVA.out)
                    rw [hpv] at HPR
                    clear hp hr hf hI hpr hpv hbE HFN
                    go_wp2_with fail
                    refine HPR.out.mono ?_
                    rintro e w5 ⟨rfl, hb5⟩
                    have hbF := hbD.trans (hb5.mono hbD.size)
                    clear HPR HVA
                    go_wp2_with fail
                    refine (awake_calls _ ((HV.out.on hbF).more (hbF).size)).mono ?_
                    rintro e wz ⟨rfl, hbz⟩
                    go_wp2_with fail
                    go_ret
                    exact ⟨rfl, (hbF).trans (hbz.mono (hbF).size)⟩
end Go.Proofs.YtcdnkmefcldfmaaDoor
