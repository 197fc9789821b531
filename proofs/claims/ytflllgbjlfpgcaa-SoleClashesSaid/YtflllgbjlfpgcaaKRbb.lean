/-
  The reference's Where: a description of bytes to bytes whose head is right.
-/
import Derived.Test.YtflllgbjlfpgcaaKRhead
namespace Go.Proofs.Ytflllgbjlfpgcaa
open Go.RowKit Go.Um Go.Proofs
set_option maxHeartbeats 16000000 in
set_option maxRecDepth 100000 in
theorem RWhere11 (d : Desc) (kh : headF d = true) (hi : d.inn = 1) (ho : d.out = 1) (v u : Value) (w : World) (hv : (listR ruleR).rel w (upto w.heap.size) [v] d.rules) (hu : (listR finalR).rel w (upto w.heap.size) [u] d.finals) :
    Calls Try.prog 17 #[.agg #[.int .i64 d.inn, .int .i64 d.out, .int .i64 d.states, .int .i64 d.start, v, u]] w fun e w' => e = .returned (.tuple #[.int .i64 (whereF d).1, .int .i64 (whereF d).2]) ∧ Below w.heap.size w w' := by
  obtain ⟨inn, out, st, sa, rs, fs⟩ := d
  dsimp only at *
  obtain ⟨D, hD⟩ : ∃ D : Desc, D = ⟨inn, out, st, sa, rs, fs⟩ := ⟨_, rfl⟩
  obtain ⟨WF, hWF⟩ : ∃ WF, WF = whereF D := ⟨_, rfl⟩
  rw [← hD] at kh ⊢
  rw [← hWF]
  have HHEAD : Hid (headF D = (sortF inn && sortF out && decide (1 ≤ st) && decide (st ≤ 1024) && stateF st sa && decide (rs.length ≤ 4096) && decide (fs.length ≤ 4096))) := hid (by rw [hD]; rfl)
  subst hi ho
  have HCY := hid fun (n : Nat) W (hW : Below w.heap.size w W) (hn : st = n) (hl : rs.length ≤ 4096) (hr : ∀ r ∈ rs, (0 ≤ r.src ∧ r.src < st) ∧ 0 ≤ r.dst ∧ r.dst < st) (h1024 : n ≤ 1024) => RCycle_calls ⟨1, 1, st, sa, rs, fs⟩ v u W n ((listR ruleR).below hv hW hW.size) hn h1024 hl hr
  obtain ⟨A1, c1, rfl, hc1, hm1⟩ := list_form hv
  obtain ⟨A2, c2, rfl, hc2, hm2⟩ := list_form hu
  unfold maxLen at hm1 hm2
  have hX0 := heap_alloc_new w (.cells #[.int .i64 1, .int .i64 1, .int .i64 st, .int .i64 sa, .slice A1 rs.length c1, .slice A2 fs.length c2] 26)
  have hB0 : Below w.heap.size w (w.alloc (.cells #[.int .i64 1, .int .i64 1, .int .i64 st, .int .i64 sa, .slice A1 rs.length c1, .slice A2 fs.length c2] 26)) := (Below.refl _ w).alloc (Nat.le_refl _) _
  have HWF : Hid (WF = match rs.findIdx? (fun r => !ruleF D r) with
    | some i => (2, (i : Int))
    | none => match fs.findIdx? (fun f => !finalF D f) with
      | some i => (3, (i : Int))
      | none => if kahnF (edgesF rs) st.toNat then (4, 0) else (0, 0)) := hid (by rw [hWF]; unfold whereF; rw [kh, hD]; rfl)
  rw [HHEAD.out] at kh
  simp only [Bool.and_eq_true, decide_eq_true_eq, stateF] at kh
  obtain ⟨⟨⟨⟨⟨⟨_, _⟩, h3⟩, h4⟩, h5, h6⟩, h7⟩, h8⟩ := kh
  have h7' : ¬ (4096 : Int) < rs.length := by omega
  have h8' : ¬ (4096 : Int) < fs.length := by omega
  have HD := hid hD
  have HCYA := hid fun (n : Nat) W (hW : Below w.heap.size w W) (hn : st = n) (h1024 : n ≤ 1024) (hr : ∀ r ∈ rs, (0 ≤ r.src ∧ r.src < st) ∧ 0 ≤ r.dst ∧ r.dst < st) => HCY.out n W hW hn h7 hr h1024
  clear HCY hD hWF HHEAD
  have HCY := HCYA
  clear HCYA
  go_enter Try.func17, Try.ntmps17
  go_wp2_with fail
  generalize w.alloc (.cells #[.int .i64 1, .int .i64 1, .int .i64 st, .int .i64 sa, .slice A1 rs.length c1, .slice A2 fs.length c2] 26) = w0 at *
  go_loopw [4] (fun vi wr => ∃ k : Nat, k ≤ rs.length ∧ vi = .int .i64 k ∧ (∀ r ∈ rs.take k, ruleF D r = true) ∧ Below w.heap.size w wr ∧ wr.heap[w.heap.size]? = some (.cells #[.int .i64 1, .int .i64 1, .int .i64 st, .int .i64 sa, .slice A1 rs.length c1, .slice A2 fs.length c2] 26)) (fun vi _ => rs.length - (intOf vi).toNat)
  case atStart => exact ⟨0, Nat.zero_le _, rfl, by simp, hB0, hX0⟩
  case round =>
    clear hB0 hX0
    obtain ⟨k, hk, rfl, hall, hB, hX⟩ := hrel
    obtain ⟨wo, hwo⟩ : ∃ wo, wo = wr := ⟨_, rfl⟩
    subst hwo
    have hs0 : w.heap.size < wo.heap.size := heap_lt hX
    have HB := hid hB
    have HX := hid hX
    obtain ⟨p0, p1, p2, p3, p4, p5⟩ := six hX
    by_cases hlt : k < rs.length
    · obtain ⟨⟨sx, dx, gx, ex, ox⟩, hx⟩ := at_lt hlt
      obtain ⟨b, o, y, z, rfl, hb, q1, q2, q3, q4, q5, _, hy, hz⟩ := rule_at hv hx
      have HGD := hid fun W (hW : Below w.heap.size w W) => RGuards_calls 1 gx y W ((listR spansR).below hy hW hW.size)
      have HWR := hid fun (hg : goodG gx) (hgl : ∀ g ∈ gx, g.length ≤ 90000) (hby : (1 : Int) = 1 → ∀ g ∈ gx, ∀ z, mem g z → z ≤ 255) W (hW : Below w.heap.size w W) => RWrites_calls 1 1 st sa (.slice (some ⟨b, o, none⟩) rs.length c1) (.slice A2 fs.length c2) z y ox gx W ((listR termR).below hz hW hW.size) ((listR spansR).below hy hW hW.size) hg hgl hby
      obtain ⟨A3, c3, rfl, _, _⟩ := list_form hy
      obtain ⟨A4, c4, rfl, _, _⟩ := list_form hz
      replace q1 := (hB.cell (p := ⟨b, o + k * 5, none⟩) hb).trans q1
      replace q2 := (hB.cell (p := ⟨b, o + k * 5 + 1, none⟩) hb).trans q2
      replace q3 := (hB.cell (p := ⟨b, o + k * 5 + 2, none⟩) hb).trans q3
      replace q4 := (hB.cell (p := ⟨b, o + k * 5 + 3, none⟩) hb).trans q4
      replace q5 := (hB.cell (p := ⟨b, o + k * 5 + 4, none⟩) hb).trans q5
      dsimp only at q1 q2 q3 q4 q5
      have hlt' : (k : Int) < rs.length := by omega
      have hbs : b < wo.heap.size := Nat.lt_of_lt_of_le hb hB.size
      have HBAD : Hid (ruleF D ⟨sx, dx, gx, ex, ox⟩ = false → WF = (2, (k : Int))) := hid fun hf => by
        rw [HWF.out, findIdx_at (k := k) (fun y hy => by rw [hall y hy]; rfl) hx (by rw [hf]; rfl)]
      have HSNOC : Hid (ruleF D ⟨sx, dx, gx, ex, ox⟩ = true → ∀ r ∈ rs.take (k + 1), ruleF D r = true) := hid fun hf r hr => by
        rw [take_snoc hx, List.mem_append] at hr
        rcases hr with hr | hr
        · exact hall r hr
        · rw [List.mem_singleton.1 hr]; exact hf
      have HRF : Hid (ruleF D ⟨sx, dx, gx, ex, ox⟩ = (stateF st sx && stateF st dx && guardsF 1 gx && eatF gx.length ex && writesF 1 1 ox gx)) := hid (by rw [HD.out]; rfl)
      have HBA := hid ((hB.alloc hB.size (.cells #[.int .i64 sx, .int .i64 dx, .slice A3 gx.length c3, .int .i64 ex, .slice A4 ox.length c4] 42)) : Below w.heap.size w (wo.alloc (.cells #[.int .i64 sx, .int .i64 dx, .slice A3 gx.length c3, .int .i64 ex, .slice A4 ox.length c4] 42)))
      have HXA : Hid ((wo.alloc (.cells #[.int .i64 sx, .int .i64 dx, .slice A3 gx.length c3, .int .i64 ex, .slice A4 ox.length c4] 42)).heap[w.heap.size]? = some (.cells #[.int .i64 1, .int .i64 1, .int .i64 st, .int .i64 sa, .slice (some ⟨b, o, none⟩) rs.length c1, .slice A2 fs.length c2] 26)) := hid ((Below.heap_alloc _ _ _ hs0).trans hX)
      have HR0 := hid (heap_alloc_new wo (.cells #[.int .i64 sx, .int .i64 dx, .slice A3 gx.length c3, .int .i64 ex, .slice A4 ox.length c4] 42))
      clear hx hall hB hX hy hz hb
      by_cases n0 : gx.length = 0
      · have n0b : ((gx.length : Int) == 0) = true := beq_t (by omega)
        have n0c : (gx.length : Int) = 0 := by omega
        have n0h := hid n0
        clear n0
        by_cases e0 : ex = 0
        · have e0b : (ex == 0) = true := beq_t e0
          have e0h := hid e0
          clear e0 n0c
          by_cases a1 : sx < 0
          · have HF := hid (HBAD.out (by rw [HRF.out, show stateF st sx = false from by unfold stateF; rw [decide_eq_false (show ¬ 0 ≤ sx by omega)]; rfl]; rfl))
            clear HBAD HRF
            clear HGD HWR
            go_wp2_with fail
            go_ret2
            exact ⟨by rw [HF.out]; rfl, HBA.out⟩
          by_cases a2 : st ≤ sx
          · have HF := hid (HBAD.out (by rw [HRF.out, show stateF st sx = false from by unfold stateF; rw [decide_eq_false (show ¬ sx < st by omega), Bool.and_false]]; rfl))
            clear HBAD HRF
            clear HGD HWR
            go_wp2_with fail
            go_ret2
            exact ⟨by rw [HF.out]; rfl, HBA.out⟩
          by_cases a3 : dx < 0
          · have HF := hid (HBAD.out (by rw [HRF.out, show stateF st dx = false from by unfold stateF; rw [decide_eq_false (show ¬ 0 ≤ dx by omega)]; rfl]; rw [Bool.and_false]; rfl))
            clear HBAD HRF
            clear HGD HWR
            go_wp2_with fail
            go_ret2
            exact ⟨by rw [HF.out]; rfl, HBA.out⟩
          by_cases a4 : st ≤ dx
          · have HF := hid (HBAD.out (by rw [HRF.out, show stateF st dx = false from by unfold stateF; rw [decide_eq_false (show ¬ dx < st by omega), Bool.and_false]]; rw [Bool.and_false]; rfl))
            clear HBAD HRF
            clear HGD HWR
            go_wp2_with fail
            go_ret2
            exact ⟨by rw [HF.out]; rfl, HBA.out⟩
          cases kg : guardsF 1 gx
          · have HF := hid (HBAD.out (by rw [HRF.out, kg, Bool.and_false]; rfl))
            clear HBAD HRF
            clear HWR
            rw [kg] at HGD
            clear kg
            go_wp2_with fail
            generalize wo.alloc (.cells #[.int .i64 sx, .int .i64 dx, .slice A3 gx.length c3, .int .i64 ex, .slice A4 ox.length c4] 42) = wa at *
            refine (HGD.out _ HBA.out).mono ?_
            rintro e w1 ⟨rfl, hB1⟩
            have hszA := HBA.out.size
            have HB1 := hid (HBA.out.trans (hB1.mono hszA))
            have hX1 := (hB1.block _ (heap_lt HXA.out)).trans HXA.out
            have hR1 := (hB1.block _ (heap_lt HR0.out)).trans HR0.out
            obtain ⟨x1, x2, x3, x4, x5, x6⟩ := six hX1
            obtain ⟨r0, r1, r2, r3, r4⟩ := five hR1
            clear HGD hB1
            go_wp2_with fail
            go_ret2
            exact ⟨by rw [HF.out]; rfl, HB1.out⟩
          have hgood := guardsF_good kg
          have HBYT : Hid ((1 : Int) = 1 → ∀ g ∈ gx, ∀ z, mem g z → z ≤ 255) := hid fun h1 g hg z hz => guards_bytes (by exact kg) g hg z hz
          replace HWR := hid (HWR.out hgood.1 hgood.2 HBYT.out)
          clear hgood HBYT
          rw [kg] at HGD HRF
          cases kw : writesF 1 1 ox gx
          · have HF := hid (HBAD.out (by rw [HRF.out, kw, Bool.and_false]))
            clear HBAD HRF
            rw [kw] at HWR
            clear kw kg
            go_wp2_with fail
            generalize wo.alloc (.cells #[.int .i64 sx, .int .i64 dx, .slice A3 gx.length c3, .int .i64 ex, .slice A4 ox.length c4] 42) = wa at *
            refine (HGD.out _ HBA.out).mono ?_
            rintro e w1 ⟨rfl, hB1⟩
            have hszA := HBA.out.size
            have HB1 := hid (HBA.out.trans (hB1.mono hszA))
            have hX1 := (hB1.block _ (heap_lt HXA.out)).trans HXA.out
            have hR1 := (hB1.block _ (heap_lt HR0.out)).trans HR0.out
            obtain ⟨x1, x2, x3, x4, x5, x6⟩ := six hX1
            obtain ⟨r0, r1, r2, r3, r4⟩ := five hR1
            clear HGD hB1
            go_wp2_with fail
            refine (HWR.out _ HB1.out).mono ?_
            rintro e w2 ⟨rfl, hB2⟩
            have HB2 := hid (HB1.out.trans (hB2.mono HB1.out.size))
            have hX2 := (hB2.block _ (heap_lt hX1)).trans hX1
            clear HWR x1 x2 x3 x4 x5 x6 hB2 hR1
            go_wp2_with fail
            go_ret2
            exact ⟨by rw [HF.out]; rfl, HB2.out⟩
          have hok : ruleF D ⟨sx, dx, gx, ex, ox⟩ = true := by
            rw [HRF.out, kw, show eatF gx.length ex = true from by unfold eatF; rw [if_pos n0h.out, e0h.out, n0h.out]; rfl, show stateF st sx = true from by unfold stateF; rw [decide_eq_true (show 0 ≤ sx by omega), decide_eq_true (show sx < st by omega)]; rfl, show stateF st dx = true from by unfold stateF; rw [decide_eq_true (show 0 ≤ dx by omega), decide_eq_true (show dx < st by omega)]; rfl]; rfl
          have HOK := hid (HSNOC.out hok)
          rw [kw] at HWR
          clear kw kg hok HSNOC HBAD HRF
          go_wp2_with fail
          generalize wo.alloc (.cells #[.int .i64 sx, .int .i64 dx, .slice A3 gx.length c3, .int .i64 ex, .slice A4 ox.length c4] 42) = wa at *
          refine (HGD.out _ HBA.out).mono ?_
          rintro e w1 ⟨rfl, hB1⟩
          have hszA := HBA.out.size
          have HB1 := hid (HBA.out.trans (hB1.mono hszA))
          have hX1 := (hB1.block _ (heap_lt HXA.out)).trans HXA.out
          have hR1 := (hB1.block _ (heap_lt HR0.out)).trans HR0.out
          obtain ⟨x1, x2, x3, x4, x5, x6⟩ := six hX1
          obtain ⟨r0, r1, r2, r3, r4⟩ := five hR1
          clear HGD hB1
          go_wp2_with fail
          refine (HWR.out _ HB1.out).mono ?_
          rintro e w2 ⟨rfl, hB2⟩
          have HB2 := hid (HB1.out.trans (hB2.mono HB1.out.size))
          have hX2 := (hB2.block _ (heap_lt hX1)).trans hX1
          clear HWR x1 x2 x3 x4 x5 x6 hB2 hR1
          go_wp2_with fail
          have HE : Hid (∃ j' : Nat, j' ≤ rs.length ∧ Value.int .i64 ((k : Int) + 1) = .int .i64 j' ∧ (∀ r ∈ rs.take j', ruleF D r = true) ∧ Below w.heap.size w w2 ∧ w2.heap[w.heap.size]? = some (.cells #[.int .i64 1, .int .i64 1, .int .i64 st, .int .i64 sa, .slice (some ⟨b, o, none⟩) rs.length c1, .slice A2 fs.length c2] 26)) := hid ⟨k + 1, by omega, by push_cast; rfl, HOK.out, HB2.out, hX2⟩
          first
            | (refine ⟨HE.out, ?_⟩; simp [intOf]; omega)
            | (go_simp; refine ⟨by simpa using HE.out, ?_⟩; simp [intOf]; omega)
        have e0b : (ex == 0) = false := beq_f e0
        by_cases e1 : 1 ≤ ex
        · have e2 : ¬ ex ≤ (gx.length : Int) := by omega
          clear n0c e0
          by_cases a1 : sx < 0
          · have HF := hid (HBAD.out (by rw [HRF.out, show stateF st sx = false from by unfold stateF; rw [decide_eq_false (show ¬ 0 ≤ sx by omega)]; rfl]; rfl))
            clear HBAD HRF
            clear HGD HWR
            go_wp2_with fail
            go_ret2
            exact ⟨by rw [HF.out]; rfl, HBA.out⟩
          by_cases a2 : st ≤ sx
          · have HF := hid (HBAD.out (by rw [HRF.out, show stateF st sx = false from by unfold stateF; rw [decide_eq_false (show ¬ sx < st by omega), Bool.and_false]]; rfl))
            clear HBAD HRF
            clear HGD HWR
            go_wp2_with fail
            go_ret2
            exact ⟨by rw [HF.out]; rfl, HBA.out⟩
          by_cases a3 : dx < 0
          · have HF := hid (HBAD.out (by rw [HRF.out, show stateF st dx = false from by unfold stateF; rw [decide_eq_false (show ¬ 0 ≤ dx by omega)]; rfl]; rw [Bool.and_false]; rfl))
            clear HBAD HRF
            clear HGD HWR
            go_wp2_with fail
            go_ret2
            exact ⟨by rw [HF.out]; rfl, HBA.out⟩
          by_cases a4 : st ≤ dx
          · have HF := hid (HBAD.out (by rw [HRF.out, show stateF st dx = false from by unfold stateF; rw [decide_eq_false (show ¬ dx < st by omega), Bool.and_false]]; rw [Bool.and_false]; rfl))
            clear HBAD HRF
            clear HGD HWR
            go_wp2_with fail
            go_ret2
            exact ⟨by rw [HF.out]; rfl, HBA.out⟩
          have HF := hid (HBAD.out (by rw [HRF.out, show eatF gx.length ex = false from by unfold eatF; rw [decide_eq_false e2, Bool.and_false], Bool.and_false]; rfl))
          clear HBAD HRF
          clear HGD HWR
          go_wp2_with fail
          go_ret2
          exact ⟨by rw [HF.out]; rfl, HBA.out⟩
        have e1d : decide (1 ≤ ex) = false := decide_eq_false e1
        have e3 : ¬ 0 ≤ ex := by omega
        have E3 := hid e3
        clear n0c e0 e3
        by_cases a1 : sx < 0
        · have HF := hid (HBAD.out (by rw [HRF.out, show stateF st sx = false from by unfold stateF; rw [decide_eq_false (show ¬ 0 ≤ sx by omega)]; rfl]; rfl))
          clear HBAD HRF
          clear HGD HWR
          go_wp2_with fail
          go_ret2
          exact ⟨by rw [HF.out]; rfl, HBA.out⟩
        by_cases a2 : st ≤ sx
        · have HF := hid (HBAD.out (by rw [HRF.out, show stateF st sx = false from by unfold stateF; rw [decide_eq_false (show ¬ sx < st by omega), Bool.and_false]]; rfl))
          clear HBAD HRF
          clear HGD HWR
          go_wp2_with fail
          go_ret2
          exact ⟨by rw [HF.out]; rfl, HBA.out⟩
        by_cases a3 : dx < 0
        · have HF := hid (HBAD.out (by rw [HRF.out, show stateF st dx = false from by unfold stateF; rw [decide_eq_false (show ¬ 0 ≤ dx by omega)]; rfl]; rw [Bool.and_false]; rfl))
          clear HBAD HRF
          clear HGD HWR
          go_wp2_with fail
          go_ret2
          exact ⟨by rw [HF.out]; rfl, HBA.out⟩
        by_cases a4 : st ≤ dx
        · have HF := hid (HBAD.out (by rw [HRF.out, show stateF st dx = false from by unfold stateF; rw [decide_eq_false (show ¬ dx < st by omega), Bool.and_false]]; rw [Bool.and_false]; rfl))
          clear HBAD HRF
          clear HGD HWR
          go_wp2_with fail
          go_ret2
          exact ⟨by rw [HF.out]; rfl, HBA.out⟩
        have HF := hid (HBAD.out (by rw [HRF.out, show eatF gx.length ex = false from by unfold eatF; rw [if_pos n0h.out, decide_eq_false E3.out]; rfl, Bool.and_false]; rfl))
        clear HBAD HRF
        clear HGD HWR
        go_wp2_with fail
        go_ret2
        exact ⟨by rw [HF.out]; rfl, HBA.out⟩
      · have n0b : ((gx.length : Int) == 0) = false := beq_f (by omega)
        have n0h := hid n0
        clear n0
        by_cases e1 : 1 ≤ ex
        · by_cases e2 : ex ≤ (gx.length : Int)
          · by_cases a1 : sx < 0
            · have HF := hid (HBAD.out (by rw [HRF.out, show stateF st sx = false from by unfold stateF; rw [decide_eq_false (show ¬ 0 ≤ sx by omega)]; rfl]; rfl))
              clear HBAD HRF
              clear HGD HWR
              go_wp2_with fail
              go_ret2
              exact ⟨by rw [HF.out]; rfl, HBA.out⟩
            by_cases a2 : st ≤ sx
            · have HF := hid (HBAD.out (by rw [HRF.out, show stateF st sx = false from by unfold stateF; rw [decide_eq_false (show ¬ sx < st by omega), Bool.and_false]]; rfl))
              clear HBAD HRF
              clear HGD HWR
              go_wp2_with fail
              go_ret2
              exact ⟨by rw [HF.out]; rfl, HBA.out⟩
            by_cases a3 : dx < 0
            · have HF := hid (HBAD.out (by rw [HRF.out, show stateF st dx = false from by unfold stateF; rw [decide_eq_false (show ¬ 0 ≤ dx by omega)]; rfl]; rw [Bool.and_false]; rfl))
              clear HBAD HRF
              clear HGD HWR
              go_wp2_with fail
              go_ret2
              exact ⟨by rw [HF.out]; rfl, HBA.out⟩
            by_cases a4 : st ≤ dx
            · have HF := hid (HBAD.out (by rw [HRF.out, show stateF st dx = false from by unfold stateF; rw [decide_eq_false (show ¬ dx < st by omega), Bool.and_false]]; rw [Bool.and_false]; rfl))
              clear HBAD HRF
              clear HGD HWR
              go_wp2_with fail
              go_ret2
              exact ⟨by rw [HF.out]; rfl, HBA.out⟩
            cases kg : guardsF 1 gx
            · have HF := hid (HBAD.out (by rw [HRF.out, kg, Bool.and_false]; rfl))
              clear HBAD HRF
              clear HWR
              rw [kg] at HGD
              clear kg
              go_wp2_with fail
              generalize wo.alloc (.cells #[.int .i64 sx, .int .i64 dx, .slice A3 gx.length c3, .int .i64 ex, .slice A4 ox.length c4] 42) = wa at *
              refine (HGD.out _ HBA.out).mono ?_
              rintro e w1 ⟨rfl, hB1⟩
              have hszA := HBA.out.size
              have HB1 := hid (HBA.out.trans (hB1.mono hszA))
              have hX1 := (hB1.block _ (heap_lt HXA.out)).trans HXA.out
              have hR1 := (hB1.block _ (heap_lt HR0.out)).trans HR0.out
              obtain ⟨x1, x2, x3, x4, x5, x6⟩ := six hX1
              obtain ⟨r0, r1, r2, r3, r4⟩ := five hR1
              clear HGD hB1
              go_wp2_with fail
              go_ret2
              exact ⟨by rw [HF.out]; rfl, HB1.out⟩
            have hgood := guardsF_good kg
            have HBYT : Hid ((1 : Int) = 1 → ∀ g ∈ gx, ∀ z, mem g z → z ≤ 255) := hid fun h1 g hg z hz => guards_bytes (by exact kg) g hg z hz
            replace HWR := hid (HWR.out hgood.1 hgood.2 HBYT.out)
            clear hgood HBYT
            rw [kg] at HGD HRF
            cases kw : writesF 1 1 ox gx
            · have HF := hid (HBAD.out (by rw [HRF.out, kw, Bool.and_false]))
              clear HBAD HRF
              rw [kw] at HWR
              clear kw kg
              go_wp2_with fail
              generalize wo.alloc (.cells #[.int .i64 sx, .int .i64 dx, .slice A3 gx.length c3, .int .i64 ex, .slice A4 ox.length c4] 42) = wa at *
              refine (HGD.out _ HBA.out).mono ?_
              rintro e w1 ⟨rfl, hB1⟩
              have hszA := HBA.out.size
              have HB1 := hid (HBA.out.trans (hB1.mono hszA))
              have hX1 := (hB1.block _ (heap_lt HXA.out)).trans HXA.out
              have hR1 := (hB1.block _ (heap_lt HR0.out)).trans HR0.out
              obtain ⟨x1, x2, x3, x4, x5, x6⟩ := six hX1
              obtain ⟨r0, r1, r2, r3, r4⟩ := five hR1
              clear HGD hB1
              go_wp2_with fail
              refine (HWR.out _ HB1.out).mono ?_
              rintro e w2 ⟨rfl, hB2⟩
              have HB2 := hid (HB1.out.trans (hB2.mono HB1.out.size))
              have hX2 := (hB2.block _ (heap_lt hX1)).trans hX1
              clear HWR x1 x2 x3 x4 x5 x6 hB2 hR1
              go_wp2_with fail
              go_ret2
              exact ⟨by rw [HF.out]; rfl, HB2.out⟩
            have hok : ruleF D ⟨sx, dx, gx, ex, ox⟩ = true := by
              rw [HRF.out, kw, show eatF gx.length ex = true from by unfold eatF; rw [if_neg n0h.out, decide_eq_true e1, decide_eq_true e2]; rfl, show stateF st sx = true from by unfold stateF; rw [decide_eq_true (show 0 ≤ sx by omega), decide_eq_true (show sx < st by omega)]; rfl, show stateF st dx = true from by unfold stateF; rw [decide_eq_true (show 0 ≤ dx by omega), decide_eq_true (show dx < st by omega)]; rfl]; rfl
            have HOK := hid (HSNOC.out hok)
            rw [kw] at HWR
            clear kw kg hok HSNOC HBAD HRF
            go_wp2_with fail
            generalize wo.alloc (.cells #[.int .i64 sx, .int .i64 dx, .slice A3 gx.length c3, .int .i64 ex, .slice A4 ox.length c4] 42) = wa at *
            refine (HGD.out _ HBA.out).mono ?_
            rintro e w1 ⟨rfl, hB1⟩
            have hszA := HBA.out.size
            have HB1 := hid (HBA.out.trans (hB1.mono hszA))
            have hX1 := (hB1.block _ (heap_lt HXA.out)).trans HXA.out
            have hR1 := (hB1.block _ (heap_lt HR0.out)).trans HR0.out
            obtain ⟨x1, x2, x3, x4, x5, x6⟩ := six hX1
            obtain ⟨r0, r1, r2, r3, r4⟩ := five hR1
            clear HGD hB1
            go_wp2_with fail
            refine (HWR.out _ HB1.out).mono ?_
            rintro e w2 ⟨rfl, hB2⟩
            have HB2 := hid (HB1.out.trans (hB2.mono HB1.out.size))
            have hX2 := (hB2.block _ (heap_lt hX1)).trans hX1
            clear HWR x1 x2 x3 x4 x5 x6 hB2 hR1
            go_wp2_with fail
            have HE : Hid (∃ j' : Nat, j' ≤ rs.length ∧ Value.int .i64 ((k : Int) + 1) = .int .i64 j' ∧ (∀ r ∈ rs.take j', ruleF D r = true) ∧ Below w.heap.size w w2 ∧ w2.heap[w.heap.size]? = some (.cells #[.int .i64 1, .int .i64 1, .int .i64 st, .int .i64 sa, .slice (some ⟨b, o, none⟩) rs.length c1, .slice A2 fs.length c2] 26)) := hid ⟨k + 1, by omega, by push_cast; rfl, HOK.out, HB2.out, hX2⟩
            first
              | (refine ⟨HE.out, ?_⟩; simp [intOf]; omega)
              | (go_simp; refine ⟨by simpa using HE.out, ?_⟩; simp [intOf]; omega)
          · by_cases a1 : sx < 0
            · have HF := hid (HBAD.out (by rw [HRF.out, show stateF st sx = false from by unfold stateF; rw [decide_eq_false (show ¬ 0 ≤ sx by omega)]; rfl]; rfl))
              clear HBAD HRF
              clear HGD HWR
              go_wp2_with fail
              go_ret2
              exact ⟨by rw [HF.out]; rfl, HBA.out⟩
            by_cases a2 : st ≤ sx
            · have HF := hid (HBAD.out (by rw [HRF.out, show stateF st sx = false from by unfold stateF; rw [decide_eq_false (show ¬ sx < st by omega), Bool.and_false]]; rfl))
              clear HBAD HRF
              clear HGD HWR
              go_wp2_with fail
              go_ret2
              exact ⟨by rw [HF.out]; rfl, HBA.out⟩
            by_cases a3 : dx < 0
            · have HF := hid (HBAD.out (by rw [HRF.out, show stateF st dx = false from by unfold stateF; rw [decide_eq_false (show ¬ 0 ≤ dx by omega)]; rfl]; rw [Bool.and_false]; rfl))
              clear HBAD HRF
              clear HGD HWR
              go_wp2_with fail
              go_ret2
              exact ⟨by rw [HF.out]; rfl, HBA.out⟩
            by_cases a4 : st ≤ dx
            · have HF := hid (HBAD.out (by rw [HRF.out, show stateF st dx = false from by unfold stateF; rw [decide_eq_false (show ¬ dx < st by omega), Bool.and_false]]; rw [Bool.and_false]; rfl))
              clear HBAD HRF
              clear HGD HWR
              go_wp2_with fail
              go_ret2
              exact ⟨by rw [HF.out]; rfl, HBA.out⟩
            have HF := hid (HBAD.out (by rw [HRF.out, show eatF gx.length ex = false from by unfold eatF; rw [decide_eq_false e2, Bool.and_false], Bool.and_false]; rfl))
            clear HBAD HRF
            clear HGD HWR
            go_wp2_with fail
            go_ret2
            exact ⟨by rw [HF.out]; rfl, HBA.out⟩
        have e1d : decide (1 ≤ ex) = false := decide_eq_false e1
        by_cases a1 : sx < 0
        · have HF := hid (HBAD.out (by rw [HRF.out, show stateF st sx = false from by unfold stateF; rw [decide_eq_false (show ¬ 0 ≤ sx by omega)]; rfl]; rfl))
          clear HBAD HRF
          clear HGD HWR
          go_wp2_with fail
          go_ret2
          exact ⟨by rw [HF.out]; rfl, HBA.out⟩
        by_cases a2 : st ≤ sx
        · have HF := hid (HBAD.out (by rw [HRF.out, show stateF st sx = false from by unfold stateF; rw [decide_eq_false (show ¬ sx < st by omega), Bool.and_false]]; rfl))
          clear HBAD HRF
          clear HGD HWR
          go_wp2_with fail
          go_ret2
          exact ⟨by rw [HF.out]; rfl, HBA.out⟩
        by_cases a3 : dx < 0
        · have HF := hid (HBAD.out (by rw [HRF.out, show stateF st dx = false from by unfold stateF; rw [decide_eq_false (show ¬ 0 ≤ dx by omega)]; rfl]; rw [Bool.and_false]; rfl))
          clear HBAD HRF
          clear HGD HWR
          go_wp2_with fail
          go_ret2
          exact ⟨by rw [HF.out]; rfl, HBA.out⟩
        by_cases a4 : st ≤ dx
        · have HF := hid (HBAD.out (by rw [HRF.out, show stateF st dx = false from by unfold stateF; rw [decide_eq_false (show ¬ dx < st by omega), Bool.and_false]]; rw [Bool.and_false]; rfl))
          clear HBAD HRF
          clear HGD HWR
          go_wp2_with fail
          go_ret2
          exact ⟨by rw [HF.out]; rfl, HBA.out⟩
        have HF := hid (HBAD.out (by rw [HRF.out, show eatF gx.length ex = false from by unfold eatF; rw [if_neg n0h.out, decide_eq_false e1]; rfl, Bool.and_false]; rfl))
        clear HBAD HRF
        clear HGD HWR
        go_wp2_with fail
        go_ret2
        exact ⟨by rw [HF.out]; rfl, HBA.out⟩
    · obtain rfl : k = rs.length := by omega
      rw [List.take_length] at hall
      have HALLR := hid hall
      have HWF2 : Hid (WF = match fs.findIdx? (fun f => !finalF D f) with
          | some i => (3, (i : Int))
          | none => if kahnF (edgesF rs) st.toNat then (4, 0) else (0, 0)) := hid (by
        rw [HWF.out, findIdx_none (fun y hy => by rw [hall y hy]; rfl)])
      clear hall hB hX hlt HWF
      go_wp2_with fail
      clear p0 p1 p2 p3 p4 p5
      go_loopw [8] (fun vi wr => ∃ k : Nat, k ≤ fs.length ∧ vi = .int .i64 k ∧ (∀ r ∈ fs.take k, finalF D r = true) ∧ Below w.heap.size w wr ∧ wr.heap[w.heap.size]? = some (.cells #[.int .i64 1, .int .i64 1, .int .i64 st, .int .i64 sa, .slice A1 rs.length c1, .slice A2 fs.length c2] 26)) (fun vi _ => fs.length - (intOf vi).toNat)
      case atStart => exact ⟨0, Nat.zero_le _, rfl, by simp, HB.out, HX.out⟩
      case round =>
        clear HB HX hs0
        obtain ⟨k, hk, rfl, hall, hB, hX⟩ := hrel
        obtain ⟨wo, hwo⟩ : ∃ wo, wo = wr := ⟨_, rfl⟩
        subst hwo
        have hs0 : w.heap.size < wo.heap.size := heap_lt hX
        have HB := hid hB
        have HX := hid hX
        obtain ⟨p0, p1, p2, p3, p4, p5⟩ := six hX
        by_cases hlt : k < fs.length
        · obtain ⟨⟨sx, gx, ox⟩, hx⟩ := at_lt hlt
          obtain ⟨b, o, y, z, rfl, hb, q1, q2, q3, _, hy, hz⟩ := final_at hu hx
          have HGD := hid fun W (hW : Below w.heap.size w W) => RGuards_calls 1 gx y W ((listR spansR).below hy hW hW.size)
          have HWR := hid fun (hg : goodG gx) (hgl : ∀ g ∈ gx, g.length ≤ 90000) (hby : (1 : Int) = 1 → ∀ g ∈ gx, ∀ z, mem g z → z ≤ 255) W (hW : Below w.heap.size w W) => RWrites_calls 1 1 st sa (.slice A1 rs.length c1) (.slice (some ⟨b, o, none⟩) fs.length c2) z y ox gx W ((listR termR).below hz hW hW.size) ((listR spansR).below hy hW hW.size) hg hgl hby
          obtain ⟨A3, c3, rfl, _, _⟩ := list_form hy
          obtain ⟨A4, c4, rfl, _, _⟩ := list_form hz
          replace q1 := (hB.cell (p := ⟨b, o + k * 3, none⟩) hb).trans q1
          replace q2 := (hB.cell (p := ⟨b, o + k * 3 + 1, none⟩) hb).trans q2
          replace q3 := (hB.cell (p := ⟨b, o + k * 3 + 2, none⟩) hb).trans q3
          dsimp only at q1 q2 q3
          have hlt' : (k : Int) < fs.length := by omega
          have hbs : b < wo.heap.size := Nat.lt_of_lt_of_le hb hB.size
          have HBAD : Hid (finalF D ⟨sx, gx, ox⟩ = false → WF = (3, (k : Int))) := hid fun hf => by
            rw [HWF2.out, findIdx_at (k := k) (fun y hy => by rw [hall y hy]; rfl) hx (by rw [hf]; rfl)]
          have HSNOC : Hid (finalF D ⟨sx, gx, ox⟩ = true → ∀ r ∈ fs.take (k + 1), finalF D r = true) := hid fun hf r hr => by
            rw [take_snoc hx, List.mem_append] at hr
            rcases hr with hr | hr
            · exact hall r hr
            · rw [List.mem_singleton.1 hr]; exact hf
          have HRF : Hid (finalF D ⟨sx, gx, ox⟩ = (stateF st sx && guardsF 1 gx && writesF 1 1 ox gx)) := hid (by rw [HD.out]; rfl)
          have HBA := hid ((hB.alloc hB.size (.cells #[.int .i64 sx, .slice A3 gx.length c3, .slice A4 ox.length c4] 44)) : Below w.heap.size w (wo.alloc (.cells #[.int .i64 sx, .slice A3 gx.length c3, .slice A4 ox.length c4] 44)))
          have HXA : Hid ((wo.alloc (.cells #[.int .i64 sx, .slice A3 gx.length c3, .slice A4 ox.length c4] 44)).heap[w.heap.size]? = some (.cells #[.int .i64 1, .int .i64 1, .int .i64 st, .int .i64 sa, .slice A1 rs.length c1, .slice (some ⟨b, o, none⟩) fs.length c2] 26)) := hid ((Below.heap_alloc _ _ _ hs0).trans hX)
          have HR0 := hid (heap_alloc_new wo (.cells #[.int .i64 sx, .slice A3 gx.length c3, .slice A4 ox.length c4] 44))
          clear hx hall hB hX hy hz hb
          by_cases a1 : sx < 0
          · have HF := hid (HBAD.out (by rw [HRF.out, show stateF st sx = false from by unfold stateF; rw [decide_eq_false (show ¬ 0 ≤ sx by omega)]; rfl]; rfl))
            clear HBAD HRF
            clear HGD HWR
            go_wp2_with fail
            go_ret2
            exact ⟨by rw [HF.out]; rfl, HBA.out⟩
          by_cases a2 : st ≤ sx
          · have HF := hid (HBAD.out (by rw [HRF.out, show stateF st sx = false from by unfold stateF; rw [decide_eq_false (show ¬ sx < st by omega), Bool.and_false]]; rfl))
            clear HBAD HRF
            clear HGD HWR
            go_wp2_with fail
            go_ret2
            exact ⟨by rw [HF.out]; rfl, HBA.out⟩
          cases kg : guardsF 1 gx
          · have HF := hid (HBAD.out (by rw [HRF.out, kg, Bool.and_false]; rfl))
            clear HBAD HRF
            clear HWR
            rw [kg] at HGD
            clear kg
            go_wp2_with fail
            generalize wo.alloc (.cells #[.int .i64 sx, .slice A3 gx.length c3, .slice A4 ox.length c4] 44) = wa at *
            refine (HGD.out _ HBA.out).mono ?_
            rintro e w1 ⟨rfl, hB1⟩
            have hszA := HBA.out.size
            have HB1 := hid (HBA.out.trans (hB1.mono hszA))
            have hX1 := (hB1.block _ (heap_lt HXA.out)).trans HXA.out
            have hR1 := (hB1.block _ (heap_lt HR0.out)).trans HR0.out
            obtain ⟨x1, x2, x3, x4, x5, x6⟩ := six hX1
            obtain ⟨r0, r1, r2⟩ := three hR1
            clear HGD hB1
            go_wp2_with fail
            go_ret2
            exact ⟨by rw [HF.out]; rfl, HB1.out⟩
          have hgood := guardsF_good kg
          have HBYT : Hid ((1 : Int) = 1 → ∀ g ∈ gx, ∀ z, mem g z → z ≤ 255) := hid fun h1 g hg z hz => guards_bytes (by exact kg) g hg z hz
          replace HWR := hid (HWR.out hgood.1 hgood.2 HBYT.out)
          clear hgood HBYT
          rw [kg] at HGD HRF
          cases kw : writesF 1 1 ox gx
          · have HF := hid (HBAD.out (by rw [HRF.out, kw, Bool.and_false]))
            clear HBAD HRF
            rw [kw] at HWR
            clear kw kg
            go_wp2_with fail
            generalize wo.alloc (.cells #[.int .i64 sx, .slice A3 gx.length c3, .slice A4 ox.length c4] 44) = wa at *
            refine (HGD.out _ HBA.out).mono ?_
            rintro e w1 ⟨rfl, hB1⟩
            have hszA := HBA.out.size
            have HB1 := hid (HBA.out.trans (hB1.mono hszA))
            have hX1 := (hB1.block _ (heap_lt HXA.out)).trans HXA.out
            have hR1 := (hB1.block _ (heap_lt HR0.out)).trans HR0.out
            obtain ⟨x1, x2, x3, x4, x5, x6⟩ := six hX1
            obtain ⟨r0, r1, r2⟩ := three hR1
            clear HGD hB1
            go_wp2_with fail
            refine (HWR.out _ HB1.out).mono ?_
            rintro e w2 ⟨rfl, hB2⟩
            have HB2 := hid (HB1.out.trans (hB2.mono HB1.out.size))
            have hX2 := (hB2.block _ (heap_lt hX1)).trans hX1
            clear HWR x1 x2 x3 x4 x5 x6 hB2 hR1
            go_wp2_with fail
            go_ret2
            exact ⟨by rw [HF.out]; rfl, HB2.out⟩
          have hok : finalF D ⟨sx, gx, ox⟩ = true := by
            rw [HRF.out, kw, show stateF st sx = true from by unfold stateF; rw [decide_eq_true (show 0 ≤ sx by omega), decide_eq_true (show sx < st by omega)]; rfl]; rfl
          have HOK := hid (HSNOC.out hok)
          rw [kw] at HWR
          clear kw kg hok HSNOC HBAD HRF
          go_wp2_with fail
          generalize wo.alloc (.cells #[.int .i64 sx, .slice A3 gx.length c3, .slice A4 ox.length c4] 44) = wa at *
          refine (HGD.out _ HBA.out).mono ?_
          rintro e w1 ⟨rfl, hB1⟩
          have hszA := HBA.out.size
          have HB1 := hid (HBA.out.trans (hB1.mono hszA))
          have hX1 := (hB1.block _ (heap_lt HXA.out)).trans HXA.out
          have hR1 := (hB1.block _ (heap_lt HR0.out)).trans HR0.out
          obtain ⟨x1, x2, x3, x4, x5, x6⟩ := six hX1
          obtain ⟨r0, r1, r2⟩ := three hR1
          clear HGD hB1
          go_wp2_with fail
          refine (HWR.out _ HB1.out).mono ?_
          rintro e w2 ⟨rfl, hB2⟩
          have HB2 := hid (HB1.out.trans (hB2.mono HB1.out.size))
          have hX2 := (hB2.block _ (heap_lt hX1)).trans hX1
          clear HWR x1 x2 x3 x4 x5 x6 hB2 hR1
          go_wp2_with fail
          have HE : Hid (∃ j' : Nat, j' ≤ fs.length ∧ Value.int .i64 ((k : Int) + 1) = .int .i64 j' ∧ (∀ r ∈ fs.take j', finalF D r = true) ∧ Below w.heap.size w w2 ∧ w2.heap[w.heap.size]? = some (.cells #[.int .i64 1, .int .i64 1, .int .i64 st, .int .i64 sa, .slice A1 rs.length c1, .slice (some ⟨b, o, none⟩) fs.length c2] 26)) := hid ⟨k + 1, by omega, by push_cast; rfl, HOK.out, HB2.out, hX2⟩
          first
            | (refine ⟨HE.out, ?_⟩; simp [intOf]; omega)
            | (go_simp; refine ⟨by simpa using HE.out, ?_⟩; simp [intOf]; omega)
        · obtain rfl : k = fs.length := by omega
          rw [List.take_length] at hall
          have HWF3 : Hid (WF = if kahnF (edgesF rs) st.toNat then (4, 0) else (0, 0)) := hid (by
            rw [HWF2.out, findIdx_none (fun y hy => by rw [hall y hy]; rfl)])
          have hbr : ∀ r ∈ rs, (0 ≤ r.src ∧ r.src < st) ∧ 0 ≤ r.dst ∧ r.dst < st := fun r hr => by
            have h9 : (stateF st r.src && stateF st r.dst && guardsF 1 r.guards && eatF r.guards.length r.eat && writesF 1 1 r.out r.guards) = true := by
              have := HALLR.out r hr
              rw [HD.out] at this
              exact this
            simp only [Bool.and_eq_true, stateF, decide_eq_true_eq] at h9
            exact ⟨h9.1.1.1.1, h9.1.1.1.2⟩
          obtain ⟨n, hn⟩ : ∃ n : Nat, n = st.toNat := ⟨_, rfl⟩
          have hsn : st = (n : Int) := by omega
          have hE : ∀ e ∈ edgesF rs, (0 ≤ e.1 ∧ e.1 < n) ∧ 0 ≤ e.2 ∧ e.2 < n := fun e he => by
            unfold edgesF at he
            obtain ⟨r, hr, rfl⟩ := List.mem_map.1 he
            have := hbr r (List.mem_filter.1 hr).1
            rw [hsn] at this
            exact this
          have hcy := HCY.out n wo hB hsn (by omega) hbr
          rw [cycR_kahn hE] at hcy
          have HCYC := hid hcy
          rw [← hn] at HWF3
          clear hall hX hlt HWF2 hcy hE hbr hn hsn HCY
          cases kk : kahnF (edgesF rs) n
          · rw [kk] at HCYC HWF3
            have HF : Hid (WF = (0, 0)) := hid HWF3.out
            clear HWF3 kk
            go_wp2_with fail
            refine HCYC.out.mono ?_
            rintro e w5 ⟨rfl, hB5⟩
            go_wp2_with fail
            go_ret2
            exact ⟨by rw [HF.out]; rfl, hB.trans (hB5.mono hB.size)⟩
          · rw [kk] at HCYC HWF3
            have HF : Hid (WF = (4, 0)) := hid HWF3.out
            clear HWF3 kk
            go_wp2_with fail
            refine HCYC.out.mono ?_
            rintro e w5 ⟨rfl, hB5⟩
            go_wp2_with fail
            go_ret2
            exact ⟨by rw [HF.out]; rfl, hB.trans (hB5.mono hB.size)⟩
end Go.Proofs.Ytflllgbjlfpgcaa
