/-
  Every operation that the machine takes stands for the model's. No program is named here. Every operation that the machine takes stands for the model's. No program is named here. What an operation of the machine looks at: its operands, and the blocks that these name. No program is named here.
-/
import Derived.Test.YtofcjmjokokajaaGreatQc
import Derived.LoopNIn
import Derived.OrdersIn
import Derived.RangeFuncLeaves
import Derived.RangeFuncCalls
import Derived.TacticsIn
namespace Go.Vm
open Go.RowKit
section
variable {P : Program} {w : World} {Sb : Nat → Prop} {G : Gh} {st : Store}
theorem rep_get {n m : Nat} {z : List V} (hz : z.length = m) (k : Nat) : (List.replicate n z).flatten[k]? = if k < n * m then z[k % m]? else none := by
  induction n generalizing k with
  | zero => simp
  | succ n ih =>
    rw [List.replicate_succ, List.flatten_cons]
    by_cases hk : k < m
    · rw [List.getElem?_append_left (by omega), if_pos (by rw [Nat.succ_mul]; omega), Nat.mod_eq_of_lt hk]
    · rw [List.getElem?_append_right (by omega), hz, ih]
      have : (k - m) % m = k % m := (Nat.mod_eq_sub_mod (by omega)).symm
      rw [this, Nat.succ_mul]
      by_cases h2 : k - m < n * m
      · rw [if_pos h2, if_pos (by omega)]
      · rw [if_neg h2, if_neg (by omega)]
theorem made_rel {z : List V} {zc : Array Value} (hz : Rvs w Sb G z zc.toList) (c : Nat) {n : Nat} (hn : n ≤ c) : ∀ (i : Nat) (cs : List V) (j : Nat) (v : V), (List.replicate n z)[i]? = some cs → cs[j]? = some v → ∃ u, (madeCells zc (c * z.length))[i * z.length + j]? = some u ∧ Rv w Sb G v u := by
  intro i cs j v h1 h2
  rw [List.getElem?_replicate] at h1
  split at h1
  · rename_i hi
    cases h1
    have hj := (List.getElem?_eq_some_iff.1 h2).1
    obtain ⟨u, q1, q2⟩ := hz.at h2
    refine ⟨u, ?_, q2⟩
    have hs : zc.size = z.length := by have := hz.1; simpa using this
    have hlt : i * z.length + j < c * z.length := row_lt (by omega) hj
    have hmod : (i * z.length + j) % z.length = j := by rw [Nat.add_comm, Nat.add_mul_mod_self_right]; exact Nat.mod_eq_of_lt hj
    have hjs : j < zc.size := by omega
    simp only [madeCells, Array.getElem?_map, Array.getElem?_range, hlt, if_true, Option.map_some, hs, hmod]
    congr 1
    rw [getElem!_pos zc j hjs]
    have : zc[j]? = some zc[j] := by simp [hjs]
    rw [Array.getElem?_toList] at q1
    rw [this] at q1
    exact Option.some.inj q1
  · cases h1
theorem vmake_rv (hs : WSim w Sb G st) {n : Nat} (hn : st n = none) (hg : ∀ k, G n k = none) {t : TypeId} {l c : V} {ul uc : Value} (hl : Rv w Sb G l ul) (hc : Rv w Sb G c uc) {out : Out} (h : vmake P n t l c = some out) : OpOk P w Sb G st n out ((do pure (Next.value (← Instr.makeSlice t ul uc)) : Sem Next).run P w) := by
  unfold vmake at h
  split at h
  · rename_i e k l' k' c' ht
    obtain ⟨d, hd, hk⟩ := tk_spec ht
    have := kind_slice hk
    subst this
    cases hl
    cases hc
    split at h
    · rename_i i hi
      obtain ⟨ii, id, hii, _, _, hsz, hby, _, hz⟩ := tinfo_spec hi
      split at h
      · rename_i z hzi
        split at h
        · rename_i hc
          obtain ⟨h0, h1, h2, h3, h4, h5, h6⟩ := hc
          cases h
          rw [hz] at hzi
          cases hiz : ii.zero with
          | none => rw [hiz] at hzi; cases hzi
          | some zz =>
            rw [hiz] at hzi
            simp only [Option.bind_some] at hzi
            have hzr := (ofVal_rv (w := w) (Sb := Sb) (G := G) hzi).2
            have hb : (i.bytes : Int) * c' ≤ room := h2
            have hcb : c' ≤ 140737488355328 := by
              have h7 : c' * 1 ≤ c' * (i.bytes : Int) := Int.mul_le_mul_of_nonneg_left (by omega) (by omega)
              rw [Int.mul_comm] at hb
              unfold room at hb
              omega
            have hrun := run_make (P := P) w t e ii zz hd hii hiz k k' l' c' h0 h1 (by rw [← hby]; unfold room at hb; omega) (by omega)
            have hR := Nxt.row hs hn hg e (m := i.size) (cap := c'.toNat) (xs := List.replicate l'.toNat (vcells z)) (cur := madeCells zz.cells (c'.toNat * ii.size)) h4
              (fun cs hcs => by obtain ⟨_, rfl⟩ := List.mem_replicate.1 hcs; exact ⟨h5, fun v hv => by simpa using List.all_eq_true.1 h6 v hv⟩) (by rw [size_madeCells, hsz]) (by rw [List.length_replicate]; omega) (by unfold maxLen; omega)
              (by have := made_rel hzr c'.toNat (n := l'.toNat) (by omega); rw [h5] at this; rw [← hsz]; exact this)
            rw [List.length_replicate] at hR
            exact ⟨.value _, _, _, Sb, _, by simp [hrun], .inl rfl, hR, rv_new_row n _ _ _ h4, by simp, fun id k hid _ => gput_ne _ _ (fun q => by simp at hid; omega)⟩
        · cases h
      · cases h
    · cases h
  · cases h
theorem parts_rel {ρ : Operand → V} {ρ' : Operand → Value} (hρ : ∀ x, Rv w Sb G (ρ x) (ρ' x)) (ps : Array (Nat × Operand)) : ((ps.map fun (x : Nat × Operand) => (x.1, ρ' x.2)).toList).length = (ps.toList.map fun p => (p.1, ρ p.2)).length ∧
    ∀ (i : Nat) (p : Nat × V) (q : Nat × Value), (ps.toList.map fun p => (p.1, ρ p.2))[i]? = some p → ((ps.map fun (x : Nat × Operand) => (x.1, ρ' x.2)).toList)[i]? = some q → q.1 = p.1 ∧ Rv w Sb G p.2 q.2 := by
  refine ⟨by simp, fun i p q h1 h2 => ?_⟩
  simp only [List.getElem?_map, Array.toList_map] at h1 h2
  cases hx : ps.toList[i]? with
  | none => rw [hx] at h1; cases h1
  | some x =>
    rw [hx] at h1 h2
    cases h1
    cases h2
    exact ⟨rfl, hρ _⟩
theorem places_run : ∀ {fs : List Field} {pl : List (Nat × Nat)}, vplaces P (fs.map fun f => (f.offset, f.type)) = some pl → (fs.mapM (fun f => do pure (f.offset, ← sizeOf f.type)) : Sem (List (Nat × Nat))).run P w = .ok pl w
  | [], pl, h => by
    simp only [List.map_nil, vplaces] at h
    cases h
    simp
  | f :: fs, pl, h => by
    simp only [List.map_cons, vplaces] at h
    split at h
    · rename_i i l hi hl
      cases h
      obtain ⟨ii, _, hii, _, _, hsz, _⟩ := tinfo_spec hi
      have ih := places_run hl
      simp only [List.mapM_cons, Sem.run_bind, run_sizeOf hii, Result.andThen_ok, Sem.run_pure, ih, hsz]
    · cases h
theorem vop_build (hs : WSim w Sb G st) {n : Nat} {ρ : Operand → V} {ρ' : Operand → Value} (hρ : ∀ x, Rv w Sb G (ρ x) (ρ' x)) {t : TypeId} {ps : Array (Nat × Operand)} {out : Out} (h : vop P ρ st n (.build t ps) = some out) :
    OpOk P w Sb G st n out ((do pure (Next.value (← Instr.build t (ps.map fun (x : Nat × Operand) => (x.1, ρ' x.2)))) : Sem Next).run P w) := by
  obtain ⟨hp1, hp2⟩ := parts_rel hρ ps
  simp only [vop] at h
  split at h
  · rename_i i hi
    obtain ⟨ii, d, hii, hd, hk, hsz, hby, _, hz⟩ := tinfo_spec hi
    have hzero : ∀ z, i.zero = some z → ∃ zz, ii.zero = some zz ∧ (zeroValue t).run P w = .ok zz w ∧ Rvs w Sb G (vcells z) zz.cells.toList := fun z hzi => by
      rw [hz] at hzi
      cases hiz : ii.zero with
      | none => rw [hiz] at hzi; cases hzi
      | some zz =>
        rw [hiz] at hzi
        simp only [Option.bind_some] at hzi
        exact ⟨zz, rfl, by simp [zeroValue, typeInfo, hii, hiz], (ofVal_rv hzi).2⟩
    split at h
    · rename_i z fs hzi hki
      rw [hki] at hk
      obtain ⟨gs, rfl, rfl⟩ := kind_struct hk
      obtain ⟨zz, _, hzr, hzv⟩ := hzero z hzi
      split at h
      · rename_i hone
        cases hpl : vplaces P (gs.toList.map fun f => (f.offset, f.type)) with
        | none => rw [hpl] at h; cases h
        | some pl =>
          rw [hpl] at h
          simp only [Option.bind_some] at h
          cases hf : vfill (fun k => pl[k]?) (vcells z) (ps.toList.map fun p => (p.1, ρ p.2)) with
          | none => rw [hf] at h; cases h
          | some cs =>
            rw [hf] at h
            cases h
            obtain ⟨cur', q1, q2, q3, q4⟩ := vfill_rv hp1 hp2 hzv (fun v hv => by simpa using List.all_eq_true.1 hone v hv) hf
            have hpr := places_run (w := w) hpl
            have hpa : (gs.mapM (fun f => do pure (f.offset, ← sizeOf f.type)) : Sem (Array (Nat × Nat))).run P w = .ok pl.toArray w := by
              rw [Array.mapM_eq_mapM_toList]
              rw [map_eq_pure_bind, Sem.run_bind, hpr]
              rfl
            refine OpOk.pure hs (u := .agg cur') ?_ (.agg (by have := q2.1; simpa using this) q4 (fun i v u a b => q2.2 i v u a (by simpa using b)))
            unfold Instr.build
            have hpl' : (fun (x : Nat) => pl.toArray[x]?) = fun (k : Nat) => pl[k]? := by funext k; simp
            simp only [Sem.run_bind, hzr, Result.andThen_ok, run_underlying hd, hpa, hpl', q1, Sem.run_pure]
      · cases h
    · rename_i z k e hzi hki
      rw [hki] at hk
      have := kind_array hk
      subst this
      obtain ⟨zz, _, hzr, hzv⟩ := hzero z hzi
      split at h
      · rename_i j hj
        obtain ⟨ij, _, hij, _, _, hjz, _⟩ := tinfo_spec hj
        split at h
        · rename_i hone
          cases hf : vfill (fun k => some (k * j.size, j.size)) (vcells z) (ps.toList.map fun p => (p.1, ρ p.2)) with
          | none => rw [hf] at h; cases h
          | some cs =>
            rw [hf] at h
            cases h
            obtain ⟨cur', q1, q2, q3, q4⟩ := vfill_rv hp1 hp2 hzv (fun v hv => by simpa using List.all_eq_true.1 hone v hv) hf
            refine OpOk.pure hs (u := .agg cur') ?_ (.agg (by have := q2.1; simpa using this) q4 (fun i v u a b => q2.2 i v u a (by simpa using b)))
            unfold Instr.build
            simp only [Sem.run_bind, hzr, Result.andThen_ok, run_underlying hd, run_sizeOf hij, ← hjz, q1, Sem.run_pure]
        · cases h
      · cases h
    · cases h
  · cases h
theorem vop_buildSlice (hs : WSim w Sb G st) {n : Nat} (hn : st n = none) (hg : ∀ k, G n k = none) {ρ : Operand → V} {ρ' : Operand → Value} (hρ : ∀ x, Rv w Sb G (ρ x) (ρ' x)) {t : TypeId} {len : Nat} {ps : Array (Nat × Operand)} {out : Out} (h : vop P ρ st n (.buildSlice t len ps) = some out) :
    OpOk P w Sb G st n out ((do pure (Next.value (← Instr.buildSlice t len (ps.map fun (x : Nat × Operand) => (x.1, ρ' x.2)))) : Sem Next).run P w) := by
  obtain ⟨hp1, hp2⟩ := parts_rel hρ ps
  simp only [vop] at h
  split at h
  · rename_i e ht
    obtain ⟨d, hd, hk⟩ := tk_spec ht
    have := kind_slice hk
    subst this
    split at h
    · rename_i i hi
      obtain ⟨ii, _, hii, _, _, hsz, hby, _, hz⟩ := tinfo_spec hi
      split at h
      · rename_i z hzi
        split at h
        · rename_i hc
          obtain ⟨c1, c2, c3, c4⟩ := hc
          cases hf : vfill (fun k => some (k * i.size, i.size)) (List.replicate len (vcells z)).flatten (ps.toList.map fun p => (p.1, ρ p.2)) with
          | none => rw [hf] at h; cases h
          | some cs =>
            rw [hf] at h
            cases h
            rw [hz] at hzi
            cases hiz : ii.zero with
            | none => rw [hiz] at hzi; cases hzi
            | some zz =>
              rw [hiz] at hzi
              simp only [Option.bind_some] at hzi
              have hzv := (ofVal_rv (w := w) (Sb := Sb) (G := G) hzi).2
              have hzl : zz.cells.size = i.size := by have := hzv.1; rw [← c2, ← this]; simp
              have hflen : (List.replicate len (vcells z)).flatten.length = len * i.size := by simp [c2]
              have hinit : Rvs w Sb G (List.replicate len (vcells z)).flatten ((Array.range (len * i.size)).map (zz.cells[· % zz.cells.size]!)).toList := by
                refine ⟨by rw [hflen]; simp, fun k v u q1 q2 => ?_⟩
                rw [rep_get c2] at q1
                split at q1
                · rename_i hk
                  have hlt : k % i.size < zz.cells.size := by rw [hzl]; exact Nat.mod_lt _ c1
                  simp only [Array.toList_map, List.getElem?_map, Array.toList_range, List.getElem?_range hk, Option.map_some, hzl] at q2
                  rw [getElem!_pos zz.cells _ hlt] at q2
                  cases q2
                  exact hzv.2 _ _ _ q1 (by simp [hlt])
                · cases q1
              obtain ⟨cur', q1, q2, q3, q4⟩ := vfill_rv hp1 hp2 hinit (fun v hv => by
                obtain ⟨l, hl, hv'⟩ := List.mem_flatten.1 hv
                obtain ⟨_, rfl⟩ := List.mem_replicate.1 hl
                simpa using List.all_eq_true.1 c3 v hv') hf
              have hcl : cs.length = len * i.size := by rw [q3, hflen]
              have hcs : cur'.size = len * i.size := by rw [← hcl]; have := q2.1; simpa using this
              have hmax : len ≤ maxLen := by
                have : len * 1 ≤ len * i.size := Nat.mul_le_mul_left _ c1
                unfold maxLen
                omega
              have hR := Nxt.row hs hn hg e (m := i.size) (cap := len) (xs := chunk len i.size cs) (cur := cur') c1 (fun c hc => by
                  obtain ⟨k, hk, rfl⟩ := List.getElem_of_mem hc
                  have hk' : k < len := by rw [chunk_len] at hk; exact hk
                  have := chunk_get len i.size cs k _ (List.getElem?_eq_getElem hk)
                  rw [this]
                  refine ⟨?_, fun v hv => q4 v (List.mem_of_mem_drop (List.mem_of_mem_take hv))⟩
                  rw [List.length_take, List.length_drop, hcl]
                  have h9 : (k + 1) * i.size ≤ len * i.size := Nat.mul_le_mul_right _ hk'
                  rw [Nat.succ_mul] at h9
                  omega) hcs (by rw [chunk_len]; exact Nat.le_refl _) hmax (fun k c j v r1 r2 => by
                  rw [chunk_get len i.size cs k c r1] at r2
                  rw [List.getElem?_take] at r2
                  split at r2
                  · rw [List.getElem?_drop] at r2
                    obtain ⟨u, s1, s2⟩ := q2.at r2
                    exact ⟨u, by simpa using s1, s2⟩
                  · cases r2)
              rw [chunk_len] at hR
              refine ⟨.value _, _, _, Sb, _, ?_, .inl rfl, hR, rv_new_row n _ _ _ c1, by simp, fun id k hid _ => gput_ne _ _ (fun q => by simp at hid; omega)⟩
              unfold Instr.buildSlice
              have hbig : ¬ (len * i.size > 2 ^ 24) := by omega
              by_cases hl0 : len * i.size = 0
              · simp only [hl0] at q1 hbig
                have hq : Array.map (fun x => zz.cells[x % zz.cells.size]!) (Array.range 0) = #[] := by simp [Array.range_zero']
                rw [hq, Array.toList_map] at q1
                simp [run_underlying hd, run_sizeOf hii, ← hsz, hl0, Array.range_zero', q1, newRow]
              · simp only [Sem.run_bind, run_underlying hd, Result.andThen_ok, run_sizeOf hii, ← hsz, hl0, if_false, Sem.run_pure, q1, newRow, run_newObj_alloc, hbig, zeroValue, typeInfo, run_program, hii, hiz]
        · cases h
      · cases h
    · cases h
  · cases h
end
end Go.Vm
namespace Go.Vm
open Go.RowKit
section
variable {P : Program} {w : World} {Sb : Nat → Prop} {G : Gh} {st : Store}
theorem valloc_n {e : TypeId} {cs : List V} {n : Nat} {o : Out} (h : valloc e cs n = some o) : o.2.2 = n + 1 := by
  unfold valloc at h
  split at h <;> cases h
  rfl
theorem vmake_n {n : Nat} {t : TypeId} {l c : V} {o : Out} (h : vmake P n t l c = some o) : o.2.2 = n + 1 := by
  unfold vmake at h
  split at h
  · split at h
    · split at h
      · split at h <;> cases h
        rfl
      · cases h
    · cases h
  · cases h
theorem vbuild_n {ρ : Operand → V} {n len : Nat} {t : TypeId} {ps : Array (Nat × Operand)} {o : Out} (h : vop P ρ st n (.buildSlice t len ps) = some o) : o.2.2 = n + 1 := by
  simp only [vop] at h
  split at h
  · split at h
    · split at h
      · split at h
        · rename_i e _ _ i _ _ z _ _
          cases hf : vfill (fun k => some (k * i.size, i.size)) (List.replicate len (vcells z)).flatten (ps.toList.map fun p => (p.1, ρ p.2)) with
          | none => rw [hf] at h; cases h
          | some cs => rw [hf] at h; cases h; rfl
        · cases h
      · cases h
    · cases h
  · cases h
set_option maxHeartbeats 1000000 in
theorem vop_sound (hs : WSim w Sb G st) {n : Nat} {ρ : Operand → V} {ρ' : Operand → Value} (hρ : ∀ x, Rv w Sb G (ρ x) (ρ' x)) (o : Oper) {out : Out} (hfr : out.2.2 = n + 1 → st n = none ∧ ∀ k, G n k = none) (h : vop P ρ st n o.op = some out) :
    OpOk P w Sb G st n out ((execOp ρ' o).run P w) := by
  obtain ⟨dst, op, type, pos, after, guard⟩ := o
  cases op
  case move x =>
    simp only [vop] at h
    cases h
    exact OpOk.pure hs (s := pure (ρ' x)) (by simp) (hρ x)
  case assign x =>
    simp only [vop] at h
    cases h
    exact OpOk.pure hs (s := pure (ρ' x)) (by simp) (hρ x)
  case pick c a b =>
    simp only [vop] at h
    split at h
    · rename_i t hc
      cases h
      have hc' := hρ c
      rw [hc] at hc'
      cases hb : ρ' c <;> rw [hb] at hc' <;> cases hc'
      refine ⟨.value (if t then ρ' a else ρ' b), _, w, Sb, G, by simp [execOp, hb, asBool], .inl rfl, Nxt.refl hs, ?_, Nat.le_refl _, fun _ _ _ _ => rfl⟩
      split <;> exact hρ _
    · cases h
  case alloc e =>
    simp only [vop] at h
    split at h
    · rename_i i hi
      obtain ⟨ii, _, hii, _, _, _, _, _, hz⟩ := tinfo_spec hi
      split at h
      · rename_i z hzi
        split at h
        · rename_i hl
          rw [hz] at hzi
          cases hiz : ii.zero with
          | none => rw [hiz] at hzi; cases hzi
          | some zz =>
            rw [hiz] at hzi
            simp only [Option.bind_some] at hzi
            obtain ⟨hn, hg⟩ := hfr (valloc_n h)
            obtain ⟨w', G', q1, q2, q3, q4, q5⟩ := valloc_rv (P := P) hs hn hg e h (ofVal_rv hzi).2
            refine ⟨.value (.pointer (some ⟨w.heap.size, 0, none⟩)), _, w', Sb, G', ?_, .inl rfl, q2, q3, by omega, fun id k hid _ => q5 id k (by omega)⟩
            simp only [execOp, Instr.alloc, Sem.run_bind, zeroValue, typeInfo, run_program, hii, Result.andThen_ok, hiz, Sem.run_pure, newVar, q1]
        · cases h
      · cases h
    · cases h
  case box e x =>
    simp only [vop] at h
    have hone : (vcells (ρ x)).all V.one = true := by
      unfold valloc at h
      split at h
      · rename_i hc; exact hc.2
      · cases h
    obtain ⟨hn, hg⟩ := hfr (valloc_n h)
    obtain ⟨w', G', q1, q2, q3, q4, q5⟩ := valloc_rv (P := P) hs hn hg e h ((hρ x).cells hone).1
    refine ⟨.value (.pointer (some ⟨w.heap.size, 0, none⟩)), _, w', Sb, G', ?_, .inl rfl, q2, q3, by omega, fun id k hid _ => q5 id k (by omega)⟩
    simp only [execOp, Instr.box, Sem.run_bind, newVar, q1, Result.andThen_ok, Sem.run_pure]
  case build t ps => exact vop_build hs hρ h
  case buildSlice t len ps =>
    obtain ⟨hn, hg⟩ := hfr (vbuild_n h)
    exact vop_buildSlice hs hn hg hρ h
  case load t a =>
    simp only [vop] at h
    split at h
    · rename_i i hi
      cases hv : vload st i.agg i.size (ρ a) with
      | none => rw [hv] at h; cases h
      | some v =>
        rw [hv] at h
        cases h
        obtain ⟨u, q1, q2⟩ := vload_rv hs hi (hρ a) hv
        exact OpOk.pure hs q1 q2
    · cases h
  case store t a x =>
    simp only [vop] at h
    split at h
    · rename_i i hi
      cases hv : vstore st i.size (ρ x) (ρ a) with
      | none => rw [hv] at h; cases h
      | some us =>
        rw [hv] at h
        cases h
        obtain ⟨w', q1, q2⟩ := vstore_rv hs hi (hρ a) (hρ x) hv
        exact ⟨.skip, undef, w', Sb, G, by simp [execOp, q1], .inr ⟨rfl, rfl⟩, q2, .tuple rfl (fun i v u q => by simp at q), Nat.le_refl _, fun _ _ _ _ => rfl⟩
    · cases h
  case nilCheck x =>
    have hx := hρ x
    simp only [vop] at h
    split at h
    · rename_i hq
      rw [hq] at hx
      cases h
      cases hb : ρ' x <;> rw [hb] at hx <;> cases hx
      rename_i E _ _ hE
      exact ⟨.value (.pointer _), _, w, Sb, G, by simp only [execOp, hb]; rfl, .inl rfl, Nxt.refl hs, by first | exact .ptr (by assumption) (by assumption) (by assumption), Nat.le_refl _, fun _ _ _ _ => rfl⟩
    · rename_i hq
      rw [hq] at hx
      cases h
      cases hb : ρ' x <;> rw [hb] at hx <;> cases hx
      have hx := hρ x
      rw [hq, hb] at hx
      exact ⟨.value (.pointer _), _, w, Sb, G, by simp only [execOp, hb]; rfl, .inl rfl, Nxt.refl hs, hx, Nat.le_refl _, fun _ _ _ _ => rfl⟩
    · cases h
  case binOp op t x y yt =>
    simp only [vop] at h
    cases hv : vbin op (tk P t) (flatEq P t) (ρ x) (ρ y) with
    | none => rw [hv] at h; cases h
    | some v =>
      rw [hv] at h
      cases h
      obtain ⟨u, q1, q2⟩ := vbin_rv (P := P) (a := x) (b := y) hv (hρ x) (hρ y)
      exact OpOk.pure hs q1 q2
  case unOp op t x =>
    simp only [vop] at h
    cases hv : vun op (ρ x) with
    | none => rw [hv] at h; cases h
    | some v =>
      rw [hv] at h
      cases h
      obtain ⟨u, q1, q2⟩ := vun_rv (P := P) hv (hρ x)
      exact OpOk.pure hs q1 q2
  case convert src dst x =>
    simp only [vop] at h
    cases hv : vconv P st src dst (ρ x) with
    | none => rw [hv] at h; cases h
    | some v =>
      rw [hv] at h
      cases h
      obtain ⟨u, w', Sb', q1, q2, q3⟩ := vconv_rv hs hv (hρ x)
      exact ⟨.value u, u, w', Sb', G, by simp [execOp, q1], .inl rfl, q2, q3, Nat.le_refl _, fun _ _ _ _ => rfl⟩
  case makeFunc fn f c =>
    simp only [vop] at h
    cases h
    exact OpOk.pure hs (s := Instr.makeFunc fn (f.map ρ') (c.map ρ')) (by simp [Instr.makeFunc]) (rv_func hρ fn f c)
  case makeMap t r =>
    cases r with
    | some r => simp [vop] at h
    | none =>
      simp only [vop] at h
      split at h
      · rename_i kt et ht
        cases h
        obtain ⟨hn, hg⟩ := hfr rfl
        have hN := Nxt.new hs hn hg (.map #[] 0) (.map kt []) ⟨w.heap.size, 0, 0, 0⟩ rfl (fun k => by simp [live]) (fun _ => ⟨_, #[], 0, gput_same .., heap_alloc_new _ _, rfl, fun i x y q => by simp at q⟩)
        refine ⟨.value (.map (some w.heap.size)), _, _, Sb, _, ?_, .inl rfl, hN, ?_, by simp, fun id k hid _ => gput_ne _ _ (fun q => by simp at hid; omega)⟩
        · simp [execOp, Instr.makeMap]
        · exact Rv.map (E := ⟨w.heap.size, 0, 0, 0⟩) (gput_same ..)
      · cases h
  case makeSlice t l c =>
    simp only [vop] at h
    obtain ⟨hn, hg⟩ := hfr (vmake_n h)
    exact vmake_rv hs hn hg (hρ l) (hρ c) h
  case slice t x lo hi mx =>
    cases mx with
    | some m => simp [vop] at h
    | none =>
      simp only [vop] at h
      obtain ⟨hlo, hlo0⟩ := opt_rv hρ lo
      obtain ⟨hhi, hhi0⟩ := opt_rv hρ hi
      split at h
      · rename_i ht
        obtain ⟨d, hd, hk⟩ := tk_spec ht
        have := kind_str hk
        subst this
        cases hv : vslice st true 0 (lo.map ρ) (hi.map ρ) (ρ x) with
        | none => rw [hv] at h; cases h
        | some v =>
          rw [hv] at h
          cases h
          obtain ⟨u, q1, q2⟩ := vslice_str hd hv (hρ x) hlo hlo0 hhi hhi0
          exact OpOk.pure hs q1 q2
      · rename_i e ht
        obtain ⟨d, hd, hk⟩ := tk_spec ht
        have := kind_slice hk
        subst this
        cases hi' : tinfo P e with
        | none => rw [hi'] at h; cases h
        | some i =>
          rw [hi'] at h
          simp only [Option.bind_some] at h
          obtain ⟨ii, _, hii, _, _, hsz, _⟩ := tinfo_spec hi'
          rw [hsz] at h
          cases hv : vslice st false ii.size (lo.map ρ) (hi.map ρ) (ρ x) with
          | none => rw [hv] at h; cases h
          | some v =>
            rw [hv] at h
            cases h
            obtain ⟨u, q1, q2⟩ := vslice_row hs hd hii hv (hρ x) hlo hlo0 hhi hhi0
            exact OpOk.pure hs q1 q2
      · cases h
  case fieldAddr s x f =>
    simp only [vop] at h
    split at h
    · rename_i fs ht
      obtain ⟨d, hd, hk⟩ := tk_spec ht
      obtain ⟨gs, rfl, rfl⟩ := kind_struct hk
      split at h
      · rename_i o ft hf
        split at h
        · rename_i i hi
          obtain ⟨ii, _, hii, _, _, hsz, _⟩ := tinfo_spec hi
          split at h
          · cases h
          · rename_i hne
            cases hv : vshift st o (ρ x) with
            | none => rw [hv] at h; cases h
            | some v =>
              rw [hv] at h
              cases h
              obtain ⟨b, o', hb, hr⟩ := vshift_rv hv hs (hρ x)
              obtain ⟨fd, hfd, ho, hft⟩ : ∃ fd : Field, gs[f]? = some fd ∧ fd.offset = o ∧ fd.type = ft := by
                rw [List.getElem?_map] at hf
                cases hg : gs.toList[f]? with
                | none => rw [hg] at hf; cases hf
                | some fd => rw [hg] at hf; simp at hf; exact ⟨fd, by simpa using hg, hf.1, hf.2⟩
              subst ho hft
              refine OpOk.pure hs (s := Instr.fieldAt s (ρ' x) f) (u := .pointer (some ⟨b, o' + fd.offset, none⟩)) ?_ hr
              unfold Instr.fieldAt
              rw [hsz] at hne
              simp [run_underlying hd, hfd, hb, Instr.sureAddr, fieldPlace, run_sizeOf hii, hne, addr_add]
        · cases h
      · cases h
    · cases h
  case field t x f =>
    have hx := hρ x
    simp only [vop] at h
    split at h
    · rename_i fs cs ht hxc
      obtain ⟨d, hd, hk⟩ := tk_spec ht
      obtain ⟨gs, rfl, rfl⟩ := kind_struct hk
      rw [hxc] at hx
      cases hb : ρ' x <;> rw [hb] at hx <;> try (cases hx; done)
      rename_i us
      split at h
      · rename_i o ft hf
        split at h
        · rename_i i hi
          cases hv : vpart i.agg o i.size cs with
          | none => rw [hv] at h; cases h
          | some v =>
            rw [hv] at h
            cases h
            obtain ⟨u, q1, q2⟩ := part_rv hi hx hv
            obtain ⟨fd, hfd, ho, hft⟩ : ∃ fd : Field, gs[f]? = some fd ∧ fd.offset = o ∧ fd.type = ft := by
              rw [List.getElem?_map] at hf
              cases hg : gs.toList[f]? with
              | none => rw [hg] at hf; cases hf
              | some fd => rw [hg] at hf; simp at hf; exact ⟨fd, by simpa using hg, hf.1, hf.2⟩
            subst ho hft
            refine OpOk.pure hs (s := Instr.field t (ρ' x) f) ?_ q2
            unfold Instr.field
            simp [run_underlying hd, hfd, hb, asAgg, q1]
        · cases h
      · cases h
    · cases h
  case indexAddr t x i =>
    have hx := hρ x
    have hi := hρ i
    simp only [vop] at h
    split at h
    · rename_i e k j ht hj
      obtain ⟨d, hd, hk⟩ := tk_spec ht
      have := kind_slice hk
      subst this
      rw [hj] at hi
      cases hib : ρ' i <;> rw [hib] at hi <;> try (cases hi; done)
      cases hi
      split at h
      · rename_i ie hie
        obtain ⟨ii, _, hii, _, _, hsz, _⟩ := tinfo_spec hie
        split at h
        · rename_i hj0
          have hjn : (j.toNat : Int) = j := Int.toNat_of_nonneg hj0
          split at h
          · rename_i m xs hxl
            rw [hxl] at hx
            split at h
            · rename_i hm
              cases hxs : xs[j.toNat]? with
              | none => rw [hxs] at h; cases h
              | some cs =>
                rw [hxs] at h
                cases h
                have hlt := (List.getElem?_eq_some_iff.1 hxs).1
                cases hb : ρ' x <;> rw [hb] at hx <;> try (cases hx; done)
                cases hx with
                | @list _ b o _ c f hb' hm0 hc hcm hl ho hcell hv =>
                  refine OpOk.pure hs (s := Instr.indexAt t (ρ' x) (ρ' i)) (u := .pointer (some ⟨b, o + j.toNat * ii.size, none⟩)) ?_ (.iptr (fun q => f j.toNat q) hb' (by rw [hl _ _ hxs]; exact hm0) (fun v hv' => ho _ _ v hxs hv') (fun q v hq => ?_) (fun q v hq => hv _ _ q v hxs hq))
                  · unfold Instr.indexAt
                    have h1 : 0 ≤ j ∧ j < xs.length := ⟨hj0, by omega⟩
                    simp [hb, hib, asIntOf, run_underlying hd, h1, run_sizeOf hii, addr_add]
                  · rw [← hsz, ← hm]
                    exact hcell _ _ q v hxs hq
                | list0 => simp at hxs
            · cases h
          · rename_i id g i0 kk hxr
            rw [hxr] at hx
            split at h
            · rename_i e' m G' L xs hst
              split at h
              · rename_i hc
                obtain ⟨c1, c2, c3, c4⟩ := hc
                cases h
                cases hb : ρ' x <;> rw [hb] at hx <;> try (cases hx; done)
                cases hx with
                | @row _ _ _ _ c E a hE hn' hw hcap hsome ha =>
                  have ha := ha (.inr (by omega))
                  subst ha
                  have hwid : E.wid = m := by
                    obtain ⟨_, hL, _, hT, _⟩ := hs.blk id _ hst
                    obtain ⟨E2, r1, cur, r2, _⟩ := hT g c3 c4
                    rw [hE] at r1
                    cases r1
                    exact r2
                  refine OpOk.pure hs (s := Instr.indexAt t (ρ' x) (ρ' i)) (u := .pointer (some ⟨E.blk, (i0 + j.toNat) * E.wid + 0, none⟩)) ?_ (.ptr hE (by omega) (by omega))
                  unfold Instr.indexAt
                  have h1 : 0 ≤ j ∧ j < (kk : Int) := ⟨hj0, by omega⟩
                  simp [hb, hib, asIntOf, run_underlying hd, h1, run_sizeOf hii, addr_add]
                  rw [Nat.add_mul, hwid, c1, hsz]
              · cases h
            · cases h
          · cases h
        · cases h
      · cases h
    · rename_i nn e k j ht hj
      obtain ⟨d, hd, hk⟩ := tk_spec ht
      have := kind_array hk
      subst this
      rw [hj] at hi
      cases hib : ρ' i <;> rw [hib] at hi <;> try (cases hi; done)
      cases hi
      split at h
      · rename_i ie hie
        obtain ⟨ii, _, hii, _, _, hsz, _⟩ := tinfo_spec hie
        split at h
        · rename_i hc
          obtain ⟨hj0, hjk⟩ := hc
          have hjn : (j.toNat : Int) = j := Int.toNat_of_nonneg hj0
          cases hv : vshift st (j.toNat * ie.size) (ρ x) with
          | none => rw [hv] at h; cases h
          | some v =>
            rw [hv] at h
            cases h
            obtain ⟨b, o', hb, hr⟩ := vshift_rv hv hs hx
            refine OpOk.pure hs (s := Instr.indexAt t (ρ' x) (ρ' i)) (u := .pointer (some ⟨b, o' + j.toNat * ie.size, none⟩)) ?_ hr
            unfold Instr.indexAt
            have h1 : 0 ≤ j ∧ j < (nn : Int) := ⟨hj0, by omega⟩
            simp [hb, hib, asIntOf, run_underlying hd, Instr.sureAddr, h1, run_sizeOf hii, addr_add, hsz]
        · cases h
      · cases h
    · cases h
  case index t x i =>
    have hx := hρ x
    have hi := hρ i
    simp only [vop] at h
    split at h
    · rename_i s k j ht hxs hj
      obtain ⟨d, hd, hk⟩ := tk_spec ht
      have := kind_str hk
      subst this
      rw [hj] at hi
      rw [hxs] at hx
      cases hib : ρ' i <;> rw [hib] at hi <;> try (cases hi; done)
      cases hi
      cases hb : ρ' x <;> rw [hb] at hx <;> try (cases hx; done)
      cases hx
      split at h
      · rename_i hj0
        cases hg : s.data.toList[j.toNat]? with
        | none => rw [hg] at h; cases h
        | some b =>
          rw [hg] at h
          cases h
          refine OpOk.pure hs (s := Instr.index t (ρ' x) (ρ' i)) (u := .int .u8 b.toNat) ?_ (.int _ _)
          unfold Instr.index
          have h2 : s[j.toNat]? = some b := by
            have : s.data[j.toNat]? = some b := by simpa using hg
            exact this
          simp [hb, hib, asIntOf, run_underlying hd, hj0, h2]
      · cases h
    · rename_i nn e cs k j ht hxs hj
      obtain ⟨d, hd, hk⟩ := tk_spec ht
      have := kind_array hk
      subst this
      rw [hj] at hi
      rw [hxs] at hx
      cases hib : ρ' i <;> rw [hib] at hi <;> try (cases hi; done)
      cases hi
      cases hb : ρ' x <;> rw [hb] at hx <;> try (cases hx; done)
      split at h
      · rename_i ie hie
        obtain ⟨ii, _, hii, _, _, hsz, _⟩ := tinfo_spec hie
        split at h
        · rename_i hc
          obtain ⟨hj0, hjk⟩ := hc
          cases hv : vpart ie.agg (j.toNat * ie.size) ie.size cs with
          | none => rw [hv] at h; cases h
          | some v =>
            rw [hv] at h
            cases h
            obtain ⟨u, q1, q2⟩ := part_rv hie hx hv
            refine OpOk.pure hs (s := Instr.index t (ρ' x) (ρ' i)) ?_ q2
            unfold Instr.index
            have h1 : 0 ≤ j ∧ j < (nn : Int) := ⟨hj0, by omega⟩
            rw [hsz] at q1
            simp [hb, hib, asIntOf, run_underlying hd, h1, run_sizeOf hii, q1]
        · cases h
      · cases h
    · cases h
  case lookup t m k ok =>
    simp only [vop] at h
    cases hv : vlookup P st t ok (ρ m) (ρ k) with
    | none => rw [hv] at h; cases h
    | some v =>
      rw [hv] at h
      cases h
      obtain ⟨u, q1, q2⟩ := vlookup_rv hs hv (hρ m) (hρ k)
      exact OpOk.pure hs q1 q2
  case mapUpdate t m k v =>
    simp only [vop] at h
    cases hv : vupdate P st t (ρ m) (ρ k) (ρ v) with
    | none => rw [hv] at h; cases h
    | some us =>
      rw [hv] at h
      cases h
      obtain ⟨w', q1, q2⟩ := vupdate_rv hs hv (hρ m) (hρ k) (hρ v)
      exact ⟨.skip, undef, w', Sb, G, by simp [execOp, q1], .inr ⟨rfl, rfl⟩, q2, .tuple rfl (fun i v u q => by simp at q), Nat.le_refl _, fun _ _ _ _ => rfl⟩
  case extract x i =>
    have hx := hρ x
    simp only [vop] at h
    split at h
    · rename_i vs hxs
      rw [hxs] at hx
      cases hb : ρ' x <;> rw [hb] at hx <;> try (cases hx; done)
      cases hx
      rename_i us h1 h2
      cases hv : vs[i]? with
      | none => rw [hv] at h; cases h
      | some v =>
        rw [hv] at h
        cases h
        have hlt : i < us.size := by rw [h1]; exact (List.getElem?_eq_some_iff.1 hv).1
        refine OpOk.pure hs (s := Instr.extract (ρ' x) i) (u := us[i]) ?_ (h2 i v _ hv (by simp [hlt]))
        simp [Instr.extract, hb, hlt]
    · cases h
  case call c =>
    obtain ⟨callee, args, ts⟩ := c
    cases callee with
    | builtin b =>
      simp only [vop] at h
      simp only [execOp, resolve, invoke, Sem.run_bind, Sem.run_pure, Result.andThen_ok]
      exact vop_append hs hρ hfr h
    | value f => simp [vop] at h
    | invoke f m => simp [vop] at h
  all_goals simp [vop] at h
end
end Go.Vm
namespace Go.Vm
open Go.RowKit
def V.tid : V → Option Nat
  | .row id _ _ _ | .ptr id _ _ _ | .map id => some id
  | _ => none
def Seen (st st2 : Store) (x : V) : Prop := ∀ id, x.tid = some id → st id = none ∨ st2 id = st id
section
variable {P : Program} {st st2 : Store}
theorem vload_seen {agg : Bool} {sz : Nat} {x v : V} (hx : Seen st st2 x) (h : vload st agg sz x = some v) : vload st2 agg sz x = some v := by
  unfold vload at h ⊢
  split at h
  · rename_i id g i o
    rcases hx id rfl with q | q
    · rw [q] at h; cases h
    · rw [q]; exact h
  · exact h
  · cases h
theorem vstore_seen {sz : Nat} {v x : V} {us : List (Nat × Blk)} (hx : Seen st st2 x) (h : vstore st sz v x = some us) : vstore st2 sz v x = some us := by
  unfold vstore at h ⊢
  split at h
  · rename_i id g i o
    rcases hx id rfl with q | q
    · rw [q] at h; cases h
    · rw [q]; exact h
  · cases h
theorem vseq_seen {x : V} {ys : List (List V)} (hx : Seen st st2 x) (h : vseq st x = some ys) : vseq st2 x = some ys := by
  unfold vseq at h ⊢
  split at h
  · exact h
  · exact h
  · rename_i id g i n
    rcases hx id rfl with q | q
    · rw [q] at h; cases h
    · rw [q]; exact h
  · exact h
  · cases h
theorem okw_seen {m : Nat} {x : V} (hx : Seen st st2 x) (h : okw st m x = true) : okw st2 m x = true := by
  unfold okw at h ⊢
  split at h
  · exact h
  · exact h
  · rename_i id g i n
    rcases hx id rfl with q | q
    · rw [q] at h; cases h
    · rw [q]; exact h
  · exact h
  · cases h
theorem vappend_seen {n : Nat} {e : TypeId} {m bytes : Nat} {ys : List (List V)} {x : V} {o : Out} (hx : Seen st st2 x) (h : vappend st n e m bytes ys x = some o) : vappend st2 n e m bytes ys x = some o := by
  unfold vappend at h ⊢
  split at h
  · exact h
  · rename_i id g k
    rcases hx id rfl with q | q
    · rw [q] at h; cases h
    · rw [q]; exact h
  · cases h
theorem vshift_seen {d : Nat} {x v : V} (hx : Seen st st2 x) (h : vshift st d x = some v) : vshift st2 d x = some v := by
  unfold vshift at h ⊢
  split at h
  · rename_i id g i o
    rcases hx id rfl with q | q
    · rw [q] at h; cases h
    · rw [q]; exact h
  · exact h
  · cases h
theorem vslice_seen {s : Bool} {sz : Nat} {lo hi : Option V} {x v : V} (hx : Seen st st2 x) (h : vslice st s sz lo hi x = some v) : vslice st2 s sz lo hi x = some v := by
  unfold vslice at h ⊢
  split at h
  · exact h
  · exact h
  · exact h
  · rename_i id g i n
    split at h
    · rename_i hs
      rw [if_pos hs]
      split at h
      · rename_i l q' hl hq
        split at h
        · rename_i hc
          rw [if_pos ⟨hc.1, hc.2.1, hc.2.2.1, okw_seen hx hc.2.2.2⟩]
          exact h
        · cases h
      · cases h
    · cases h
  · cases h
theorem vconv_seen {src dst : TypeId} {x v : V} (hx : Seen st st2 x) (h : vconv P st src dst x = some v) : vconv P st2 src dst x = some v := by
  unfold vconv at h ⊢
  split at h
  · rename_i s d hs hd
    split at h <;> try exact h
    rename_i xv xt x' hk h1 h2
    split at h
    · rename_i e he
      split at h
      · rename_i hek
        cases hq : vseq st xv with
        | none => rw [hq] at h; cases h
        | some ys => rw [hq] at h; rw [vseq_seen hx hq]; exact h
      · rename_i hek
        cases hq : vseq st xv with
        | none => rw [hq] at h; cases h
        | some ys => rw [hq] at h; rw [vseq_seen hx hq]; exact h
      · cases h
    · cases h
  · cases h
theorem vlookup_seen {t : TypeId} {ok : Bool} {m k v : V} (hm : Seen st st2 m) (h : vlookup P st t ok m k = some v) : vlookup P st2 t ok m k = some v := by
  cases m with
  | map id =>
    rcases hm id rfl with q | q
    · simp only [vlookup, q] at h
      split at h
      · split at h
        · cases h
        · split at h <;> cases h
      · cases h
    · simp only [vlookup, q] at h ⊢
      exact h
  | _ => exact h
theorem vupdate_seen {t : TypeId} {m k v : V} {us : List (Nat × Blk)} (hm : Seen st st2 m) (h : vupdate P st t m k v = some us) : vupdate P st2 t m k v = some us := by
  cases m with
  | map id =>
    rcases hm id rfl with q | q
    · simp only [vupdate, q] at h
      split at h
      · split at h
        · cases h
        · split at h <;> cases h
      · cases h
    · simp only [vupdate, q] at h ⊢
      exact h
  | _ => exact h
theorem vlen_seen {t : TK} {x : V} {k : Nat} (hx : Seen st st2 x) (h : vlen st t x = some k) : vlen st2 t x = some k := by
  unfold vlen at h ⊢
  split at h <;> try exact h
  rename_i id
  rcases hx id rfl with q | q
  · rw [q] at h; cases h
  · rw [q]; exact h
theorem vbuiltin_seen {n : Nat} {ts : List TypeId} {b : Builtin} {args : List V} {o : Out} (ha : ∀ x ∈ args, Seen st st2 x) (h : vbuiltin P st n ts b args = some o) : vbuiltin P st2 n ts b args = some o := by
  unfold vbuiltin at h ⊢
  split at h
  · rename_i x t
    split at h
    · rename_i kk hk
      cases hq : vlen st kk x with
      | none => rw [hq] at h; cases h
      | some k => rw [hq] at h; rw [vlen_seen (ha x (by simp)) hq]; exact h
    · cases h
  · rename_i s x t u
    split at h
    · split at h
      · split at h
        · rename_i hc
          rw [if_pos ⟨hc.1, hc.2.1, hc.2.2.1, hc.2.2.2.1, okw_seen (ha x (by simp)) hc.2.2.2.2⟩]
          cases hq : vseq st x with
          | none => rw [hq] at h; cases h
          | some ys =>
            rw [hq] at h
            rw [vseq_seen (ha x (by simp)) hq]
            exact vappend_seen (ha s (by simp)) h
        · cases h
      · cases h
    · cases h
  · exact h
  · exact h
  · cases h
theorem vop_seen {ρ : Operand → V} {n : Nat} {op : Op} {o : Out} (ha : ∀ x ∈ op.operands, Seen st st2 (ρ x)) (h : vop P ρ st n op = some o) : vop P ρ st2 n op = some o := by
  cases op
  case load t a =>
    simp only [vop] at h ⊢
    split at h
    · rename_i i hi
      cases hq : vload st i.agg i.size (ρ a) with
      | none => rw [hq] at h; cases h
      | some v => rw [hq] at h; rw [vload_seen (ha a (by simp [Op.operands])) hq]; exact h
    · cases h
  case store t a x =>
    simp only [vop] at h ⊢
    split at h
    · rename_i i hi
      cases hq : vstore st i.size (ρ x) (ρ a) with
      | none => rw [hq] at h; cases h
      | some v => rw [hq] at h; rw [vstore_seen (ha a (by simp [Op.operands])) hq]; exact h
    · cases h
  case convert s d x =>
    simp only [vop] at h ⊢
    cases hq : vconv P st s d (ρ x) with
    | none => rw [hq] at h; cases h
    | some v => rw [hq] at h; rw [vconv_seen (ha x (by simp [Op.operands])) hq]; exact h
  case slice t x lo hi mx =>
    have hx := ha x (by simp [Op.operands])
    cases mx with
    | some m => simp [vop] at h
    | none =>
      simp only [vop] at h ⊢
      split at h
      · rename_i ht
        cases hq : vslice st true 0 (lo.map ρ) (hi.map ρ) (ρ x) with
        | none => rw [hq] at h; cases h
        | some v => rw [hq] at h; rw [vslice_seen hx hq]; exact h
      · rename_i e ht
        cases hi' : tinfo P e with
        | none => rw [hi'] at h; cases h
        | some i =>
          rw [hi'] at h
          simp only [Option.bind_some] at h ⊢
          cases hq : vslice st false i.size (lo.map ρ) (hi.map ρ) (ρ x) with
          | none => rw [hq] at h; cases h
          | some v => rw [hq] at h; rw [vslice_seen hx hq]; exact h
      · cases h
  case fieldAddr s x f =>
    have hx := ha x (by simp [Op.operands])
    simp only [vop] at h ⊢
    split at h
    · split at h
      · rename_i o ft hf
        split at h
        · split at h
          · cases h
          · rename_i hz
            rw [if_neg hz]
            cases hq : vshift st o (ρ x) with
            | none => rw [hq] at h; cases h
            | some v => rw [hq] at h; rw [vshift_seen hx hq]; exact h
        · cases h
      · cases h
    · cases h
  case indexAddr t x i =>
    have hx := ha x (by simp [Op.operands])
    simp only [vop] at h ⊢
    split at h
    · split at h
      · split at h
        · rename_i hj
          rw [if_pos hj]
          split at h
          · exact h
          · rename_i id g i0 k hxr
            rcases hx id (by rw [hxr]; rfl) with q | q
            · rw [q] at h; cases h
            · simp only [q]; exact h
          · cases h
        · cases h
      · cases h
    · split at h
      · rename_i ie hie
        split at h
        · rename_i hc
          rw [if_pos hc]
          rename_i j _ _ _
          cases hq : vshift st (j.toNat * ie.size) (ρ x) with
          | none => rw [hq] at h; cases h
          | some v => rw [hq] at h; rw [vshift_seen hx hq]; exact h
        · cases h
      · cases h
    · cases h
  case lookup t m k ok =>
    simp only [vop] at h ⊢
    cases hq : vlookup P st t ok (ρ m) (ρ k) with
    | none => rw [hq] at h; cases h
    | some v => rw [hq] at h; rw [vlookup_seen (ha m (by simp [Op.operands])) hq]; exact h
  case mapUpdate t m k v =>
    simp only [vop] at h ⊢
    cases hq : vupdate P st t (ρ m) (ρ k) (ρ v) with
    | none => rw [hq] at h; cases h
    | some v => rw [hq] at h; rw [vupdate_seen (ha m (by simp [Op.operands])) hq]; exact h
  case call c =>
    obtain ⟨callee, args, ts⟩ := c
    cases callee with
    | builtin b =>
      simp only [vop] at h ⊢
      refine vbuiltin_seen (fun x hx => ?_) h
      simp only [List.mem_map] at hx
      obtain ⟨a, ha', rfl⟩ := hx
      exact ha a (by simp [Op.operands, Call.operands]; simpa using ha')
    | value f => simp [vop] at h
    | invoke f m => simp [vop] at h
  case makeMap t r => cases r <;> exact h
  all_goals exact h
theorem vop_congr {ρ ρ2 : Operand → V} {n : Nat} {op : Op} (ha : ∀ x ∈ op.operands, ρ x = ρ2 x) : vop P ρ st n op = vop P ρ2 st n op := by
  have hl : ∀ l : List Operand, (∀ x ∈ l, ρ x = ρ2 x) → l.map ρ = l.map ρ2 := fun l hl => List.map_congr_left hl
  have hp : ∀ ps : Array (Nat × Operand), (∀ x ∈ ps.toList.map (·.2), ρ x = ρ2 x) → (ps.toList.map fun p => (p.1, ρ p.2)) = ps.toList.map fun p => (p.1, ρ2 p.2) := fun ps h => List.map_congr_left fun p hp => by rw [h p.2 (List.mem_map.2 ⟨p, hp, rfl⟩)]
  have ho : ∀ l : Option Operand, (∀ x, l = some x → ρ x = ρ2 x) → l.map ρ = l.map ρ2 := fun l h => by cases l with | none => rfl | some x => simp [h x rfl]
  cases op <;> simp only [Op.operands] at ha <;> simp only [vop]
  case pick c a b => rw [ha c (by simp), ha a (by simp), ha b (by simp)]
  case build t ps => rw [hp ps (fun x hx => ha x (by simpa using hx))]
  case buildSlice t n ps => rw [hp ps (fun x hx => ha x (by simpa using hx))]
  case makeFunc fn f c => rw [hl f.toList (fun x hx => ha x (by simp at hx ⊢; exact .inl hx)), hl c.toList (fun x hx => ha x (by simp at hx ⊢; exact .inr hx))]
  case slice t x lo hi mx =>
    cases mx with
    | some m => rfl
    | none =>
      simp only []
      rw [ha x (by simp), ho lo (fun y hy => ha y (by simp [hy])), ho hi (fun y hy => ha y (by simp [hy]))]
  case makeMap t r => cases r <;> rfl
  case call c =>
    obtain ⟨callee, args, ts⟩ := c
    cases callee with
    | builtin b =>
      simp only []
      rw [hl args.toList (fun x hx => ha x (by simp [Call.operands]; simpa using hx))]
    | value f => rfl
    | invoke f m => rfl
  all_goals first | rfl | (simp [ha]; done) | skip
end
end Go.Vm
namespace Go.Vm
open Go.RowKit
def veval (e : List V) : Operand → V
  | .tmp t => e.getD t (.tuple [])
  | .const v => (ofVal v).getD .any
  | .global _ => .any
  | .func f => .func (.func f) [] []
def vput (e : List V) (dst : Option Tmp) (v : V) : List V := match dst with | some d => e.set d v | none => e
def vwanted (ops : Array Oper) (e : List V) (o : Oper) : Option Bool :=
  match o.guard with
  | none => some true
  | some (j, want) => match (ops[j]?).bind (·.dst) with
    | none => some false
    | some d => match e[d]? with
      | some (.bool b) => some (b == want)
      | some .any => none
      | _ => some false
def VCall (P : Program) (f : FuncId) (args : List V) (st : Store) (n : Nat) (out : Out) : Prop :=
  ∀ w Sb G us N, WSim w Sb G st → (∀ id, n ≤ id → id < out.2.2 → st id = none ∧ ∀ k, G id k = none) → n ≤ N → out.2.2 ≤ N → (∀ id, N ≤ id → st id = none ∧ ∀ k, G id k = none) → Rvs w Sb G args us →
    Calls P f us.toArray w fun e w' => ∃ u Sb' G', e = .returned u ∧ Nxt w Sb G st w' Sb' G' (upd st out.2.1) ∧ Rv w' Sb' G' out.1 u ∧ ∀ id k, (id < n ∨ out.2.2 ≤ id) → st id = none → G' id k = G id k
def Free (s : Store) (G : Gh) (n : Nat) : Prop := ∀ id, n ≤ id → s id = none ∧ ∀ k, G id k = none
def VCallX (P : Program) (f : FuncId) (args : List V) (st : Store) (n : Nat) (out : Out) : Prop :=
  ∀ w Sb G us, WSim w Sb G st → Free st G n → Rvs w Sb G args us →
    Calls P f us.toArray w fun e w' => ∃ u Sb' G', e = .returned u ∧ Nxt w Sb G st w' Sb' G' (upd st out.2.1) ∧ Rv w' Sb' G' out.1 u ∧ ∀ id k, (id < n ∨ out.2.2 ≤ id) → st id = none → G' id k = G id k
def plainFunc (P : Program) (f : FuncId) : Bool := match P.funcs[f]? with | some fn => fn.name != "runtime.NumGoroutine" && fn.body.isSome | none => false
inductive OSL (P : Program) (o : Oper) (ρ : Operand → V) (st : Store) (n : Nat) : Out → Prop where
  | op {out : Out} (h : vop P ρ st n o.op = some out) (hn : n ≤ out.2.2) : OSL P o ρ st n out
  | call {out : Out} {f : Operand} {args : Array Operand} {ts : Array TypeId} {fid : FuncId} {first captured : List V} (ho : o.op = .call { callee := .value f, args := args, argTypes := ts }) (hf : ρ f = .func (.func fid) first captured) (hp : plainFunc P fid = true)
      (h : ∀ st2 : Store, (∀ x ∈ o.op.operands, Seen st st2 (ρ x)) → VCall P fid (first ++ args.toList.map ρ ++ captured) st2 n out) (hn : n ≤ out.2.2) : OSL P o ρ st n out
inductive GC (P : Program) (o : Oper) (ρ : Operand → V) (st : Store) (n : Nat) : Out → Prop where
  | mk {out : Out} {f : Operand} {args : Array Operand} {ts : Array TypeId} {fid : FuncId} {first captured : List V} (ho : o.op = .call { callee := .value f, args := args, argTypes := ts }) (hf : ρ f = .func (.func fid) first captured) (hp : plainFunc P fid = true)
      (h : VCall P fid (first ++ args.toList.map ρ ++ captured) st n out) (hn : n ≤ out.2.2) : GC P o ρ st n out
  | mx {out : Out} {f : Operand} {args : Array Operand} {ts : Array TypeId} {fid : FuncId} {first captured : List V} (ho : o.op = .call { callee := .value f, args := args, argTypes := ts }) (hf : ρ f = .func (.func fid) first captured) (hp : plainFunc P fid = true)
      (h : VCallX P fid (first ++ args.toList.map ρ ++ captured) st n out) (hn : n ≤ out.2.2) : GC P o ρ st n out
def OS (P : Program) (loc : Bool) (o : Oper) (ρ : Operand → V) (st : Store) (n : Nat) (out : Out) : Prop := OSL P o ρ st n out ∨ loc = false ∧ GC P o ρ st n out
section
variable {P : Program} {w : World} {Sb : Nat → Prop} {G : Gh} {st : Store}
theorem eval_rv {e : List V} {a : Act} (h : Rvs w Sb G e a.tmps.toList) (x : Operand) : Rv w Sb G (veval e x) (a.eval x) := by
  cases x with
  | tmp t =>
    simp only [veval, Act.eval, List.getD_eq_getElem?_getD]
    cases he : e[t]? with
    | none =>
      have hl : a.tmps.size ≤ t := by
        have h1 := h.1
        have h2 := List.getElem?_eq_none_iff.1 he
        simp at h1
        omega
      simp only [Option.getD_none]
      rw [show a.tmps.getD t undef = undef by simp [Array.getD_eq_getD_getElem?, Array.getElem?_eq_none hl]]
      exact .tuple rfl (fun i v u q => by simp at q)
    | some v =>
      obtain ⟨u, h1, h2⟩ := h.at he
      simp only [Option.getD_some]
      have hu : a.tmps[t]? = some u := by simpa using h1
      rw [show a.tmps.getD t undef = u by simp [Array.getD_eq_getD_getElem?, hu]]
      exact h2
  | const v =>
    simp only [veval, Act.eval]
    cases hv : ofVal v with
    | none => exact .any _
    | some x => exact (ofVal_rv hv).1
  | global g => exact .any _
  | func f => exact .func rfl rfl (fun i v u q => by simp at q) (fun i v u q => by simp at q)
theorem put_rv {e : List V} {a : Act} (h : Rvs w Sb G e a.tmps.toList) {v : V} {u : Value} (hv : Rv w Sb G v u) (dst : Option Tmp) : Rvs w Sb G (vput e dst v) (a.put dst u).tmps.toList := by
  cases dst with
  | none => exact h
  | some d => simpa [vput, Act.put] using h.set hv d
theorem undef_rv : Rv w Sb G (.tuple []) undef := .tuple rfl (fun i v u q => by simp at q)
theorem wanted_rv {ops : Array Oper} {e : List V} {a : Act} (h : Rvs w Sb G e a.tmps.toList) {o : Oper} {b : Bool} (hw : vwanted ops e o = some b) : Region.wanted o (yielded ops a.tmps) = b := by
  unfold vwanted at hw
  unfold Region.wanted
  split at hw
  · rename_i hg
    cases hw
    rw [hg]
  · rename_i j want hg
    rw [hg]
    simp only
    unfold yielded
    split at hw
    · rename_i hd
      cases hw
      rw [hd]
      rfl
    · rename_i d hd
      rw [hd]
      simp only [Option.bind_some]
      split at hw
      · rename_i b' he
        cases hw
        obtain ⟨u, h1, h2⟩ := h.at he
        cases h2
        have : a.tmps[d]? = some (.bool b') := by simpa using h1
        rw [this]
        cases b' <;> cases want <;> rfl
      · cases hw
      · rename_i hne1 hne2
        cases hw
        cases he : e[d]? with
        | none =>
          have hl : a.tmps.size ≤ d := by
            have h1 := h.1
            have h2 := List.getElem?_eq_none_iff.1 he
            simp at h1
            omega
          rw [Array.getElem?_eq_none hl]
          rfl
        | some v =>
          obtain ⟨u, h1, h2⟩ := h.at he
          have hu : a.tmps[d]? = some u := by simpa using h1
          rw [hu]
          cases u <;> first | rfl | skip
          cases h2
          · exact absurd he (hne1 _)
          · exact absurd he hne2
theorem call_wp {o : Oper} {e : List V} {n : Nat} {out : Out} {f : Operand} {args : Array Operand} {ts : Array TypeId} {fid : FuncId} {first captured : List V} (hop : o.op = .call { callee := .value f, args := args, argTypes := ts }) (hfv : veval e f = .func (.func fid) first captured) (hp : plainFunc P fid = true)
    (hs : WSim w Sb G st) {a : Act} (he : Rvs w Sb G e a.tmps.toList)
    (h : ∀ us, Rvs w Sb G (first ++ args.toList.map (veval e) ++ captured) us → Calls P fid us.toArray w fun e w' => ∃ u Sb' G', e = .returned u ∧ Nxt w Sb G st w' Sb' G' (upd st out.2.1) ∧ Rv w' Sb' G' out.1 u ∧ ∀ id k, (id < n ∨ out.2.2 ≤ id) → st id = none → G' id k = G id k) {K : Act → World → Prop} {Q : Exit → Act → World → Prop}
    (hK : ∀ a' w' Sb' G', Rvs w' Sb' G' (vput e o.dst out.1) a'.tmps.toList → Nxt w Sb G st w' Sb' G' (upd st out.2.1) → a'.defers = a.defers → (∀ id k, (id < n ∨ out.2.2 ≤ id) → st id = none → G' id k = G id k) → K a' w') : o.wp P a w K Q := by
  have hput : ∀ (u : Value), (a.put o.dst u).defers = a.defers := fun u => by cases o.dst <;> rfl
  have hev := eval_rv he f
  rw [hfv] at hev
  cases hfe : a.eval f <;> rw [hfe] at hev <;> try (cases hev; done)
  rename_i fn us vs
  cases hev with
  | func g1 g2 g3 g4 =>
    have hargs : Rvs w Sb G (first ++ args.toList.map (veval e) ++ captured) (us.toList ++ args.toList.map a.eval ++ vs.toList) :=
      (Rvs.append (Rvs.append ⟨by simpa using g1, fun i v u q r => g3 i v u q (by simpa using r)⟩ (rvs_map (eval_rv he) args.toList)) ⟨by simpa using g2, fun i v u q r => g4 i v u q (by simpa using r)⟩)
    have hcall := h _ hargs
    unfold plainFunc at hp
    split at hp
    · rename_i fn hfn
      simp only [Bool.and_eq_true, bne_iff_ne, ne_eq] at hp
      obtain ⟨p1, p2⟩ := hp
      have hrun : (execOp a.eval o).run P w = .ok (.enter fid (us ++ args.map a.eval ++ vs)) w := by
        simp [execOp, hop, resolve, hfe, Deferred.ofValue, invoke, callFunc, hfn, p1]
        intro hb
        rw [hb] at p2
        cases p2
      unfold Oper.wp
      rw [hrun, Oper.upon_enter]
      have harr : us ++ args.map a.eval ++ vs = (us.toList ++ args.toList.map a.eval ++ vs.toList).toArray := Array.ext' (by simp)
      rw [harr]
      refine hcall.mono ?_
      rintro e' w' ⟨u, Sb', G', rfl, q1, q2, q3⟩
      exact hK _ w' Sb' G' (put_rv (q1.rvs hs he) q2 o.dst) q1 (hput u) q3
    · cases hp
theorem OS.wp {loc : Bool} {o : Oper} {e : List V} {n : Nat} {out : Out} (ho : OS P loc o (veval e) st n out) (hs : WSim w Sb G st) {a : Act} (he : Rvs w Sb G e a.tmps.toList) (hf : ∀ id, n ≤ id → id < out.2.2 → st id = none ∧ ∀ k, G id k = none) {N : Nat} (hN1 : n ≤ N) (hN2 : out.2.2 ≤ N) (hN3 : ∀ id, N ≤ id → st id = none ∧ ∀ k, G id k = none) (hX : loc = false → Free st G n) {K : Act → World → Prop} {Q : Exit → Act → World → Prop}
    (hK : ∀ a' w' Sb' G', Rvs w' Sb' G' (vput e o.dst out.1) a'.tmps.toList → Nxt w Sb G st w' Sb' G' (upd st out.2.1) → a'.defers = a.defers → (∀ id k, (id < n ∨ out.2.2 ≤ id) → st id = none → G' id k = G id k) → K a' w') : o.wp P a w K Q := by
  rcases ho with ho | ⟨hloc, ho⟩
  · cases ho with
    | op h hn =>
      obtain ⟨nx, u, w', Sb', G', h1, h2, h3, h4, h5, h6⟩ := vop_sound hs (eval_rv he) o (fun q => hf n (Nat.le_refl _) (by omega)) h
      have hput : (a.put o.dst u).defers = a.defers := by cases o.dst <;> rfl
      have := hK (a.put o.dst u) w' Sb' G' (put_rv (h3.rvs hs he) h4 o.dst) h3 hput h6
      unfold Oper.wp
      rw [h1]
      rcases h2 with rfl | ⟨rfl, rfl⟩
      · exact this
      · exact this
    | call hop hfv hp h hn => exact call_wp hop hfv hp hs he (fun us hus => h st (fun x _ id _ => .inr rfl) w Sb G us N hs hf hN1 hN2 hN3 hus) hK
  · cases ho with
    | mk hop hfv hp h hn => exact call_wp hop hfv hp hs he (fun us hus => h w Sb G us N hs hf hN1 hN2 hN3 hus) hK
    | mx hop hfv hp h hn => exact call_wp hop hfv hp hs he (fun us hus => h w Sb G us hs (hX hloc) hus) hK
end
def fo : Option Nat → Fence
  | none => Fence.wide
  | some l => Fence.wide.inRound l
theorem fo_fn (r : Option Nat) (f : FuncId) : (fo r).fn f := by cases r <;> trivial
theorem fo_depth (r : Option Nat) : (fo r).depth.isSome ≠ true := by cases r <;> (intro h; cases h)
theorem operIn_fo {P : Program} {o : Oper} {a : Act} {w : World} {K : Act → World → Prop} {Q : Exit → Act → World → Prop} (r : Option Nat) (m : Nat) (hd : ∀ c, o.op ≠ .defer c) (h : o.wp P a w K Q) : o.wpIn (fo r) m P a w K Q := by
  refine ⟨fun f _ => fo_fn r f, ?_⟩
  have hs : o.semAt (fo r).round a.eval = execOp a.eval o := by
    cases r with
    | none => rfl
    | some l => exact Oper.semAt_some l _ _ hd
  rw [hs]
  unfold Oper.wp at h
  generalize (execOp a.eval o).run P w = x at h ⊢
  cases x with
  | ok x w' =>
    cases x
    case value => exact h
    case skip => exact h
    case defer => exact h
    case enter =>
      refine ⟨fun hh => absurd hh (fo_depth r), ?_⟩
      cases r with
      | none => exact callsIn_wide.2 h
      | some l => exact CallsIn.inRound l (callsIn_wide.2 h)
    case row =>
      refine ⟨fun hh => absurd hh (fo_depth r), fun c cs _ => (h c cs).elim fun v h1 => h1.elim fun w' h2 => ⟨v, w', h2.1, ?_⟩⟩
      cases r with
      | none => exact stepsIn_wide.2 h2.2
      | some l => exact stepsIn_wide.2 h2.2
    all_goals exact False.elim h
  | halt x w' =>
    cases x
    all_goals first | exact h | exact False.elim h
theorem OS.noDefer {P : Program} {st : Store} {loc : Bool} {o : Oper} {ρ : Operand → V} {n : Nat} {out : Out} (ho : OS P loc o ρ st n out) : ∀ c, o.op ≠ .defer c := by
  intro c hc
  rcases ho with ho | ⟨_, ho⟩
  · cases ho with
    | op h hn => rw [hc] at h; simp [vop] at h
    | call hop hfv hp h hn => rw [hc] at hop; cases hop
  · cases ho with
    | mk hop hfv hp h hn => rw [hc] at hop; cases hop
    | mx hop hfv hp h hn => rw [hc] at hop; cases hop
end Go.Vm
