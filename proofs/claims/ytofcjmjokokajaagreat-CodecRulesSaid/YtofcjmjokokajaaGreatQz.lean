/-
  Calls of a function that a slot holds. No program is named here. run.back, for a closure that changes what Outputs keeps. Conditions: as it says. What a place is related to, out of what the next places are. Plain Lean, no program is named here. The closure of run.Outputs, where slices.
-/
import Derived.Test.YtofcjmjokokajaaGreatQx
import Derived.Test.YtofcjmjokokajaaGreatQy
namespace Go.Vm
open Go.RowKit
section
variable {P : Program} {N : Nat} {ops : Array Oper} {K : APost} {l : List Oper} {E : AEnv} {S S0 : ASt} {n k : Nat} {v : V}
theorem ar_callf {d n' : Nat} {f : FuncId} {fo : Operand} {first caps : List V} {cargs : Array Operand} {ts : Array TypeId} {ty : TypeId} {pos : String} {aft : Array Edge} {args : List V} {v : V} {us : List (Nat × Blk)} (h : VCall P f args (slk S) n (v, us, n')) (S' : ASt) (K' : arun P N ops true K l ((d, v) :: E) S' n') (hS : upd (slk S) us = slk S') (hk : ∀ p ∈ us, n ≤ p.1 ∧ p.1 < n' ∨ slk S p.1 ≠ none) (hn : n ≤ n') (hf : aev E fo = .func (.func f) first caps) (hx : first ++ cargs.toList.map (aev E) ++ caps = args) (hp : plainFunc P f = true) : arun P N ops true K (⟨some d, .call ⟨.value fo, cargs, ts⟩, ty, pos, aft, none⟩ :: l) E S n := fun hl => by
  simp only [List.all_cons, Bool.and_eq_true] at hl
  simp only [vrun, vwanted, isCall]
  have ho := operN_ops (E := E) hl.1
  have e1 : veval (toL N E) fo = aev E fo := ho fo (by simp [Op.operands, Call.operands])
  have e2 : cargs.toList.map (veval (toL N E)) = cargs.toList.map (aev E) := List.map_congr_left fun x hx => ho x (by simp [Op.operands, Call.operands]; exact .inr (by simpa using hx))
  refine callK_any h rfl (e1.trans hf) (by rw [e2]; exact hx) hp hn (fun p hp => (hk p hp).elim .inl fun q => .inr q) ?_
  simp only [vput, toL_set, hS]
  exact K' hl.2
theorem ar_muf {d : Nat} {f : FuncId} {fo : Operand} {first caps : List V} {cargs : Array Operand} {ts : Array TypeId} {ty : TypeId} {pos : String} {aft : Array Edge} {args : List V} {CS : ASt} (h : VM P f args (slk S0) k (slk (CS ++ S0)) v) (hlt : LentL k S0) (hlc : LentL k CS) (hsome : CS.all (fun p => p.2.isSome && (slk S0 p.1).isSome) = true := by rfl) (hnd : ndB (CS.map (·.1)) = true := by rfl) (hv : Vlt 0 v) (ha : VltK k args) (K' : arun P N ops true K l ((d, v) :: E) (CS ++ S) n) (hf : aev E fo = .func (.func f) first caps := by rfl) (hx : first ++ cargs.toList.map (aev E) ++ caps = args := by rfl) (hin : InS S S0 := by repeat' (first | exact trivial | refine And.intro rfl ?_)) (hk : Nat.ble k n = true := by rfl) (hp : plainFunc P f = true := by kernel_rfl) : arun P N ops true K (⟨some d, .call ⟨.value fo, cargs, ts⟩, ty, pos, aft, none⟩ :: l) E S n := by
  have hk' : k ≤ n := by simpa [Nat.ble_eq] using hk
  have hs : ∀ p ∈ CS, p.2.isSome = true ∧ (slk S0 p.1).isSome = true := fun p hp => by
    have := List.all_eq_true.1 hsome p hp
    simpa using this
  have hsl : ∀ p ∈ CS, slk S0 p.1 ≠ none := fun p hp q => by have := (hs p hp).2; rw [q] at this; cases this
  have hd : slk (CS ++ S0) k = none := by
    rw [slk_app.2 (fun q => by
      obtain ⟨p, hp, e⟩ := List.mem_map.1 q
      obtain ⟨b, hb⟩ := Option.isSome_iff_exists.1 (hs p hp).2
      have := (hlt.at _ b hb).1
      omega)]
    exact slk_dom hlt
  have hnd' := ndB_nd hnd
  have hup : ∀ (T : ASt) id, upd (slk T) (upsA CS) id = if id ∈ CS.map (·.1) then slk CS id else slk T id := fun T id => upsA_at (fun id h1 h2 => by
    obtain ⟨p, hp, rfl⟩ := List.mem_map.1 h2
    rw [slk_of_mem hnd' hp] at h1
    have := (hs p hp).1
    rw [h1] at this
    cases this) hnd'
  have hin2 : ∀ p ∈ CS, slk S p.1 ≠ none := fun p hp q => by
    obtain ⟨b, hb⟩ := Option.isSome_iff_exists.1 (hs p hp).2
    rw [hin.at _ b hb] at q
    cases q
  refine ar_callf (us := upsA CS) (n' := n) (h.call (v' := v) (nw := none) hin.at hlt.at (kk := k) (.inl rfl) (fun id b hid hb => ?_) ha.all hk' hd (fun b hb => by cases hb) (.inl ⟨rfl, hv.mono (Nat.zero_le k)⟩) ?_) (CS ++ S) K' ?_ (fun p hp => .inr (hin2 _ (upsA_mem hp))) (Nat.le_refl n) hf hx hp
  · by_cases hm : id ∈ CS.map (·.1)
    · rw [slk_app.1 hm] at hb
      exact (hlc.at id b hb).2
    · rw [slk_app.2 hm] at hb
      exact (hlt.at id b hb).2
  · funext id
    rw [hup S id]
    unfold over
    by_cases h1 : id < k
    · rw [if_pos h1]
      by_cases hm : id ∈ CS.map (·.1)
      · rw [if_pos hm]
        obtain ⟨p, hp, rfl⟩ := List.mem_map.1 hm
        cases hq : slk S0 p.1 with
        | none => exact absurd hq (hsl p hp)
        | some b => simp only; rw [slk_app.1 hm]
      · rw [if_neg hm]
        cases hq : slk S0 id with
        | none => rfl
        | some b =>
          simp only
          rw [slk_app.2 hm, hq]
          exact hin.at id b hq
    · have hm : id ∉ CS.map (·.1) := fun q => by
        obtain ⟨p, hp, rfl⟩ := List.mem_map.1 q
        obtain ⟨b, hb⟩ := Option.isSome_iff_exists.1 (hs p hp).2
        have := (hlt.at _ b hb).1
        omega
      rw [if_neg h1, if_neg hm]
      by_cases h2 : id = n
      · rw [if_pos h2]
      · rw [if_neg h2]
  · funext id
    rw [hup S id]
    by_cases hm : id ∈ CS.map (·.1)
    · rw [if_pos hm, slk_app.1 hm]
    · rw [if_neg hm, slk_app.2 hm]
theorem ev_funcL {f : Fn} {xs : Array Operand} {vs : List V} (h : xs.toList.map (aev E) = vs) : Ev P E S n (.makeFunc f #[] xs) (.func f [] vs) S n := ⟨[], by subst h; simp [vop], rfl⟩
end
end Go.Vm
namespace Go.Um
open Go.Vm
def osR : Rp (Option (List (List Int))) := ⟨1, fun o => [match o with | none => V.nil | some l => runeR.listR.L l], fun o => ⟨rfl, fun v hv => by
  obtain rfl := List.mem_singleton.1 hv
  cases o with
  | none => exact ⟨.nil, rfl⟩
  | some l => exact ⟨Rp.lt _ _ _ _, rfl⟩⟩⟩
end Go.Um
namespace Go.Proofs.YtofcjmjokokajaaGreat
open Go.RowKit Go.Um Go.Proofs Go.Vm
abbrev Kept := Bool × List (Option (List (List Int)))
abbrev TS (M : Nat) (y : Kept) : ASt := [(5, some (.cells 4 1 0 0 [[.bool y.1]])), (4, some (.cells 100 1 0 0 [[.row 3 0 0 M]])), (3, some (.cells 34 1 0 0 (y.2.map osR.cells)))]
def plA (lv : Nat → Nat → Bool) (ord : List Int) (a : Nat) : List (Nat × Nat) := (ord.filter fun s => lv a s.toNat).map fun s => (a, s.toNat)
def plF (lv : Nat → Nat → Bool) (ord : List Int) (n t : Nat) : List (Nat × Nat) := (List.range t).flatMap fun u => plA lv ord (n - u)
theorem plF_succ (lv : Nat → Nat → Bool) (ord : List Int) (n t : Nat) : plF lv ord n (t + 1) = plF lv ord n t ++ plA lv ord (n - t) := by
  unfold plF
  rw [List.range_succ, List.flatMap_append]
  simp
theorem plF_mono {lv : Nat → Nat → Bool} {ord : List Int} {n t u : Nat} (h : t ≤ u) : plF lv ord n t <+: plF lv ord n u := by
  obtain ⟨w, rfl⟩ := Nat.exists_eq_add_of_le h
  clear h
  induction w with
  | zero => exact List.prefix_refl _
  | succ w ih =>
    rw [← Nat.add_assoc, plF_succ]
    exact ih.trans (List.prefix_append _ _)
theorem plA_take {lv : Nat → Nat → Bool} {ord : List Int} {a q : Nat} {s : Int} (h : ord[q]? = some s) : plA lv (ord.take (q + 1)) a = plA lv (ord.take q) a ++ if lv a s.toNat then [(a, s.toNat)] else [] := by
  unfold plA
  rw [List.take_add_one, h, List.filter_append, List.map_append]
  cases hb : lv a s.toNat <;> simp [hb]
theorem plA_pre {lv : Nat → Nat → Bool} {ord : List Int} {a q : Nat} : plA lv (ord.take q) a <+: plA lv ord a := by
  unfold plA
  exact ((List.take_prefix q ord).filter _).map _
theorem TS_lt {M : Nat} {y : Kept} : LentL 6 (TS M y) := lentC (by decide) (fun cs hc v hv => by obtain rfl := List.mem_singleton.1 hc; obtain rfl := List.mem_singleton.1 hv; exact ⟨.bool _, rfl⟩) (lentC (by decide) (fun cs hc v hv => by obtain rfl := List.mem_singleton.1 hc; obtain rfl := List.mem_singleton.1 hv; exact ⟨.row (by decide), rfl⟩) (lentC (by decide) (blt_row (r := osR)) trivial))
theorem VltK.of {k : Nat} : ∀ {l : List V}, (∀ v ∈ l, Vlt k v) → VltK k l
  | [], _ => trivial
  | v :: _, h => ⟨h v List.mem_cons_self, VltK.of fun x hx => h x (List.mem_cons_of_mem _ hx)⟩
attribute [local irreducible] Ev arun frun grun awp RetQ NextQ RetM
set_option maxHeartbeats 4000000
set_option maxRecDepth 20000
theorem back_vm (r : Rnr) (k M : Nat) (f : FuncId) (caps : List V) (lv : Nat → Nat → Bool) (st : Kept → Nat × Nat → Kept) (y0 : Kept) (hp : plainFunc Tryz.prog f = true) (hk : r.d.states = k) (hk1 : k ≤ 1024) (hxl : r.x.length ≤ 1024) (_hM : r.live.length = (r.x.length + 1) * k) (hlv : ∀ a s : Nat, a ≤ r.x.length → s < k → r.live[a * k + s]? = some (lv a s)) (ho : ∀ s ∈ r.order, ∃ n : Nat, s = n ∧ n < k) (hol : r.order.length ≤ 4096) (hcap : ∀ v ∈ caps, Vlt 6 v)
    (hstep : ∀ (pre : List (Nat × Nat)) (a s : Nat), pre ++ [(a, s)] <+: plF lv r.order r.x.length (r.x.length + 1) → VM Tryz.prog f ([V.int .i64 (a : Int), V.int .i64 (s : Int)] ++ caps) (slk (TS M (pre.foldl st y0))) 6 (slk (TS M ((pre ++ [(a, s)]).foldl st y0) ++ TS M (pre.foldl st y0))) (.tuple [])) :
    VM Tryz.prog 48 [.iptr (rnrR.cells r), .func (.func f) [] caps] (slk (TS M y0)) 6 (slk (TS M ((plF lv r.order r.x.length (r.x.length + 1)).foldl st y0) ++ TS M y0)) (.tuple []) := by
  refine a_vm (hN := Tryz.ntmps48) (hf := Tryz.func48) ?_
  have hfn : ∀ {g : Nat → Nat → Option (Nat × Nat)} {s : Store} {D : Nat → Prop}, Rn 7 g s D (.func (.func f) [] caps) (.func (.func f) [] caps) := fun {g s D} => .keep (Vlt.func (fun _ h => nomatch h) fun v h => (hcap v h).mono (by decide))
  refine wk ⟨?_⟩
  refine a_loop (σ := Nat) 0 [0, 1] (fun t => [(4, V.int .i64 ((r.x.length : Int) - (t : Int)))]) (fun t => TS M ((plF lv r.order r.x.length t).foldl st y0)) (fun t => t ≤ r.x.length + 1) (fun t => r.x.length + 1 - t) 0 (Nat.zero_le _) ?_
  intro t ht
  obtain htl | rfl : t ≤ r.x.length ∨ t = r.x.length + 1 := by omega
  · obtain ⟨a, ha⟩ : ∃ a, a = r.x.length - t := ⟨_, rfl⟩
    have hai : (r.x.length : Int) - (t : Int) = (a : Int) := by omega
    rw [hai]
    refine wk ⟨?_⟩
    refine a_loop (σ := Nat) 0 [0, 1, 4, 19, 20] (fun q => [(21, V.int .i64 (q : Int))]) (fun q => TS M ((plA lv (r.order.take q) a).foldl st ((plF lv r.order r.x.length t).foldl st y0))) (fun q => q ≤ r.order.length) (fun q => r.order.length - q) 0 (Nat.zero_le _) ?_
    intro q hq
    obtain hx | ⟨s, hs, hlt⟩ := range_cases hq
    · subst q
      have hps := plF_succ lv r.order r.x.length t
      rw [← ha] at hps
      rw [List.take_length, ← List.foldl_append, ← hps]
      refine wk ⟨?_⟩
      refine a_next (t + 1) (by omega) (by omega) ?_
      refine end0 ?_ ?_; all_goals repeat' first | exact rn_int (by omega) | exact trivial | refine And.intro ?_ ?_ | exact rn_int rfl | exact rn_list rfl | exact rn_row rfl ⟨rfl, rfl, rfl⟩ | exact rn_ptr rfl | exact rn_bool rfl | exact rn_agg rfl | exact rn_iptr rfl | exact rn_map rfl | exact rn_nrows rfl | exact rn_new rfl rfl rfl (by omega) | refine rn_int ?_ | refine rn_bool ?_ | refine rn_list ?_ | refine rn_row rfl ⟨?_, ?_, ?_⟩ | refine rn_nrow rfl ⟨rfl, ?_⟩ ?_ | refine rn_agg ?_ | exact Exists.intro _ ⟨rfl, RnB.cells (RnX.of_eq rfl), rfl⟩ | exact Exists.intro _ ⟨rfl, RnB.cells (RnX.of_eq (map_snoc rfl)), rfl⟩ | exact Exists.intro _ ⟨rfl, RnB.cells (RnX.of_eq (map_setc rfl)), rfl⟩ | exact Exists.intro _ ⟨rfl, RnB.cells (RnX.of_eq (map_inc rfl)), rfl⟩ | exact Exists.intro _ ⟨rfl, RnB.cells (RnX.of_eq (map_snocs rfl)), rfl⟩ | refine Exists.intro _ ⟨rfl, RnB.cells (RnX.cons (RnC.cons ?_ ?_ RnC.nil) RnX.nil), rfl⟩ | exact Exists.intro _ ⟨rfl, RnB.hole, rfl⟩ | refine Exists.intro _ ⟨rfl, rnm_of ?_, rfl⟩ | exact nrow_one | refine old_nbs ?_ rfl | refine old_nb ?_ ⟨?_, _, rfl, RnB.cells (RnX.of_eq (map_snoc rfl)), rfl⟩ | refine old_nb ?_ ⟨?_, _, rfl, RnB.cells (RnX.of_eq (map_snocs rfl)), rfl⟩ | refine old_nb ?_ ⟨?_, _, rfl, RnB.cells (RnX.of_eq (map_inc rfl)), rfl⟩ | refine old_nb ?_ ⟨?_, _, rfl, RnB.cells (RnX.of_eq rfl), rfl⟩ | rfl | (simp only []; omega) | (simp; done) | (simp; omega) | assumption
      exact hfn
    · obtain ⟨n, rfl, hn⟩ := ho s (List.mem_of_getElem? hs)
      have hidx : IntKind.i64.wrap (IntKind.i64.wrap ((a : Int) * r.d.states) + (n : Int)) = ((a * k + n : Nat) : Int) := by
        have h1 : a * k ≤ 1024 * 1024 := Nat.mul_le_mul (by omega) hk1
        have h2 : (a : Int) * r.d.states = ((a * k : Nat) : Int) := by rw [hk]; push_cast; rfl
        rw [h2]
        generalize a * k = Z at h1
        rw [wrap_in (z := (Z : Int)) (by omega) (by omega), wrap_in (by omega) (by omega)]
        push_cast
        rfl
      have hpl : plA lv (r.order.take (q + 1)) a = plA lv (r.order.take q) a ++ if lv a n then [(a, n)] else [] := by
        have := plA_take (lv := lv) (a := a) hs
        rwa [Int.toNat_natCast] at this
      have hpre : plF lv r.order r.x.length t ++ plA lv (r.order.take (q + 1)) a <+: plF lv r.order r.x.length (r.x.length + 1) := by
        refine List.IsPrefix.trans ?_ (plF_mono (show t + 1 ≤ r.x.length + 1 by omega))
        rw [plF_succ, ← ha]
        exact List.prefix_append_right_inj _ |>.2 plA_pre
      refine wk ⟨?_⟩
      have hl := hlv a n (by omega) hn
      generalize a * k + n = IX at hidx hl
      rw [hidx]
      cases hb : lv a n with
      | false =>
        rw [hb] at hl hpl
        have hpl' : plA lv (r.order.take (q + 1)) a = plA lv (r.order.take q) a := by rw [hpl]; simp
        refine wk ⟨?_⟩
        refine a_next (q + 1) hlt (by omega) ?_
        rw [hpl']
        refine end0 ?_ ?_; all_goals repeat' first | exact trivial | refine And.intro ?_ ?_ | exact rn_int rfl | exact rn_list rfl | exact rn_row rfl ⟨rfl, rfl, rfl⟩ | exact rn_ptr rfl | exact rn_bool rfl | exact rn_agg rfl | exact rn_iptr rfl | exact rn_map rfl | exact rn_nrows rfl | exact rn_new rfl rfl rfl (by omega) | refine rn_int ?_ | refine rn_bool ?_ | refine rn_list ?_ | refine rn_row rfl ⟨?_, ?_, ?_⟩ | refine rn_nrow rfl ⟨rfl, ?_⟩ ?_ | refine rn_agg ?_ | exact Exists.intro _ ⟨rfl, RnB.cells (RnX.of_eq rfl), rfl⟩ | exact Exists.intro _ ⟨rfl, RnB.cells (RnX.of_eq (map_snoc rfl)), rfl⟩ | exact Exists.intro _ ⟨rfl, RnB.cells (RnX.of_eq (map_setc rfl)), rfl⟩ | exact Exists.intro _ ⟨rfl, RnB.cells (RnX.of_eq (map_inc rfl)), rfl⟩ | exact Exists.intro _ ⟨rfl, RnB.cells (RnX.of_eq (map_snocs rfl)), rfl⟩ | refine Exists.intro _ ⟨rfl, RnB.cells (RnX.cons (RnC.cons ?_ ?_ RnC.nil) RnX.nil), rfl⟩ | exact Exists.intro _ ⟨rfl, RnB.hole, rfl⟩ | refine Exists.intro _ ⟨rfl, rnm_of ?_, rfl⟩ | exact nrow_one | refine old_nbs ?_ rfl | refine old_nb ?_ ⟨?_, _, rfl, RnB.cells (RnX.of_eq (map_snoc rfl)), rfl⟩ | refine old_nb ?_ ⟨?_, _, rfl, RnB.cells (RnX.of_eq (map_snocs rfl)), rfl⟩ | refine old_nb ?_ ⟨?_, _, rfl, RnB.cells (RnX.of_eq (map_inc rfl)), rfl⟩ | refine old_nb ?_ ⟨?_, _, rfl, RnB.cells (RnX.of_eq rfl), rfl⟩ | rfl | (simp only []; omega) | (simp; done) | (simp; omega) | assumption
        exact hfn
      | true =>
        rw [hb] at hl hpl
        rw [if_pos rfl] at hpl
        rw [hpl, ← List.append_assoc] at hpre
        have hst := hstep _ a n hpre
        simp only [List.foldl_append, List.foldl_cons, List.foldl_nil] at hst
        refine wk ⟨?_⟩
        refine ar_muf hst TS_lt TS_lt rfl rfl (.tuple (by simp)) (VltK.of ?_) ?_ (hp := hp)
        · intro v hv
          rcases List.mem_append.1 hv with h | h
          · simp only [List.mem_cons, List.not_mem_nil, or_false] at h
            rcases h with rfl | rfl <;> exact .int _ _
          · exact hcap v h
        refine wk ⟨?_⟩
        refine a_next (q + 1) hlt (by omega) ?_
        rw [hpl, List.foldl_append, List.foldl_cons, List.foldl_nil]
        refine end0 ?_ ?_; all_goals repeat' first | exact trivial | refine And.intro ?_ ?_ | exact rn_int rfl | exact rn_list rfl | exact rn_row rfl ⟨rfl, rfl, rfl⟩ | exact rn_ptr rfl | exact rn_bool rfl | exact rn_agg rfl | exact rn_iptr rfl | exact rn_map rfl | exact rn_nrows rfl | exact rn_new rfl rfl rfl (by omega) | refine rn_int ?_ | refine rn_bool ?_ | refine rn_list ?_ | refine rn_row rfl ⟨?_, ?_, ?_⟩ | refine rn_nrow rfl ⟨rfl, ?_⟩ ?_ | refine rn_agg ?_ | exact Exists.intro _ ⟨rfl, RnB.cells (RnX.of_eq rfl), rfl⟩ | exact Exists.intro _ ⟨rfl, RnB.cells (RnX.of_eq (map_snoc rfl)), rfl⟩ | exact Exists.intro _ ⟨rfl, RnB.cells (RnX.of_eq (map_setc rfl)), rfl⟩ | exact Exists.intro _ ⟨rfl, RnB.cells (RnX.of_eq (map_inc rfl)), rfl⟩ | exact Exists.intro _ ⟨rfl, RnB.cells (RnX.of_eq (map_snocs rfl)), rfl⟩ | refine Exists.intro _ ⟨rfl, RnB.cells (RnX.cons (RnC.cons ?_ ?_ RnC.nil) RnX.nil), rfl⟩ | exact Exists.intro _ ⟨rfl, RnB.hole, rfl⟩ | refine Exists.intro _ ⟨rfl, rnm_of ?_, rfl⟩ | exact nrow_one | refine old_nbs ?_ rfl | refine old_nb ?_ ⟨?_, _, rfl, RnB.cells (RnX.of_eq (map_snoc rfl)), rfl⟩ | refine old_nb ?_ ⟨?_, _, rfl, RnB.cells (RnX.of_eq (map_snocs rfl)), rfl⟩ | refine old_nb ?_ ⟨?_, _, rfl, RnB.cells (RnX.of_eq (map_inc rfl)), rfl⟩ | refine old_nb ?_ ⟨?_, _, rfl, RnB.cells (RnX.of_eq rfl), rfl⟩ | rfl | (simp only []; omega) | (simp; done) | (simp; omega) | assumption
        exact hfn
  · refine wk ⟨?_⟩
    refine retMu (CS := TS M ((plF lv r.order r.x.length (r.x.length + 1)).foldl st y0)) (.inl rfl) .nil (.tuple rfl fun i v u h => by simp at h) ?_
    refine ⟨⟨by simp, ?_⟩, ⟨by simp, ?_⟩, ⟨by simp, ?_⟩, trivial⟩
    · exact ⟨_, rfl, RnB.cells (RnX.cons (RnC.cons (rn_bool rfl) rfl RnC.nil) RnX.nil), rfl⟩
    · exact ⟨_, rfl, RnB.cells (RnX.cons (RnC.cons (rn_row rfl ⟨rfl, rfl, rfl⟩) rfl RnC.nil) RnX.nil), rfl⟩
    · exact ⟨_, rfl, RnB.cells (RnX.of_eq (r := osR) rfl), rfl⟩
end Go.Proofs.YtofcjmjokokajaaGreat
namespace Go.Proofs.YtofcjmjokokajaaGreat
open Go.Proofs Go.Um Go.RowKit Go.Vm
def endsB (x : List Int) (gs : List (List Span)) (a : Nat) : Bool := decide (gs.length = x.length - a) && fitsB x gs a
theorem win_len {x : List Int} {a n : Nat} (h : a + n ≤ x.length) : (winF x a n).length = n := by unfold winF; rw [List.length_take, List.length_drop]; omega
theorem fits_val {t : Term} {inn out : Int} {gs : List (List Span)} {x : List Int} {a : Nat} (hf : fitsF t inn out gs = true) (hg : goodG gs) (hx : fitsX x gs a) :
    numbersF t = true ∧ (∀ p ∈ t.parts, rightP p gs.length = true) ∧ (0 ≤ t.sum + sumV t.parts (fun q => (winF x a gs.length).getD q.toNat 0) ∧ t.sum + sumV t.parts (fun q => (winF x a gs.length).getD q.toNat 0) ≤ 1114111) ∧ mem (domF out) (tvalF t (winF x a gs.length)) := by
  unfold fitsF at hf
  rw [Bool.and_eq_true] at hf
  obtain ⟨h1, h2, h3, h4, _⟩ := rightF_iff.1 hf.1
  have hd : plain (domF out) = true := by unfold domF; rcases h2 with rfl | rfl <;> decide
  have h5 := (fitsG_iff h3 (fun p hp => (h4 p hp).1) hg hd).1 hf.2
  have h6 := h5 _ ⟨fun q => (winF x a gs.length).getD q.toNat 0, fun p hp => by
    obtain ⟨p1, p2, _⟩ := rightP_iff.1 (h4 p hp).1
    have hlt : p.at_.toNat < gs.length := by omega
    refine ⟨gs[p.at_.toNat], List.getElem?_eq_getElem hlt, ?_⟩
    have hxl : a + p.at_.toNat < x.length := by have := hx.1; omega
    have hz := hx.2 _ _ _ (List.getElem?_eq_getElem hlt) (List.getElem?_eq_getElem hxl)
    show mem gs[p.at_.toNat] ((winF x a gs.length).getD p.at_.toNat 0)
    rw [List.getD_eq_getElem?_getD, win_at hlt, List.getElem?_eq_getElem hxl]
    exact hz.2, rfl⟩
  exact ⟨h3, fun p hp => (h4 p hp).1, h6.1, h6.2⟩
theorem dom_bd {s z : Int} (h : mem (domF s) z) : 0 ≤ z ∧ z ≤ 1114111 := by
  unfold domF at h
  split at h
  · simp [mem] at h; omega
  · split at h
    · simp [mem] at h; omega
    · simp [mem] at h
theorem terms_ok {inn out : Int} {ts : List Term} {gs : List (List Span)} {x : List Int} {a : Nat} (hw : writesF inn out ts gs = true) (hg : guardsF inn gs = true) (hx : fitsX x gs a) (ha : a ≤ x.length) : ∀ t ∈ ts, TOk t (winF x a gs.length) := fun t ht => by
  unfold writesF at hw
  rw [Bool.and_eq_true, List.all_eq_true] at hw
  have hgg := (guardsF_good hg).1
  obtain ⟨h1, h2, h3, h4⟩ := fits_val (hw.2 t ht) hgg hx
  have hl : (winF x a gs.length).length = gs.length := win_len (by have := hx.1; omega)
  rw [← hl] at h2
  have h5 := dom_bd h4
  exact ⟨h1, h2, h3.1, h3.2⟩
theorem writes_bd {inn out : Int} {ts : List Term} {gs : List (List Span)} {x : List Int} {a : Nat} (hw : writesF inn out ts gs = true) (hg : guardsF inn gs = true) (hx : fitsX x gs a) : ∀ z ∈ writesV ts (winF x a gs.length), 0 ≤ z ∧ z ≤ 1114111 := fun z hz => by
  obtain ⟨t, ht, rfl⟩ := List.mem_map.1 hz
  unfold writesF at hw
  rw [Bool.and_eq_true, List.all_eq_true] at hw
  exact dom_bd (fits_val (hw.2 t ht) (guardsF_good hg).1 hx).2.2.2
def finOut (d : Desc) (x : List Int) (a : Nat) (z : Int) : List (List Int) := match d.finals[z.toNat]? with
  | some f => if endsB x f.guards a then [writesV f.out (winF x a f.guards.length)] else []
  | none => []
def ruleOut (d : Desc) (x : List Int) (n a : Nat) (W : Nat → List (List Int)) (z : Int) : List (List Int) := match d.rules[z.toNat]? with
  | some r => if fitsB x r.guards a then (W ((a + r.eat.toNat) * n + r.dst.toNat)).map (writesV r.out (winF x a r.guards.length) ++ ·) else []
  | none => []
def WordsOf (d : Desc) (x : List Int) (a : Nat) (s : Int) (most : Nat) (ls : List (List Int)) : Prop := (∀ y, y ∈ ls ↔ Run d x a s y) ∧ ls.Pairwise (fun p q => cmpW p q < 0) ∧ ls.length ≤ most
def TooMany (d : Desc) (x : List Int) (most : Nat) : Prop := ∃ (a : Nat) (s : Int) (ls : List (List Int)), Reach d x a s ∧ (∀ y ∈ ls, Run d x a s y) ∧ ls.Pairwise (fun p q => cmpW p q < 0) ∧ most < ls.length
theorem endsB_iff {x : List Int} {gs : List (List Span)} {a : Nat} (_ha : a ≤ x.length) : endsB x gs a = true ↔ gs.length = x.length - a ∧ fitsX x gs a := by
  unfold endsB
  rw [Bool.and_eq_true, decide_eq_true_eq, fitsB_iff]
theorem outs_iff {d : Desc} {x : List Int} {n a : Nat} {s : Int} {W : Nat → List (List Int)} (ha : a ≤ x.length) (hW : ∀ r ∈ d.rules, r.src = s → fitsX x r.guards a → ∀ y, y ∈ W ((a + r.eat.toNat) * n + r.dst.toNat) ↔ Run d x (a + r.eat.toNat) r.dst y) (y : List Int) :
    y ∈ (finalsOf d s).flatMap (finOut d x a) ++ (rulesOf d s).flatMap (ruleOut d x n a W) ↔ Run d x a s y := by
  rw [List.mem_append, List.mem_flatMap, List.mem_flatMap]
  constructor
  · rintro (⟨z, hz, hy⟩ | ⟨z, hz, hy⟩)
    · obtain ⟨q, f, rfl, hq, hs⟩ := finalsOf_mem.1 hz
      unfold finOut at hy
      rw [Int.toNat_natCast, hq] at hy
      dsimp only at hy
      split at hy
      · rename_i he
        obtain ⟨h1, h2⟩ := (endsB_iff ha).1 he
        simp at hy
        exact Run.fin f (List.mem_of_getElem? hq) hs h1 h2 hy
      · cases hy
    · obtain ⟨q, r, rfl, hq, hs⟩ := rulesOf_mem.1 hz
      unfold ruleOut at hy
      rw [Int.toNat_natCast, hq] at hy
      dsimp only at hy
      split at hy
      · rename_i he
        obtain ⟨u, hu, rfl⟩ := List.mem_map.1 hy
        have hx := fitsB_iff.1 he
        exact Run.step r (List.mem_of_getElem? hq) hs hx ((hW r (List.mem_of_getElem? hq) hs hx u).1 hu) rfl
      · cases hy
  · intro h
    cases h with
    | fin f hf hs hl hx hw =>
      left
      obtain ⟨q, hq⟩ := List.mem_iff_getElem?.1 hf
      refine ⟨q, finalsOf_mem.2 ⟨q, f, rfl, hq, hs⟩, ?_⟩
      unfold finOut
      rw [Int.toNat_natCast, hq]
      dsimp only
      rw [if_pos ((endsB_iff ha).2 ⟨hl, hx⟩), hw]
      simp
    | step r hr hs hx h' hw =>
      right
      obtain ⟨q, hq⟩ := List.mem_iff_getElem?.1 hr
      refine ⟨q, rulesOf_mem.2 ⟨q, r, rfl, hq, hs⟩, ?_⟩
      unfold ruleOut
      rw [Int.toNat_natCast, hq]
      dsimp only
      rw [if_pos (fitsB_iff.2 hx), hw]
      exact List.mem_map.2 ⟨_, (hW r hr hs hx _).2 h', rfl⟩
theorem flat_le {α β : Type} {f : α → List β} {m : Nat} : ∀ {l : List α}, (∀ z ∈ l, (f z).length ≤ m) → (l.flatMap f).length ≤ l.length * m
  | [], _ => by simp
  | z :: l, h => by
    rw [List.flatMap_cons, List.length_append, List.length_cons, Nat.add_mul]
    have h1 := h z List.mem_cons_self
    have h2 := flat_le (f := f) (m := m) (l := l) fun y hy => h y (List.mem_cons_of_mem _ hy)
    omega
theorem flat_take {α β : Type} {f : α → List β} {l : List α} {i : Nat} {z : α} (h : l[i]? = some z) : (l.take (i + 1)).flatMap f = (l.take i).flatMap f ++ f z := by
  rw [List.take_add_one, h, List.flatMap_append]
  simp
end Go.Proofs.YtofcjmjokokajaaGreat
namespace Go.Um
open Go.Vm
structure LSt where
  k : Nat
  g : Nat
  L : Nat
  ls : List (List Int)
end Go.Um
namespace Go.Proofs.YtofcjmjokokajaaGreat
open Go.RowKit Go.Um Go.Proofs Go.Vm
def insW (x : List Int) : List (List Int) → List (List Int)
  | [] => [x]
  | y :: r => if cmpW x y < 0 then x :: y :: r else if cmpW x y = 0 then y :: r else y :: insW x r
def sortW (ls : List (List Int)) : List (List Int) := ls.foldr insW []
def setAt (ss : List (Option (List (List Int)))) (p : Nat) : List (List Int) := match ss[p]? with
  | some (some l) => l
  | _ => []
def allOut (d : Desc) (x : List Int) (n : Nat) (ss : List (Option (List (List Int)))) (a s : Nat) : List (List Int) := (finalsOf d (s : Int)).flatMap (finOut d x a) ++ (rulesOf d (s : Int)).flatMap (ruleOut d x n a (setAt ss))
def tellF (d : Desc) (x : List Int) (n : Nat) (most : Int) (y : Kept) (p : Nat × Nat) : Kept := if y.1 then y else (decide (most < ((sortW (allOut d x n y.2 p.1 p.2)).length : Int)), y.2.set (p.1 * n + p.2) (some (sortW (allOut d x n y.2 p.1 p.2))))
def Ch (l : List Int) : Prop := ∀ z ∈ l, 0 ≤ z ∧ z ≤ 1114111
def CatOk (P : Program) (f : FuncId) : Prop := ∀ a b : List Int, a.length ≤ 1000000000 → b.length ≤ 1000000000 → Ch a → Ch b → VPure P f [runeR.listR.L [a, b]] (runeR.L (a ++ b))
def SrtOk (P : Program) (f : FuncId) : Prop := ∀ ls : List (List Int), ls.length ≤ 1000000000 → (∀ l ∈ ls, l.length ≤ 1000000000 ∧ Ch l) → VPure P f [runeR.listR.L ls] (runeR.listR.L (sortW ls))
def SetsOk (ss : List (Option (List (List Int)))) : Prop := ∀ (p : Nat) (l : List (List Int)), ss[p]? = some (some l) → l.length ≤ 100000 ∧ ∀ w ∈ l, w.length ≤ 100000000 ∧ Ch w
theorem allOut_ok {d : Desc} {x : List Int} {k a s : Nat} {ss : List (Option (List (List Int)))} (hR : RuleOk d k) (hSS : SetsOk ss) (ha : a ≤ x.length) : ∀ l ∈ allOut d x k ss a s, l.length ≤ 1000000000 ∧ Ch l := fun l hl => by
  unfold allOut at hl
  rw [List.mem_append, List.mem_flatMap, List.mem_flatMap] at hl
  rcases hl with ⟨z, _, hl⟩ | ⟨z, _, hl⟩
  · unfold finOut at hl
    split at hl
    · rename_i f hq
      split at hl
      · rename_i he
        obtain ⟨_, ho64, hgu, hwr⟩ := hR.final f (List.mem_of_getElem? hq)
        obtain rfl := List.mem_singleton.1 hl
        exact ⟨by rw [writesV, List.length_map]; omega, writes_bd hwr hgu ((endsB_iff ha).1 he).2⟩
      · cases hl
    · cases hl
  · unfold ruleOut at hl
    split at hl
    · rename_i r hq
      split at hl
      · rename_i he
        obtain ⟨_, _, _, _, _, ho64, hgu, hwr⟩ := hR.rule r (List.mem_of_getElem? hq)
        obtain ⟨w, hw, rfl⟩ := List.mem_map.1 hl
        have hb := writes_bd hwr hgu (fitsB_iff.1 he)
        have hwl : (writesV r.out (winF x a r.guards.length)).length ≤ 64 := by rw [writesV, List.length_map]; exact ho64
        unfold setAt at hw
        split at hw
        · rename_i sl hs
          obtain ⟨h1, h2⟩ := (hSS _ _ hs).2 w hw
          exact ⟨by rw [List.length_append]; omega, fun z hz => (List.mem_append.1 hz).elim (hb z) (h2 z)⟩
        · cases hw
      · cases hl
    · cases hl
attribute [local irreducible] Ev arun frun grun awp RetQ NextQ RetM
set_option maxHeartbeats 4000000
set_option maxRecDepth 20000
theorem tell_vm (hCat : CatOk Tryz.prog 53) (hSrt : SrtOk Tryz.prog 54) (d : Desc) (x : List Int) (k M : Nat) (od : List Int) (lv : List Bool) (most : Int) (y : Kept) (a s : Nat) (hR : RuleOk d k) (hk1 : k ≤ 1024) (hr : d.rules.length ≤ 4096) (hf : d.finals.length ≤ 4096) (hxl : x.length ≤ 1024) (hxs : Ch x) (ha : a ≤ x.length) (hs : s < k) (hM : M = (x.length + 1) * k) (hy : y.2.length = M) (hset : y.1 = false → SetsOk y.2) :
    VM Tryz.prog 49 ([V.int .i64 (a : Int), V.int .i64 (s : Int)] ++ [.ptr 5 0 0 0, .iptr [.iptr (rnrR.cells ⟨d, x, rulesL d k, finalsL d k, od, lv⟩)], .iptr (descR.cells d), .ptr 4 0 0 0, .iptr [.int .i64 most]]) (slk (TS M y)) 6 (slk (TS M (tellF d x k most y (a, s)) ++ TS M y)) (.tuple []) := by
  obtain ⟨m, ss⟩ := y
  cases m with
  | true =>
    refine a_vm (hN := Tryz.ntmps49) (hf := Tryz.func49) ?_
    refine wk ⟨?_⟩
    refine retMu (CS := TS M (true, ss)) (.inr rfl) .nil (.tuple rfl fun i v u h => by simp at h) ?_
    refine ⟨⟨by simp, ?_⟩, ⟨by simp, ?_⟩, ⟨by simp, ?_⟩, trivial⟩
    · exact ⟨_, rfl, RnB.cells (RnX.cons (RnC.cons (rn_bool rfl) rfl RnC.nil) RnX.nil), rfl⟩
    · exact ⟨_, rfl, RnB.cells (RnX.cons (RnC.cons (rn_row rfl ⟨rfl, rfl, rfl⟩) rfl RnC.nil) RnX.nil), rfl⟩
    · exact ⟨_, rfl, RnB.cells (RnX.of_eq (r := osR) rfl), rfl⟩
  | false =>
    have hSS := hset rfl
    have hfi : (finalsL d k)[s]? = some (finalsOf d (s : Int)) := by
      unfold finalsL
      rw [List.getElem?_map, List.getElem?_range hs]
      rfl
    have hri := rulesL_at (d := d) hs
    have hfl : (finalsOf d (s : Int)).length ≤ 4096 := by
      have := idxF_len (d.finals.map (·.src)) d.finals.length (s : Int)
      unfold finalsOf
      omega
    have hrl : (rulesOf d (s : Int)).length ≤ 4096 := by
      have := idxF_len (d.rules.map (·.src)) d.rules.length (s : Int)
      unfold rulesOf
      omega
    refine a_vm (hN := Tryz.ntmps49) (hf := Tryz.func49) ?_
    have hxr : ∀ z ∈ x, -2147483648 ≤ z ∧ z ≤ 2147483647 := fun z hz => by have := hxs z hz; omega
    have hk3 : ∀ {N : Nat} {g : Nat → Nat → Option (Nat × Nat)} {s : Store} {D : Nat → Prop}, Rn N g s D (.iptr [.iptr (rnrR.cells ⟨d, x, rulesL d k, finalsL d k, od, lv⟩)]) (.iptr [.iptr (rnrR.cells ⟨d, x, rulesL d k, finalsL d k, od, lv⟩)]) := fun {N g s D} => .keep (.iptr fun v hv => by obtain rfl := List.mem_singleton.1 hv; exact Rp.vip _ _ _)
    have hk6 : ∀ {N : Nat} {g : Nat → Nat → Option (Nat × Nat)} {s : Store} {D : Nat → Prop}, Rn N g s D (.iptr [.int .i64 most]) (.iptr [.int .i64 most]) := fun {N g s D} => .keep (.iptr fun v hv => by obtain rfl := List.mem_singleton.1 hv; exact .int _ _)
    refine wk ⟨?_⟩
    refine a_loop (σ := LSt) 1 [0, 1, 2, 3, 4, 5, 6, 26, 27] (fun y => [(9, nrow 7 y.g y.ls.length), (28, V.int .i64 (y.k : Int))]) (fun y => [(7, nb 37 1 y.g y.L (y.ls.map runeR.listR.cells))]) (fun y => y.L ≤ y.g ∧ y.k ≤ (finalsOf d (s : Int)).length ∧ y.ls = ((finalsOf d (s : Int)).take y.k).flatMap (finOut d x a)) (fun y => (finalsOf d (s : Int)).length - y.k) ⟨0, 0, 0, []⟩ ⟨Nat.le_refl _, Nat.zero_le _, rfl⟩ ?_
    rintro ⟨i, g, L, ls⟩ ⟨hLg, hi, hls⟩
    simp only at hLg hi hls
    obtain hx | ⟨z, hz, hlt⟩ := range_cases hi
    · subst i
      rw [List.take_length] at hls
      dsimp only
      refine wk ⟨?_⟩
      obtain ⟨F0, hF0⟩ : ∃ F0, F0 = ls := ⟨_, rfl⟩
      have hFl : F0.length ≤ 4096 := by
        rw [hF0, hls]
        refine Nat.le_trans (flat_le (m := 1) fun z hz => ?_) (by omega)
        unfold finOut
        split
        · split <;> simp
        · simp
      have hR0 : ∀ z, (ruleOut d x k a (setAt ss) z).length ≤ 100000 := fun z => by
        unfold ruleOut
        split
        · split
          · rw [List.length_map]
            unfold setAt
            split
            · exact (hSS _ _ (by assumption)).1
            · exact Nat.zero_le _
          · exact Nat.zero_le _
        · exact Nat.zero_le _
      refine a_loop (σ := LSt) 0 [0, 1, 2, 3, 4, 5, 6, 59, 60] (fun y => [(9, nrow 7 y.g y.ls.length), (61, V.int .i64 (y.k : Int))]) (fun y => [(7, nb 37 1 y.g y.L (y.ls.map runeR.listR.cells))]) (fun y => y.L ≤ y.g ∧ y.k ≤ (rulesOf d (s : Int)).length ∧ y.ls = F0 ++ ((rulesOf d (s : Int)).take y.k).flatMap (ruleOut d x k a (setAt ss))) (fun y => (rulesOf d (s : Int)).length - y.k) ⟨0, g, L, ls⟩ ⟨hLg, Nat.zero_le _, by simp [hF0]⟩ ?_
      rw [hF0, hls] at hFl
      clear hLg
      rintro ⟨i, g, L, l2⟩ ⟨hLg, hi, hl2⟩
      simp only at hLg hi hl2
      have hl2l : l2.length ≤ 500000000 := by
        rw [hl2, List.length_append, hF0, hls]
        have := flat_le (f := ruleOut d x k a (setAt ss)) (m := 100000) (l := (rulesOf d (s : Int)).take i) fun z _ => hR0 z
        rw [List.length_take] at this
        have h2 : min i (rulesOf d (s : Int)).length * 100000 ≤ 4096 * 100000 := Nat.mul_le_mul_right _ (by omega)
        omega
      obtain hx | ⟨z, hz, hlt⟩ := range_cases hi
      · subst i
        rw [List.take_length] at hl2
        have hall : l2 = allOut d x k ss a s := by rw [hl2, hF0, hls]; rfl
        have hsrt := hSrt l2 (by omega) (by rw [hall]; exact allOut_ok hR hSS ha)
        obtain ⟨IX, hIX⟩ : ∃ IX, IX = a * k + s := ⟨_, rfl⟩
        have hMb : (x.length + 1) * k ≤ 1025 * 1024 := Nat.mul_le_mul (by omega) hk1
        have hIM : IX < M := by
          have : (a + 1) * k ≤ (x.length + 1) * k := Nat.mul_le_mul_right _ (by omega)
          rw [hM, hIX]
          rw [Nat.add_mul] at this
          omega
        have hid3 : IntKind.i64.wrap (IntKind.i64.wrap ((a : Int) * d.states) + (s : Int)) = (IX : Int) := by
          have h2 : (a : Int) * d.states = ((a * k : Nat) : Int) := by rw [hR.st]; push_cast; rfl
          have h1 : a * k ≤ (x.length + 1) * k := Nat.mul_le_mul_right _ (by omega)
          rw [h2]
          generalize a * k = Z at h1 hIX
          rw [wrap_in (z := (Z : Int)) (by omega) (by omega), wrap_in (by omega) (by omega)]
          omega
        have htell : tellF d x k most (false, ss) (a, s) = (decide (most < ((sortW l2).length : Int)), ss.set IX (some (sortW l2))) := by
          unfold tellF
          rw [hall, hIX]
          rfl
        rw [htell]
        obtain ⟨o, hso⟩ : ∃ o, ss[IX]? = some o := ⟨_, List.getElem?_eq_getElem (by have : ss.length = M := hy; omega)⟩
        clear htell hall hl2 hls hF0 hFl
        generalize sortW l2 = sw at hsrt ⊢
        dsimp only
        refine wk ⟨?_⟩
        refine ar_take [7] hsrt ?_ (hi := by simp only [List.all_cons, List.all_nil, Bool.and_true]; exact nb_some)
        refine wk ⟨?_⟩
        rw [hid3, Int.toNat_natCast]
        refine wk ⟨?_⟩
        refine retMu (CS := TS M (decide (most < (sw.length : Int)), ss.set IX (some sw))) (.inl rfl) .nil (.tuple rfl fun i v u h => by simp at h) ?_
        refine ⟨⟨by simp, ?_⟩, ⟨by simp, ?_⟩, ⟨by simp, ?_⟩, trivial⟩
        · exact ⟨_, rfl, RnB.cells (RnX.cons (RnC.cons (rn_bool rfl) rfl RnC.nil) RnX.nil), rfl⟩
        · exact ⟨_, rfl, RnB.cells (RnX.cons (RnC.cons (rn_row rfl ⟨rfl, rfl, rfl⟩) rfl RnC.nil) RnX.nil), rfl⟩
        · exact ⟨_, rfl, RnB.cells (RnX.of_eq (r := osR) (List.map_set (f := osR.cells) (l := ss) (i := IX) (a := some sw)).symm), rfl⟩
      · obtain ⟨q, r, rfl, hq, hsrc⟩ := rulesOf_mem.1 (List.mem_of_getElem? hz)
        obtain ⟨_, ⟨hd0, hd1⟩, he0, he1, _, ho64, hgu, hwr⟩ := hR.rule r (List.mem_of_getElem? hq)
        have hq' : d.rules[((q : Nat) : Int).toNat]? = some r := by rw [Int.toNat_natCast]; exact hq
        have hft := fits_rv ⟨d, x, rulesL d k, finalsL d k, od, lv⟩ r.guards a ha hxl hxr
        have hnx : F0 ++ ((rulesOf d (s : Int)).take (i + 1)).flatMap (ruleOut d x k a (setAt ss)) = l2 ++ if fitsB x r.guards a then (setAt ss ((a + r.eat.toNat) * k + r.dst.toNat)).map (writesV r.out (winF x a r.guards.length) ++ ·) else [] := by
          rw [flat_take hz, hl2, List.append_assoc]
          congr 2
          unfold ruleOut
          rw [hq']
        have hfx : fitsB x r.guards a = true → fitsX x r.guards a := fun h => fitsB_iff.1 h
        simp only at hft
        generalize fitsB x r.guards a = b at hft hnx hfx
        clear hl2
        dsimp only
        refine wk ⟨?_⟩
        refine ar_pi hft ?_
        cases b with
        | false =>
          refine wk ⟨?_⟩
          refine a_next (⟨i + 1, g, L, l2⟩ : LSt) ⟨hLg, hlt, by simp only; rw [hnx]; simp⟩ (by simp only; omega) ?_
          refine end0 ?_ ?_; all_goals repeat' first | exact hk3 | exact hk6 | exact trivial | refine And.intro ?_ ?_ | exact rn_int rfl | exact rn_list rfl | exact rn_row rfl ⟨rfl, rfl, rfl⟩ | exact rn_ptr rfl | exact rn_bool rfl | exact rn_agg rfl | exact rn_iptr rfl | exact rn_map rfl | exact rn_nrows rfl | exact rn_new rfl rfl rfl (by omega) | refine rn_int ?_ | refine rn_bool ?_ | refine rn_list ?_ | refine rn_row rfl ⟨?_, ?_, ?_⟩ | refine rn_nrow rfl ⟨rfl, ?_⟩ ?_ | refine rn_agg ?_ | exact Exists.intro _ ⟨rfl, RnB.cells (RnX.of_eq rfl), rfl⟩ | exact Exists.intro _ ⟨rfl, RnB.cells (RnX.of_eq (map_snoc rfl)), rfl⟩ | exact Exists.intro _ ⟨rfl, RnB.cells (RnX.of_eq (map_setc rfl)), rfl⟩ | exact Exists.intro _ ⟨rfl, RnB.cells (RnX.of_eq (map_inc rfl)), rfl⟩ | exact Exists.intro _ ⟨rfl, RnB.cells (RnX.of_eq (map_snocs rfl)), rfl⟩ | refine Exists.intro _ ⟨rfl, RnB.cells (RnX.cons (RnC.cons ?_ ?_ RnC.nil) RnX.nil), rfl⟩ | exact Exists.intro _ ⟨rfl, RnB.hole, rfl⟩ | refine Exists.intro _ ⟨rfl, rnm_of ?_, rfl⟩ | exact nrow_one | refine old_nbs ?_ rfl | refine old_nb ?_ ⟨?_, _, rfl, RnB.cells (RnX.of_eq (map_snoc rfl)), rfl⟩ | refine old_nb ?_ ⟨?_, _, rfl, RnB.cells (RnX.of_eq (map_snocs rfl)), rfl⟩ | refine old_nb ?_ ⟨?_, _, rfl, RnB.cells (RnX.of_eq (map_inc rfl)), rfl⟩ | refine old_nb ?_ ⟨?_, _, rfl, RnB.cells (RnX.of_eq rfl), rfl⟩ | rfl | (simp only []; omega) | (simp; done) | (simp; omega) | assumption
        | true =>
          have hF := hfx rfl
          have hgl := hF.1
          have hwv := writes_rv ⟨d, x, rulesL d k, finalsL d k, od, lv⟩ r.out a r.guards.length (show a + r.guards.length ≤ x.length by omega) hxl hxs (terms_ok hwr hgu hF ha) ho64
          have hwb : Ch (writesV r.out (winF x a r.guards.length)) := writes_bd hwr hgu hF
          have hwl : (writesV r.out (winF x a r.guards.length)).length ≤ 64 := by rw [writesV, List.length_map]; exact ho64
          rw [if_pos rfl] at hnx
          simp only at hwv
          generalize writesV r.out (winF x a r.guards.length) = wv at hwv hnx hwb hwl
          obtain ⟨IX, hIX⟩ : ∃ IX, IX = (a + r.eat.toNat) * k + r.dst.toNat := ⟨_, rfl⟩
          rw [← hIX] at hnx
          have hMb : (x.length + 1) * k ≤ 1025 * 1024 := Nat.mul_le_mul (by omega) hk1
          have hIM : IX < M := by
            have : (a + r.eat.toNat + 1) * k ≤ (x.length + 1) * k := Nat.mul_le_mul_right _ (by omega)
            rw [hM, hIX]
            rw [Nat.add_mul] at this
            omega
          have hJE : ((a : Int) + r.eat) * d.states = (((a + r.eat.toNat) * k : Nat) : Int) := by
            rw [hR.st]
            push_cast
            rw [show ((r.eat.toNat : Nat) : Int) = r.eat by omega]
          have hid2 : IntKind.i64.wrap (IntKind.i64.wrap (((a : Int) + r.eat) * d.states) + r.dst) = (IX : Int) := by
            rw [hJE]
            have h1 : (a + r.eat.toNat) * k ≤ (x.length + 1) * k := Nat.mul_le_mul_right _ (by omega)
            generalize (a + r.eat.toNat) * k = JE at hIX h1
            rw [wrap_in (z := (JE : Int)) (by omega) (by omega), wrap_in (by omega) (by omega)]
            omega
          refine wk ⟨?_⟩
          refine ar_pi hwv ?_
          refine wk ⟨?_⟩
          rw [hid2]
          obtain ⟨o, hso⟩ : ∃ o, ss[IX]? = some o := ⟨_, List.getElem?_eq_getElem (by have : ss.length = M := hy; omega)⟩
          cases o with
          | none =>
            have hst : setAt ss IX = [] := by unfold setAt; rw [hso]
            rw [hst] at hnx
            refine wk ⟨?_⟩
            refine a_loop (σ := Unit) 0 [0, 1, 2, 3, 4, 5, 6, 9, 16, 59, 60, 61, 96, 97, 98] (fun _ => []) (fun _ => []) (fun _ => True) (fun _ => 0) () trivial ?_
            intro _ _
            refine wk ⟨?_⟩
            refine a_next (⟨i + 1, g, L, l2⟩ : LSt) ⟨hLg, hlt, by simp only; rw [hnx]; simp⟩ (by simp only; omega) ?_
            refine end0 ?_ ?_; all_goals repeat' first | exact hk3 | exact hk6 | exact trivial | refine And.intro ?_ ?_ | exact rn_int rfl | exact rn_list rfl | exact rn_row rfl ⟨rfl, rfl, rfl⟩ | exact rn_ptr rfl | exact rn_bool rfl | exact rn_agg rfl | exact rn_iptr rfl | exact rn_map rfl | exact rn_nrows rfl | exact rn_new rfl rfl rfl (by omega) | refine rn_int ?_ | refine rn_bool ?_ | refine rn_list ?_ | refine rn_row rfl ⟨?_, ?_, ?_⟩ | refine rn_nrow rfl ⟨rfl, ?_⟩ ?_ | refine rn_agg ?_ | exact Exists.intro _ ⟨rfl, RnB.cells (RnX.of_eq rfl), rfl⟩ | exact Exists.intro _ ⟨rfl, RnB.cells (RnX.of_eq (map_snoc rfl)), rfl⟩ | exact Exists.intro _ ⟨rfl, RnB.cells (RnX.of_eq (map_setc rfl)), rfl⟩ | exact Exists.intro _ ⟨rfl, RnB.cells (RnX.of_eq (map_inc rfl)), rfl⟩ | exact Exists.intro _ ⟨rfl, RnB.cells (RnX.of_eq (map_snocs rfl)), rfl⟩ | refine Exists.intro _ ⟨rfl, RnB.cells (RnX.cons (RnC.cons ?_ ?_ RnC.nil) RnX.nil), rfl⟩ | exact Exists.intro _ ⟨rfl, RnB.hole, rfl⟩ | refine Exists.intro _ ⟨rfl, rnm_of ?_, rfl⟩ | exact nrow_one | refine old_nbs ?_ rfl | refine old_nb ?_ ⟨?_, _, rfl, RnB.cells (RnX.of_eq (map_snoc rfl)), rfl⟩ | refine old_nb ?_ ⟨?_, _, rfl, RnB.cells (RnX.of_eq (map_snocs rfl)), rfl⟩ | refine old_nb ?_ ⟨?_, _, rfl, RnB.cells (RnX.of_eq (map_inc rfl)), rfl⟩ | refine old_nb ?_ ⟨?_, _, rfl, RnB.cells (RnX.of_eq rfl), rfl⟩ | rfl | (simp only []; omega) | (simp; done) | (simp; omega) | assumption
          | some sl =>
            have hst : setAt ss IX = sl := by unfold setAt; rw [hso]
            rw [hst] at hnx
            obtain ⟨hs1, hs2⟩ := hSS IX sl hso
            refine wk ⟨?_⟩
            refine a_loop (σ := LSt) 0 [0, 1, 2, 3, 4, 5, 6, 16, 59, 60, 61, 96, 97] (fun y => [(9, nrow 7 y.g y.ls.length), (98, V.int .i64 (y.k : Int))]) (fun y => [(7, nb 37 1 y.g y.L (y.ls.map runeR.listR.cells))]) (fun y => y.L ≤ y.g ∧ y.k ≤ sl.length ∧ y.ls = l2 ++ (sl.take y.k).map (wv ++ ·)) (fun y => sl.length - y.k) ⟨0, g, L, l2⟩ ⟨hLg, Nat.zero_le _, by simp⟩ ?_
            clear hLg
            rintro ⟨j, g, L, l3⟩ ⟨hLg, hj, hl3⟩
            simp only at hLg hj hl3
            have hl3l : l3.length ≤ 600000000 := by
              rw [hl3, List.length_append, List.length_map, List.length_take]
              omega
            obtain hx | ⟨w, hw, hlt2⟩ := range_cases hj
            · subst j
              rw [List.take_length] at hl3
              dsimp only
              refine wk ⟨?_⟩
              refine a_next (⟨i + 1, g, L, l3⟩ : LSt) ⟨hLg, hlt, by simp only; rw [hnx]; exact hl3⟩ (by simp only; omega) ?_
              refine end0 ?_ ?_; all_goals repeat' first | exact hk3 | exact hk6 | exact trivial | refine And.intro ?_ ?_ | exact rn_int rfl | exact rn_list rfl | exact rn_row rfl ⟨rfl, rfl, rfl⟩ | exact rn_ptr rfl | exact rn_bool rfl | exact rn_agg rfl | exact rn_iptr rfl | exact rn_map rfl | exact rn_nrows rfl | exact rn_new rfl rfl rfl (by omega) | refine rn_int ?_ | refine rn_bool ?_ | refine rn_list ?_ | refine rn_row rfl ⟨?_, ?_, ?_⟩ | refine rn_nrow rfl ⟨rfl, ?_⟩ ?_ | refine rn_agg ?_ | exact Exists.intro _ ⟨rfl, RnB.cells (RnX.of_eq rfl), rfl⟩ | exact Exists.intro _ ⟨rfl, RnB.cells (RnX.of_eq (map_snoc rfl)), rfl⟩ | exact Exists.intro _ ⟨rfl, RnB.cells (RnX.of_eq (map_setc rfl)), rfl⟩ | exact Exists.intro _ ⟨rfl, RnB.cells (RnX.of_eq (map_inc rfl)), rfl⟩ | exact Exists.intro _ ⟨rfl, RnB.cells (RnX.of_eq (map_snocs rfl)), rfl⟩ | refine Exists.intro _ ⟨rfl, RnB.cells (RnX.cons (RnC.cons ?_ ?_ RnC.nil) RnX.nil), rfl⟩ | exact Exists.intro _ ⟨rfl, RnB.hole, rfl⟩ | refine Exists.intro _ ⟨rfl, rnm_of ?_, rfl⟩ | exact nrow_one | refine old_nbs ?_ rfl | refine old_nb ?_ ⟨?_, _, rfl, RnB.cells (RnX.of_eq (map_snoc rfl)), rfl⟩ | refine old_nb ?_ ⟨?_, _, rfl, RnB.cells (RnX.of_eq (map_snocs rfl)), rfl⟩ | refine old_nb ?_ ⟨?_, _, rfl, RnB.cells (RnX.of_eq (map_inc rfl)), rfl⟩ | refine old_nb ?_ ⟨?_, _, rfl, RnB.cells (RnX.of_eq rfl), rfl⟩ | rfl | (simp only []; omega) | (simp; done) | (simp; omega) | assumption
            · obtain ⟨hw1, hw2⟩ := hs2 w (List.mem_of_getElem? hw)
              have hcat := hCat wv w (by omega) (by omega) hwb hw2
              have hnx3 : l2 ++ (sl.take (j + 1)).map (wv ++ ·) = l3 ++ [wv ++ w] := by
                rw [take_at hw, List.map_append, ← List.append_assoc, ← hl3]
                rfl
              clear hl3
              generalize wv ++ w = cw at hcat hnx3
              dsimp only
              refine wk ⟨?_⟩
              refine ar_take [9] hcat ?_
              refine wk2 (fun h => ⟨?_⟩) (fun h => ⟨?_⟩)
              · have hnil : l3 = [] := by assumption
                subst hnil
                refine a_next (⟨j + 1, 0, 0, [cw]⟩ : LSt) ⟨Nat.le_refl _, hlt2, hnx3.symm⟩ (by simp only; omega) ?_
                refine end1 (CS := []) 11 7 ?_ ?_ rfl (RnX.of_eq rfl) ?_ (hfree := rfl); all_goals repeat' first | exact hk3 | exact hk6 | exact trivial | refine And.intro ?_ ?_ | exact rn_int rfl | exact rn_list rfl | exact rn_row rfl ⟨rfl, rfl, rfl⟩ | exact rn_ptr rfl | exact rn_bool rfl | exact rn_agg rfl | exact rn_iptr rfl | exact rn_map rfl | exact rn_nrows rfl | exact rn_new rfl rfl rfl (by omega) | refine rn_int ?_ | refine rn_bool ?_ | refine rn_list ?_ | refine rn_row rfl ⟨?_, ?_, ?_⟩ | refine rn_nrow rfl ⟨rfl, ?_⟩ ?_ | refine rn_agg ?_ | exact Exists.intro _ ⟨rfl, RnB.cells (RnX.of_eq rfl), rfl⟩ | exact Exists.intro _ ⟨rfl, RnB.cells (RnX.of_eq (map_snoc rfl)), rfl⟩ | exact Exists.intro _ ⟨rfl, RnB.cells (RnX.of_eq (map_setc rfl)), rfl⟩ | exact Exists.intro _ ⟨rfl, RnB.cells (RnX.of_eq (map_inc rfl)), rfl⟩ | exact Exists.intro _ ⟨rfl, RnB.cells (RnX.of_eq (map_snocs rfl)), rfl⟩ | refine Exists.intro _ ⟨rfl, RnB.cells (RnX.cons (RnC.cons ?_ ?_ RnC.nil) RnX.nil), rfl⟩ | exact Exists.intro _ ⟨rfl, RnB.hole, rfl⟩ | refine Exists.intro _ ⟨rfl, rnm_of ?_, rfl⟩ | exact nrow_one | refine old_nbs ?_ rfl | refine old_nb ?_ ⟨?_, _, rfl, RnB.cells (RnX.of_eq (map_snoc rfl)), rfl⟩ | refine old_nb ?_ ⟨?_, _, rfl, RnB.cells (RnX.of_eq (map_snocs rfl)), rfl⟩ | refine old_nb ?_ ⟨?_, _, rfl, RnB.cells (RnX.of_eq (map_inc rfl)), rfl⟩ | refine old_nb ?_ ⟨?_, _, rfl, RnB.cells (RnX.of_eq rfl), rfl⟩ | rfl | (simp only []; omega) | (simp; done) | (simp; omega) | assumption
              · refine a_next (⟨j + 1, g + 1, L, l3 ++ [cw]⟩ : LSt) ⟨by simp only; omega, hlt2, hnx3.symm⟩ (by simp only; omega) ?_
                refine end0 ?_ ?_; all_goals repeat' first | exact hk3 | exact hk6 | exact trivial | refine And.intro ?_ ?_ | exact rn_int rfl | exact rn_list rfl | exact rn_row rfl ⟨rfl, rfl, rfl⟩ | exact rn_ptr rfl | exact rn_bool rfl | exact rn_agg rfl | exact rn_iptr rfl | exact rn_map rfl | exact rn_nrows rfl | exact rn_new rfl rfl rfl (by omega) | refine rn_int ?_ | refine rn_bool ?_ | refine rn_list ?_ | refine rn_row rfl ⟨?_, ?_, ?_⟩ | refine rn_nrow rfl ⟨rfl, ?_⟩ ?_ | refine rn_agg ?_ | exact Exists.intro _ ⟨rfl, RnB.cells (RnX.of_eq rfl), rfl⟩ | exact Exists.intro _ ⟨rfl, RnB.cells (RnX.of_eq (map_snoc rfl)), rfl⟩ | exact Exists.intro _ ⟨rfl, RnB.cells (RnX.of_eq (map_setc rfl)), rfl⟩ | exact Exists.intro _ ⟨rfl, RnB.cells (RnX.of_eq (map_inc rfl)), rfl⟩ | exact Exists.intro _ ⟨rfl, RnB.cells (RnX.of_eq (map_snocs rfl)), rfl⟩ | refine Exists.intro _ ⟨rfl, RnB.cells (RnX.cons (RnC.cons ?_ ?_ RnC.nil) RnX.nil), rfl⟩ | exact Exists.intro _ ⟨rfl, RnB.hole, rfl⟩ | refine Exists.intro _ ⟨rfl, rnm_of ?_, rfl⟩ | exact nrow_one | refine old_nbs ?_ rfl | refine old_nb ?_ ⟨?_, _, rfl, RnB.cells (RnX.of_eq (map_snoc rfl)), rfl⟩ | refine old_nb ?_ ⟨?_, _, rfl, RnB.cells (RnX.of_eq (map_snocs rfl)), rfl⟩ | refine old_nb ?_ ⟨?_, _, rfl, RnB.cells (RnX.of_eq (map_inc rfl)), rfl⟩ | refine old_nb ?_ ⟨?_, _, rfl, RnB.cells (RnX.of_eq rfl), rfl⟩ | rfl | (simp only []; omega) | (simp; done) | (simp; omega) | assumption
    · obtain ⟨q, f, rfl, hq, hsrc⟩ := finalsOf_mem.1 (List.mem_of_getElem? hz)
      obtain ⟨_, ho64, hgu, hwr⟩ := hR.final f (List.mem_of_getElem? hq)
      have hq' : d.finals[((q : Nat) : Int).toNat]? = some f := by rw [Int.toNat_natCast]; exact hq
      have hen := ends_rv ⟨d, x, rulesL d k, finalsL d k, od, lv⟩ f a ha hxl hxr
      have hnx : ((finalsOf d (s : Int)).take (i + 1)).flatMap (finOut d x a) = ls ++ if endsB x f.guards a then [writesV f.out (winF x a f.guards.length)] else [] := by
        rw [flat_take hz, ← hls]
        unfold finOut
        rw [hq']
      have hll : ls.length ≤ 4096 := by
        rw [hls]
        refine Nat.le_trans (flat_le (m := 1) fun z hz => ?_) (by rw [List.length_take]; omega)
        unfold finOut
        split
        · split <;> simp
        · simp
      simp only at hen
      rw [show (decide (f.guards.length = x.length - a) && fitsB x f.guards a) = endsB x f.guards a from rfl] at hen
      have hfx : endsB x f.guards a = true → fitsX x f.guards a := fun h => ((endsB_iff ha).1 h).2
      generalize endsB x f.guards a = b at hen hnx hfx
      clear hls
      dsimp only
      refine wk ⟨?_⟩
      refine ar_pi hen ?_
      cases b with
      | false =>
        refine wk ⟨?_⟩
        refine a_next (⟨i + 1, g, L, ls⟩ : LSt) ⟨hLg, hlt, by simp only; rw [hnx]; simp⟩ (by simp only; omega) ?_
        refine end0 ?_ ?_; all_goals repeat' first | exact hk3 | exact hk6 | exact trivial | refine And.intro ?_ ?_ | exact rn_int rfl | exact rn_list rfl | exact rn_row rfl ⟨rfl, rfl, rfl⟩ | exact rn_ptr rfl | exact rn_bool rfl | exact rn_agg rfl | exact rn_iptr rfl | exact rn_map rfl | exact rn_nrows rfl | exact rn_new rfl rfl rfl (by omega) | refine rn_int ?_ | refine rn_bool ?_ | refine rn_list ?_ | refine rn_row rfl ⟨?_, ?_, ?_⟩ | refine rn_nrow rfl ⟨rfl, ?_⟩ ?_ | refine rn_agg ?_ | exact Exists.intro _ ⟨rfl, RnB.cells (RnX.of_eq rfl), rfl⟩ | exact Exists.intro _ ⟨rfl, RnB.cells (RnX.of_eq (map_snoc rfl)), rfl⟩ | exact Exists.intro _ ⟨rfl, RnB.cells (RnX.of_eq (map_setc rfl)), rfl⟩ | exact Exists.intro _ ⟨rfl, RnB.cells (RnX.of_eq (map_inc rfl)), rfl⟩ | exact Exists.intro _ ⟨rfl, RnB.cells (RnX.of_eq (map_snocs rfl)), rfl⟩ | refine Exists.intro _ ⟨rfl, RnB.cells (RnX.cons (RnC.cons ?_ ?_ RnC.nil) RnX.nil), rfl⟩ | exact Exists.intro _ ⟨rfl, RnB.hole, rfl⟩ | refine Exists.intro _ ⟨rfl, rnm_of ?_, rfl⟩ | exact nrow_one | refine old_nbs ?_ rfl | refine old_nb ?_ ⟨?_, _, rfl, RnB.cells (RnX.of_eq (map_snoc rfl)), rfl⟩ | refine old_nb ?_ ⟨?_, _, rfl, RnB.cells (RnX.of_eq (map_snocs rfl)), rfl⟩ | refine old_nb ?_ ⟨?_, _, rfl, RnB.cells (RnX.of_eq (map_inc rfl)), rfl⟩ | refine old_nb ?_ ⟨?_, _, rfl, RnB.cells (RnX.of_eq rfl), rfl⟩ | rfl | (simp only []; omega) | (simp; done) | (simp; omega) | assumption
      | true =>
        have hF := hfx rfl
        have hwv := writes_rv ⟨d, x, rulesL d k, finalsL d k, od, lv⟩ f.out a f.guards.length (show a + f.guards.length ≤ x.length by have := hF.1; omega) hxl hxs (terms_ok hwr hgu hF ha) ho64
        rw [if_pos rfl] at hnx
        simp only at hwv
        generalize writesV f.out (winF x a f.guards.length) = wv at hwv hnx
        refine wk ⟨?_⟩
        refine ar_pi hwv ?_
        refine wk2 (fun h => ⟨?_⟩) (fun h => ⟨?_⟩)
        · have hnil : ls = [] := by assumption
          subst hnil
          refine a_next (⟨i + 1, 0, 0, [wv]⟩ : LSt) ⟨Nat.le_refl _, hlt, hnx.symm⟩ (by simp only; omega) ?_
          refine end1 (CS := []) 10 7 ?_ ?_ rfl (RnX.of_eq rfl) ?_ (hfree := rfl); all_goals repeat' first | exact hk3 | exact hk6 | exact trivial | refine And.intro ?_ ?_ | exact rn_int rfl | exact rn_list rfl | exact rn_row rfl ⟨rfl, rfl, rfl⟩ | exact rn_ptr rfl | exact rn_bool rfl | exact rn_agg rfl | exact rn_iptr rfl | exact rn_map rfl | exact rn_nrows rfl | exact rn_new rfl rfl rfl (by omega) | refine rn_int ?_ | refine rn_bool ?_ | refine rn_list ?_ | refine rn_row rfl ⟨?_, ?_, ?_⟩ | refine rn_nrow rfl ⟨rfl, ?_⟩ ?_ | refine rn_agg ?_ | exact Exists.intro _ ⟨rfl, RnB.cells (RnX.of_eq rfl), rfl⟩ | exact Exists.intro _ ⟨rfl, RnB.cells (RnX.of_eq (map_snoc rfl)), rfl⟩ | exact Exists.intro _ ⟨rfl, RnB.cells (RnX.of_eq (map_setc rfl)), rfl⟩ | exact Exists.intro _ ⟨rfl, RnB.cells (RnX.of_eq (map_inc rfl)), rfl⟩ | exact Exists.intro _ ⟨rfl, RnB.cells (RnX.of_eq (map_snocs rfl)), rfl⟩ | refine Exists.intro _ ⟨rfl, RnB.cells (RnX.cons (RnC.cons ?_ ?_ RnC.nil) RnX.nil), rfl⟩ | exact Exists.intro _ ⟨rfl, RnB.hole, rfl⟩ | refine Exists.intro _ ⟨rfl, rnm_of ?_, rfl⟩ | exact nrow_one | refine old_nbs ?_ rfl | refine old_nb ?_ ⟨?_, _, rfl, RnB.cells (RnX.of_eq (map_snoc rfl)), rfl⟩ | refine old_nb ?_ ⟨?_, _, rfl, RnB.cells (RnX.of_eq (map_snocs rfl)), rfl⟩ | refine old_nb ?_ ⟨?_, _, rfl, RnB.cells (RnX.of_eq (map_inc rfl)), rfl⟩ | refine old_nb ?_ ⟨?_, _, rfl, RnB.cells (RnX.of_eq rfl), rfl⟩ | rfl | (simp only []; omega) | (simp; done) | (simp; omega) | assumption
        · refine a_next (⟨i + 1, g + 1, L, ls ++ [wv]⟩ : LSt) ⟨by simp only; omega, hlt, hnx.symm⟩ (by simp only; omega) ?_
          refine end0 ?_ ?_; all_goals repeat' first | exact hk3 | exact hk6 | exact trivial | refine And.intro ?_ ?_ | exact rn_int rfl | exact rn_list rfl | exact rn_row rfl ⟨rfl, rfl, rfl⟩ | exact rn_ptr rfl | exact rn_bool rfl | exact rn_agg rfl | exact rn_iptr rfl | exact rn_map rfl | exact rn_nrows rfl | exact rn_new rfl rfl rfl (by omega) | refine rn_int ?_ | refine rn_bool ?_ | refine rn_list ?_ | refine rn_row rfl ⟨?_, ?_, ?_⟩ | refine rn_nrow rfl ⟨rfl, ?_⟩ ?_ | refine rn_agg ?_ | exact Exists.intro _ ⟨rfl, RnB.cells (RnX.of_eq rfl), rfl⟩ | exact Exists.intro _ ⟨rfl, RnB.cells (RnX.of_eq (map_snoc rfl)), rfl⟩ | exact Exists.intro _ ⟨rfl, RnB.cells (RnX.of_eq (map_setc rfl)), rfl⟩ | exact Exists.intro _ ⟨rfl, RnB.cells (RnX.of_eq (map_inc rfl)), rfl⟩ | exact Exists.intro _ ⟨rfl, RnB.cells (RnX.of_eq (map_snocs rfl)), rfl⟩ | refine Exists.intro _ ⟨rfl, RnB.cells (RnX.cons (RnC.cons ?_ ?_ RnC.nil) RnX.nil), rfl⟩ | exact Exists.intro _ ⟨rfl, RnB.hole, rfl⟩ | refine Exists.intro _ ⟨rfl, rnm_of ?_, rfl⟩ | exact nrow_one | refine old_nbs ?_ rfl | refine old_nb ?_ ⟨?_, _, rfl, RnB.cells (RnX.of_eq (map_snoc rfl)), rfl⟩ | refine old_nb ?_ ⟨?_, _, rfl, RnB.cells (RnX.of_eq (map_snocs rfl)), rfl⟩ | refine old_nb ?_ ⟨?_, _, rfl, RnB.cells (RnX.of_eq (map_inc rfl)), rfl⟩ | refine old_nb ?_ ⟨?_, _, rfl, RnB.cells (RnX.of_eq rfl), rfl⟩ | rfl | (simp only []; omega) | (simp; done) | (simp; omega) | assumption
end Go.Proofs.YtofcjmjokokajaaGreat
