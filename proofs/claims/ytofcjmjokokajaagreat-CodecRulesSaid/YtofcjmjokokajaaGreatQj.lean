/-
  Code, walked on states that are lists of pairs. No program is named here. A run that is reckoned is a walk of the machine: code and calls. No program is named here. A call that is reckoned. No program is named here. Calls whose outcome is known, at hand for a run that is reckoned.
-/
import Derived.Test.YtofcjmjokokajaaGreatQi
import Derived.Test.YtofcjmjokokajaaGreatQh
namespace Go.Vm
open Go.RowKit
def chkA (N : Nat) : Code → Bool
  | .region _ ops _ => ops.toList.all (operN N)
  | .seq a b => chkA N a && chkA N b
  | .cond c a b => opN N c && (chkA N a && chkA N b)
  | .block _ c => chkA N c
  | .loop c => chkA N c
  | .rangeFunc g _ a b => opN N g && (chkA N a && (chkA N b && (noRF a && noRF b)))
  | _ => true
class Mix (P : Program) : Prop where
  eq : P.follows .mixedOrders = true
abbrev XPost := Exit → AEnv → ASt → Nat → Prop
def awp (P : Program) (N : Nat) (c : Code) (Q : XPost) (E : AEnv) (S : ASt) (n : Nat) : Prop :=
  chkA N c = true → vwp P c (fun x e s n => ∃ E' S', e = toL N E' ∧ s = slk S' ∧ Q x E' S' n) (toL N E) (slk S) n
def thenA (next : APost) (Q : XPost) : XPost
  | .normal, E, S, n => next E S n
  | x, E, S, n => Q x E S n
def inBlockA (id : Nat) (Q : XPost) : XPost
  | .exit id', E, S, n => bif Nat.beq id' id then Q .normal E S n else Q (.exit id') E S n
  | x, E, S, n => Q x E S n
section
variable {P : Program} {N : Nat} {Q Q' : XPost} {E : AEnv} {S : ASt} {n : Nat}
theorem a_skip (h : Q .normal E S n) : awp P N .skip Q E S n := fun _ => vwp_skip ⟨E, S, rfl, rfl, h⟩
theorem a_exit {id : Nat} (h : Q (.exit id) E S n) : awp P N (.exit id) Q E S n := fun _ => vwp_exit ⟨E, S, rfl, rfl, h⟩
theorem a_ret (h : Q .ret E S n) : awp P N .ret Q E S n := fun _ => vwp_ret ⟨E, S, rfl, rfl, h⟩
theorem a_seq {a b : Code} (h : awp P N a (thenA (awp P N b Q) Q) E S n) : awp P N (.seq a b) Q E S n := fun hc => by
  simp only [chkA, Bool.and_eq_true] at hc
  refine vwp_seq (vwp_mono (h hc.1) ?_)
  rintro x _ _ n' ⟨E', S', rfl, rfl, q4⟩
  cases x with
  | normal => exact q4 hc.2
  | exit id => exact ⟨E', S', rfl, rfl, q4⟩
  | goto l => exact ⟨E', S', rfl, rfl, q4⟩
  | ret => exact ⟨E', S', rfl, rfl, q4⟩
  | panic c => exact ⟨E', S', rfl, rfl, q4⟩
  | outgrown => exact ⟨E', S', rfl, rfl, q4⟩
theorem a_cond {c : Operand} {a b : Code} {t : Bool} (ht : aev E c = .bool t) (h1 : t = true → awp P N a Q E S n) (h2 : t = false → awp P N b Q E S n) : awp P N (.cond c a b) Q E S n := fun hc => by
  simp only [chkA, Bool.and_eq_true] at hc
  refine vwp_cond (t := t) (by rw [aev_eq hc.1]; exact ht) ?_
  cases t with
  | true => exact h1 rfl hc.2.1
  | false => exact h2 rfl hc.2.2
theorem a_yes {c : Operand} {a b : Code} (ht : aev E c = .bool true) (h : awp P N a Q E S n) : awp P N (.cond c a b) Q E S n := a_cond ht (fun _ => h) (fun q => by cases q)
theorem a_no {c : Operand} {a b : Code} (ht : aev E c = .bool false) (h : awp P N b Q E S n) : awp P N (.cond c a b) Q E S n := a_cond ht (fun q => by cases q) (fun _ => h)
theorem a_dec {c : Operand} {a b : Code} {p : Prop} {d : Decidable p} (ht : aev E c = .bool (@decide p d)) (h1 : p → awp P N a Q E S n) (h2 : ¬ p → awp P N b Q E S n) : awp P N (.cond c a b) Q E S n := a_cond ht (fun q => h1 (of_decide_eq_true q)) (fun q => h2 (of_decide_eq_false q))
theorem a_dec_t {c : Operand} {a b : Code} {p : Prop} {d : Decidable p} (h1 : awp P N a Q E S n) (ht : aev E c = .bool (@decide p d) := by rfl) (hp : p := by omega) : awp P N (.cond c a b) Q E S n := a_dec ht (fun _ => h1) (fun q => (q hp).elim)
theorem a_dec_f {c : Operand} {a b : Code} {p : Prop} {d : Decidable p} (h1 : awp P N b Q E S n) (ht : aev E c = .bool (@decide p d) := by rfl) (hp : ¬ p := by omega) : awp P N (.cond c a b) Q E S n := a_dec ht (fun q => (hp q).elim) (fun _ => h1)
theorem a_block {id : Nat} {c : Code} (h : awp P N c (inBlockA id Q) E S n) : awp P N (.block id c) Q E S n := fun hc => by
  refine vwp_block (vwp_mono (h hc) ?_)
  rintro x _ _ n' ⟨E', S', rfl, rfl, q4⟩
  cases x with
  | exit id' =>
    simp only [inBlockV]
    simp only [inBlockA] at q4
    split
    · rename_i hh
      subst hh
      rw [Nat.beq_refl] at q4
      exact ⟨E', S', rfl, rfl, q4⟩
    · rename_i hh
      rw [beq_no hh] at q4
      exact ⟨E', S', rfl, rfl, q4⟩
  | normal => exact ⟨E', S', rfl, rfl, q4⟩
  | goto l => exact ⟨E', S', rfl, rfl, q4⟩
  | ret => exact ⟨E', S', rfl, rfl, q4⟩
  | panic c => exact ⟨E', S', rfl, rfl, q4⟩
  | outgrown => exact ⟨E', S', rfl, rfl, q4⟩
theorem a_region {id : Nat} {ops : Array Oper} (h : arun P N ops true (Q .normal) ops.toList E S n) : awp P N (.region id ops false) Q E S n := fun hc => by
  exact vwp_region_run (h hc)
theorem a_drawn {id : Nat} {ops : Array Oper} [hm : Mix P] (h : arun P N ops false (Q .normal) ops.toList E S n) (hr : regB ops (wset ops false) = true := by decide +kernel) : awp P N (.region id ops true) Q E S n := fun hc => by
  exact vwp_draw_run hm.eq hr (h hc)
def frun (P : Program) (N : Nat) (ops : Array Oper) (F : List Nat) (K : APost) (i : Nat) (l : List Oper) (E : AEnv) (S : ASt) (n : Nat) : Prop :=
  l.all (operN N) = true → vrunF P ops F (fun e s n => ∃ E' S', e = toL N E' ∧ s = slk S' ∧ K E' S' n) i l (toL N E) (slk S) n
theorem a_regionF {id : Nat} {ops : Array Oper} [hm : Mix P] (F : List Nat) (h : frun P N ops F (Q .normal) 0 ops.toList E S n) (hr : regB ops (wflat ops F) = true := by decide +kernel) : awp P N (.region id ops true) Q E S n := fun hc => vwp_draw_runF hm.eq F hr (h hc)
inductive FlatA (E : AEnv) : Op → Prop where
  | no {op : Op} (h : lfOp op = false) : FlatA E op
  | load {t : TypeId} {x : Operand} {cs : List V} (h : aev E x = .iptr cs) : FlatA E (.load t x)
  | fld {t : TypeId} {x : Operand} {f : Nat} {cs : List V} (h : aev E x = .iptr cs) : FlatA E (.fieldAddr t x f)
theorem FlatA.at {E : AEnv} {op : Op} (h : FlatA E op) : lfOp op = true → ∀ z ∈ op.operands, (aev E z).tid = none := fun hl z hz => by
  cases h with
  | no h => rw [h] at hl; cases hl
  | @load t x cs h =>
    have : z = x := by simpa [Op.operands] using hz
    rw [this, h]; rfl
  | @fld t x f cs h =>
    have : z = x := by simpa [Op.operands] using hz
    rw [this, h]; rfl
section
variable {ops : Array Oper} {F : List Nat} {K : APost} {i : Nat} {l : List Oper} {S' : ASt} {n' : Nat}
theorem fr_nil (h : K E S n) : frun P N ops F K i [] E S n := fun _ => ⟨E, S, rfl, rfl, h⟩
theorem fr_some {d : Nat} {op : Op} {ty : TypeId} {pos : String} {aft : Array Edge} {v : V} (K' : frun P N ops F K (i + 1) l ((d, v) :: E) S' n') (h : Ev P E S n op v S' n') (hf : F.contains i = true → FlatA E op) : frun P N ops F K i (⟨some d, op, ty, pos, aft, none⟩ :: l) E S n := fun hl => by
  simp only [List.all_cons, Bool.and_eq_true] at hl
  obtain ⟨us, h1, h2⟩ := h
  have ho := operN_ops (E := E) hl.1
  rw [vop_congr (ρ2 := aev E) ho |>.symm] at h1
  have hfl : F.contains i = true → lfOp op = true → ∀ z ∈ op.operands, (veval (toL N E) z).tid = none := fun q1 q2 z hz => by rw [ho z hz]; exact (hf q1).at q2 z hz
  simp only [vrunF, vwanted, h1, vput, h2, toL_set]
  exact ⟨hfl, K' hl.2⟩
theorem fr_none {op : Op} {ty : TypeId} {pos : String} {aft : Array Edge} {v : V} (K' : frun P N ops F K (i + 1) l E S' n') (h : Ev P E S n op v S' n') (hf : F.contains i = true → FlatA E op) : frun P N ops F K i (⟨none, op, ty, pos, aft, none⟩ :: l) E S n := fun hl => by
  simp only [List.all_cons, Bool.and_eq_true] at hl
  obtain ⟨us, h1, h2⟩ := h
  have ho := operN_ops (E := E) hl.1
  rw [vop_congr (ρ2 := aev E) ho |>.symm] at h1
  have hfl : F.contains i = true → lfOp op = true → ∀ z ∈ op.operands, (veval (toL N E) z).tid = none := fun q1 q2 z hz => by rw [ho z hz]; exact (hf q1).at q2 z hz
  simp only [vrunF, vwanted, h1, vput, h2]
  exact ⟨hfl, K' hl.2⟩
end
def Sub (N : Nat) (E E' : AEnv) : Prop := ∀ t, t < N → lk E' t = .any ∨ lk E t = lk E' t
theorem fgE_of : ∀ {e e2 : List V}, e.length = e2.length → (∀ (i : Nat) (v : V), e2[i]? = some v → v = .any ∨ e[i]? = some v) → fgE (fun _ => True) e e2
  | [], [], _, _ => trivial
  | x :: r, y :: r2, hl, h => by
    have h0 := h 0 y rfl
    have hr := fgE_of (e := r) (e2 := r2) (by simpa using hl) fun i v hv => by simpa using h (i + 1) v (by simpa using hv)
    by_cases hy : y = .any
    · subst hy; simp only [fgE]; exact hr
    · have hx : x = y := by
        rcases h0 with q | q
        · exact absurd q hy
        · simpa using q
      subst hx
      cases x <;> first | exact (hy rfl).elim | exact ⟨rfl, trivial, hr⟩
theorem Sub.fg {N : Nat} {E E' : AEnv} (h : Sub N E E') : fgE (fun _ => True) (toL N E) (toL N E') := fgE_of (by rw [toL_length, toL_length]) fun i v hv => by
  have hi : i < N := by have := (List.getElem?_eq_some_iff.1 hv).1; rwa [toL_length] at this
  rw [toL_at hi] at hv ⊢
  cases hv
  exact (h i hi).elim .inl fun q => .inr (congrArg some q)
end
end Go.Vm
namespace Go.Vm
open Go.RowKit
def VRounds (P : Program) (c : Code) (Q : VPost) : Nat → List V → Store → Nat → Prop
  | 0, _, _, _ => False
  | m + 1, e, s, n => vwp P c (thenV (VRounds P c Q m) Q) e s n
theorem vwp_rounds {P : Program} {c : Code} {Q : VPost} : ∀ (m : Nat) {e : List V} {s : Store} {n : Nat}, VRounds P c Q m e s n → vwp P (.loop c) Q e s n := by
  intro m e s n h rd md B a w Sb G hrd h1 h2 h3 h4
  refine wpIn_loop_rounds m ?_
  have key : ∀ m e1 s1 n1 a1 w1 Sb1 G1, VRounds P c Q m e1 s1 n1 → Rvs w1 Sb1 G1 e1 a1.tmps.toList → On w Sb G s n w1 Sb1 G1 s1 n1 → Marks B w1 Sb1 G1 s1 a1.defers → Code.roundsIn (fo rd) md P c (VEnd Q B w Sb G s n) m a1 w1 := by
    intro m
    induction m with
    | zero => intro e1 s1 n1 a1 w1 Sb1 G1 h; exact h.elim
    | succ m ih =>
      intro e1 s1 n1 a1 w1 Sb1 G1 hI r1 r2 r3
      rw [roundsIn_succ]
      refine wpIn_mono (hI rd md B a1 w1 Sb1 G1 hrd r1 r2.nxt.sim r2.free r3) fun ex a2 w2 ⟨t0, e2, s2, n2, Sb2, G2, q, t1, t2, t3⟩ => ?_
      cases ex with
      | normal => exact ih e2 s2 n2 a2 w2 Sb2 G2 q t1 (r2.trans t2) t3
      | exit id => exact ⟨t0, e2, s2, n2, Sb2, G2, q, t1, r2.trans t2, t3⟩
      | goto l => exact ⟨t0, e2, s2, n2, Sb2, G2, q, t1, r2.trans t2, t3⟩
      | ret => exact ⟨t0, e2, s2, n2, Sb2, G2, q, t1, r2.trans t2, t3⟩
      | panic c => exact ⟨t0, e2, s2, n2, Sb2, G2, q, t1, r2.trans t2, t3⟩
      | outgrown => exact ⟨t0, e2, s2, n2, Sb2, G2, q, t1, r2.trans t2, t3⟩
  exact key m e s n a w Sb G h h1 (.refl h2 h3) h4
theorem kresults_eq {P : Program} {S : KS} {E : KE} {N : Nat} : ∀ {rs : List ResultVar} {vs : List V}, rs.all (resN N) = true → kresults P S E rs = some vs → vresults P (kst S) (KL N E) rs = some vs
  | [], vs, _, h => h
  | r :: rs, vs, hN, h => by
    simp only [List.all_cons, Bool.and_eq_true] at hN
    cases r with
    | tmp t =>
      simp only [kresults] at h
      split at h
      · rename_i vs' hvs
        cases h
        have := kresults_eq hN.2 hvs
        simp only [vresults, vresult, this, KL_getD (show t < N by simpa [resN, Nat.blt_eq] using hN.1)]
      · cases h
    | cell a t =>
      simp only [kresults] at h
      split at h
      · rename_i i hi
        split at h
        · rename_i v vs' h1 h2
          cases h
          have := kresults_eq hN.2 h2
          simp only [vresults, vresult, hi, this, KL_getD (show a < N by simpa [resN, Nat.blt_eq] using hN.1), h1]
        · cases h
      · cases h
theorem kargs_get : ∀ (l : List V) (i : Nat) (E : KE) (t : Nat), kget (kargs l i E) t = if i ≤ t ∧ t < i + l.length then l.getD (t - i) (.tuple []) else kget E t
  | [], i, E, t => by simp only [kargs, List.length_nil]; rw [if_neg (by omega)]
  | v :: r, i, E, t => by
    simp only [kargs]
    rw [kargs_get r (i + 1)]
    simp only [List.length_cons]
    by_cases h1 : i + 1 ≤ t ∧ t < i + 1 + r.length
    · rw [if_pos h1, if_pos (by omega), show t - i = (t - (i + 1)) + 1 by omega]
      simp
    · rw [if_neg h1, kget_set]
      by_cases h2 : t = i
      · subst h2
        rw [if_pos rfl, if_pos (by omega), Nat.sub_self]
        rfl
      · rw [if_neg h2, if_neg (by omega)]
theorem kargs_KL {args : List V} {N : Nat} (h : args.length ≤ N) : KL N (kargs args 0 .lf) = args ++ List.replicate (N - args.length) (.tuple []) := by
  refine List.ext_getElem? fun i => ?_
  by_cases hi : i < N
  · rw [KL_at hi, kargs_get]
    by_cases ha : i < args.length
    · rw [if_pos (by omega), List.getElem?_append_left ha, Nat.sub_zero, List.getD_eq_getElem?_getD, List.getElem?_eq_getElem ha]
      rfl
    · rw [if_neg (by omega), List.getElem?_append_right (by omega), List.getElem?_replicate, if_pos (by omega)]
      rfl
  · rw [List.getElem?_eq_none (by rw [KL_length]; omega), List.getElem?_eq_none (by simp; omega)]
def NatOk (P : Program) (nat : KNat) : Prop := ∀ fid args v, nat.f fid args = some v → VPure P fid args v ∧ ∀ a ∈ args, Vlt 0 a
theorem wX_lt {ops : Array Oper} {C : List Nat} : ∀ x ∈ wX ops C, x < ops.size := fun _ hx => List.mem_range.1 (List.mem_filter.1 hx).1
theorem wX_has {ops : Array Oper} {C : List Nat} {j : Nat} {o : Oper} (ho : ops[j]? = some o) (h : isW o.op = true ∨ j ∈ C) : (wX ops C).contains j = true := by
  simp only [wX, List.contains_iff_mem, List.mem_filter, List.mem_range, ho, Bool.or_eq_true]
  exact ⟨(Array.getElem?_eq_some_iff.1 ho).1, h⟩
theorem nbeq_eq : ∀ {l r : List Nat}, nbeq l r = true → l = r
  | [], [], _ => rfl
  | a :: l, b :: r, h => by
    simp only [nbeq, Bool.and_eq_true] at h
    rw [Nat.eq_of_beq_eq_true h.1, nbeq_eq h.2]
  | [], _ :: _, h => by cases h
  | _ :: _, [], h => by cases h
theorem rcerts_ok {ops : Array Oper} {C : List Nat} (h : rcerts ops C = true) : ∃ C2, rcert ops C2 = true ∧ ∀ j ∈ C, j ∈ C2 := by
  unfold rcerts at h
  split at h
  · rename_i hc
    exact ⟨_, h, by rw [nbeq_eq hc]; simp⟩
  · split at h
    · rename_i hc
      exact ⟨_, h, fun j hj => by rw [← nbeq_eq hc]; simpa using hj⟩
    · exact ⟨_, h, fun _ h => h⟩
section
variable {P : Program} [hm : Mix P]
theorem region_ok {N : Nat} {call : KCall} (hcall : CallsOk P call) {id : Nat} {ops : Array Oper} {draw : Bool} (hN : ops.toList.all (operN N) = true) {E : KE} {S : KS} {n : Nat} {E' : KE} {S' : KS} {n' : Nat} {L A : List (Nat × Nat)} {C : List Nat}
    (h : xops P call ops draw ops.toList 0 E S n [] [] [] = some (E', S', n', L, A, C)) (hh : draw = true → rcerts ops C = true ∧ hits ops L A = false) : Keeps S n S' n' (L.map (·.2)) ∧ ∀ Q : VPost, Q .normal (KL N E') (kst S') n' → vwp P (.region id ops draw) Q (KL N E) (kst S) n := by
  have hops : ∀ (j : Nat) (o : Oper), ops[j]? = some o → operN N o = true := fun j o ho => List.all_eq_true.1 hN o (by
    have := List.mem_of_getElem? (show ops.toList[j]? = some o by simpa using ho)
    exact this)
  have hl0 : ∀ (j : Nat) (o : Oper), ops.toList[j]? = some o → ops[0 + j]? = some o := fun j o hj => by simpa using hj
  obtain ⟨_, _, ⟨Ln, q1, q2⟩, q3⟩ := xops_vlist hops hcall ops.toList 0 E S n [] [] [] E' S' n' L A C hl0 h
  rw [List.append_nil] at q1
  subst q1
  refine ⟨q2, fun Q hQ => ?_⟩
  cases hd : draw with
  | false =>
    subst hd
    refine vwp_region (wset ops true) ?_
    have hA : ∀ (l : List Oper) (i : Nat) (E : KE) (S : KS) (n : Nat) (L A : List (Nat × Nat)) (C : List Nat) r, xops P call ops false l i E S n L A C = some r → r.2.2.2.2.1 = A := by
      intro l
      induction l with
      | nil => intro i E S n L A C r h; simp only [xops, Option.some.injEq] at h; rw [← h]
      | cons o l ih =>
        intro i E S n L A C r h
        simp only [xops] at h
        split at h
        · cases h
        · exact ih _ _ _ _ _ _ _ _ h
        · split at h
          · split at h
            · cases h
            · split at h
              · cases h
              · exact ih _ _ _ _ _ _ _ _ h
          · split at h
            · cases h
            · exact ih _ _ _ _ _ _ _ _ h
    have hA' := hA _ _ _ _ _ _ _ _ _ h
    simp only at hA'
    subst hA'
    have := q3 (wset ops true) (Q .normal) (fun j o ho _ => by rw [wset_spec j o ho]; rfl) (fun j _ hj => by
      have ho : ops[j]? = some ops[j] := by simp [hj]
      rw [wset_spec j _ ho]; rfl) (fun j _ hj => by rw [wset_fl] at hj; cases hj) (fun p _ => wset_aW p.1 p.2) (fun p hp => by simp at hp) hQ
    rw [← List.range_eq_range'] at this
    simpa using this
  | true =>
    obtain ⟨hB, hh⟩ := hh hd
    obtain ⟨C2, hB, hC2⟩ := rcerts_ok hB
    let D : List (Nat × Nat) := A.flatMap fun q => ((List.range ops.size).filter fun x => unord ops x q.1).map fun x => (x, q.2)
    have hC : ∀ x id, x < ops.size → (aW ops (wsC ops (wX ops C2) (flX ops (wX ops C2)) D) x id = true ↔ ∃ i, (i, id) ∈ A ∧ unord ops x i = true) := fun x id hx => by
      rw [wsC_A wX_lt hx]
      simp only [D, List.mem_flatMap, List.mem_map, List.mem_filter, List.mem_range, Prod.mk.injEq]
      constructor
      · rintro ⟨⟨i, id'⟩, hq, y, ⟨_, hu⟩, rfl, rfl⟩; exact ⟨i, hq, hu⟩
      · rintro ⟨i, hq, hu⟩; exact ⟨(i, id), hq, x, ⟨hx, hu⟩, rfl, rfl⟩
    refine vwp_region_draw hm.eq (wsC ops (wX ops C2) (flX ops (wX ops C2)) D) (by rw [wsC_regB wX_lt []]; exact hB) ?_
    have hLlt : ∀ p ∈ L, p.1 < ops.size := by
      have key : ∀ (l : List Oper) (i : Nat) (E : KE) (S : KS) (n : Nat) (L A : List (Nat × Nat)) (C : List Nat) r, xops P call ops draw l i E S n L A C = some r → i + l.length ≤ ops.size → (∀ p ∈ L, p.1 < ops.size) → ∀ p ∈ r.2.2.2.1, p.1 < ops.size := by
        intro l
        induction l with
        | nil => intro i E S n L A C r h _ hL; simp only [xops, Option.some.injEq] at h; rw [← h]; exact hL
        | cons o l ih =>
          intro i E S n L A C r h hi hL
          simp only [List.length_cons] at hi
          have hadd : ∀ n n' ids, ∀ p ∈ addL i n n' ids L, p.1 < ops.size := fun n n' ids p hp => by
            simp only [addL, List.mem_append, List.mem_map] at hp
            rcases hp with ⟨id, _, rfl⟩ | hp
            · show i < ops.size; omega
            · exact hL p hp
          simp only [xops] at h
          split at h
          · cases h
          · exact ih _ _ _ _ _ _ _ _ h (by omega) hL
          · split at h
            · split at h
              · cases h
              · split at h
                · cases h
                · exact ih _ _ _ _ _ _ _ _ h (by omega) (hadd _ _ _)
            · split at h
              · cases h
              · exact ih _ _ _ _ _ _ _ _ h (by omega) (hadd _ _ _)
      exact key _ _ _ _ _ _ _ _ _ h (by simp) (by simp)
    have := q3 (wsC ops (wX ops C2) (flX ops (wX ops C2)) D) (Q .normal) (fun j o ho hw => by rw [wsC_W (Array.getElem?_eq_some_iff.1 ho).1]; exact wX_has ho (.inl hw)) (fun j hj hlt => by
      have ho : ops[j]? = some ops[j] := by simp [hlt]
      rw [wsC_W hlt]; exact wX_has ho (.inr (hC2 j hj))) (fun _ _ _ => hd) (fun p hp => ?_) (fun p hp x hx _ hu => (hC x p.2 hx).2 ⟨p.1, hp, hu⟩) hQ
    · rw [← List.range_eq_range'] at this
      simpa using this
    · rw [← Bool.not_eq_true, hC p.1 p.2 (hLlt p hp)]
      rintro ⟨i, hi, hu⟩
      have : hits ops L A = true := by
        unfold hits
        rw [List.any_eq_true]
        refine ⟨p, hp, ?_⟩
        rw [List.any_eq_true]
        exact ⟨(i, p.2), hi, by simp [hu]⟩
      rw [this] at hh
      cases hh
theorem vfr_lt : ∀ (k : Nat) {v : V}, vfr k v = true → Vlt 0 v := by
  intro k
  induction k with
  | zero => intro v h; cases h
  | succ k ih =>
    intro v h
    cases v <;> simp only [vfr, Bool.false_eq_true, List.all_eq_true, Bool.and_eq_true] at h
    case int => exact .int _ _
    case bool => exact .bool _
    case str => exact .str _
    case nil => exact .nil
    case nilptr => exact .nilptr
    case nilmap => exact .nilmap
    case nilfunc => exact .nilfunc
    case list => exact .list fun cs hcs v hv => ih (h cs hcs v hv)
    case iptr => exact .iptr fun v hv => ih (h v hv)
    case agg => exact .agg fun v hv => ih (h v hv)
    case tuple => exact .tuple fun v hv => ih (h v hv)
    case func => exact .func (fun v hv => ih (h.1 v hv)) fun v hv => ih (h.2 v hv)
theorem omap_at {α β : Type} {f : α → Option β} : ∀ {l : List α} {r : List β}, omap f l = some r → l.length = r.length ∧ ∀ (i : Nat) (a : α) (b : β), l[i]? = some a → r[i]? = some b → f a = some b
  | [], r, h => by
    simp only [omap, Option.some.injEq] at h
    subst h
    exact ⟨rfl, fun i a b h => by simp at h⟩
  | x :: l, r, h => by
    simp only [omap] at h
    split at h
    · rename_i b hb
      split at h
      · rename_i t ht
        simp only [Option.some.injEq] at h
        subst h
        obtain ⟨q1, q2⟩ := omap_at ht
        refine ⟨by simp [q1], fun i a c h1 h2 => ?_⟩
        cases i with
        | zero => simp at h1 h2; subst h1 h2; exact hb
        | succ i => exact q2 i a c (by simpa using h1) (by simpa using h2)
      · cases h
    · cases h
theorem kfz_ok {S : KS} : ∀ (k : Nat) {v u : V}, kfz S k v = some u → Pk (kst S) v u := by
  intro k
  induction k with
  | zero => intro v u h; cases h
  | succ k ih =>
    intro v u h
    cases v with
    | int i a => simp only [kfz, Option.some.injEq] at h; subst h; exact .keep (.int _ _)
    | bool a => simp only [kfz, Option.some.injEq] at h; subst h; exact .keep (.bool _)
    | str a => simp only [kfz, Option.some.injEq] at h; subst h; exact .keep (.str _)
    | nil => simp only [kfz, Option.some.injEq] at h; subst h; exact .keep .nil
    | nilptr => simp only [kfz, Option.some.injEq] at h; subst h; exact .keep .nilptr
    | nilmap => simp only [kfz, Option.some.injEq] at h; subst h; exact .keep .nilmap
    | list m xs =>
      simp only [kfz] at h
      split at h
      · rename_i hv
        simp only [Option.some.injEq] at h
        subst h
        exact .keep (vfr_lt k hv)
      · cases h
    | row id g i n =>
      simp only [kfz] at h
      split at h
      · rename_i e m G L xs hs
        split at h
        · rename_i hc
          simp only [Bool.and_eq_true, Nat.ble_eq] at hc
          obtain ⟨⟨h1, h2⟩, h3⟩ := hc
          split at h
          · rename_i ys hys
            split at h
            · rename_i ho
              simp only [Option.some.injEq] at h
              subst h
              obtain ⟨q1, q2⟩ := omap_at hys
              simp only [List.all_eq_true, Bool.and_eq_true] at ho
              have hyl : ys.length = n := by rw [← q1, List.length_take, List.length_drop]; omega
              refine .row (show kst S id = _ from hs) ⟨h1, h2⟩ hyl (fun ds hds => ⟨Nat.eq_of_beq_eq_true (ho ds hds).1, (ho ds hds).2⟩) fun a j cs ds v u r1 r2 r3 r4 => ?_
              have ha : a < n := by rw [← hyl]; exact (List.getElem?_eq_some_iff.1 r2).1
              have hcs : ((xs.drop i).take n)[a]? = some cs := by rw [List.getElem?_take, if_pos ha, List.getElem?_drop]; exact r1
              exact ih ((omap_at (q2 a cs ds hcs r2)).2 j v u r3 r4)
            · cases h
          · cases h
        · cases h
      · cases h
    | agg cs =>
      simp only [kfz] at h
      split at h
      · rename_i ds hds
        split at h
        · rename_i ho
          simp only [Option.some.injEq] at h
          subst h
          obtain ⟨q1, q2⟩ := omap_at hds
          exact .agg q1 (List.all_eq_true.1 ho) fun j v u r1 r2 => ih (q2 j v u r1 r2)
        · cases h
      · cases h
    | tuple cs =>
      simp only [kfz] at h
      split at h
      · rename_i ds hds
        simp only [Option.some.injEq] at h
        subst h
        obtain ⟨q1, q2⟩ := omap_at hds
        exact .tuple q1 fun j v u r1 r2 => ih (q2 j v u r1 r2)
      · cases h
    | _ => simp only [kfz] at h; cases h
def RunOk (P : Program) (run : Nat → Code → KE → KS → Nat → List Nat → Option (Exit × KE × KS × Nat × List Nat)) : Prop := ∀ (N : Nat) (c : Code) (E : KE) (S : KS) (n : Nat) (L : List Nat) (x : Exit) (E' : KE) (S' : KS) (n' : Nat) (L' : List Nat), run N c E S n L = some (x, E', S', n', L') →
    (∃ Ln, L' = Ln ++ L ∧ Keeps S n S' n' Ln) ∧ ∀ Q : VPost, Q x (KL N E') (kst S') n' → vwp P c Q (KL N E) (kst S) n ∧ ∀ c', c = .loop c' → ∃ m, VRounds P c' Q m (KL N E) (kst S) n
omit hm in
theorem kbody_at {run : Nat → Code → KE → KS → Nat → List Nat → Option (Exit × KE × KS × Nat × List Nat)} {fid : FuncId} {args : List V} {S : KS} {n : Nat} {v : V} {S' : KS} {n' : Nat} {L : List Nat} (h : kbody P run fid args S n = some (v, S', n', L)) :
    ∃ fn c x E' vs, P.funcs[fid]? = some fn ∧ fn.body = some c ∧ args.length ≤ fn.ntmps ∧ fn.results.toList.all (resN fn.ntmps) = true ∧ run fn.ntmps c (kargs args 0 .lf) S n [] = some (x, E', S', n', L) ∧ (x = .normal ∨ x = .ret) ∧ kresults P S' E' fn.results.toList = some vs ∧ v = vjoin vs := by
  unfold kbody at h
  split at h
  · cases h
  · rename_i fn hfn
    split at h
    · rename_i c hb hlen
      simp only [Bool.and_eq_true, Nat.ble_eq] at hlen
      split at h
      · rename_i x E' S'' n'' L'' hrun
        refine ⟨fn, c, x, E', ?_⟩
        cases x <;> simp only [] at h <;> first
          | (split at h
             · rename_i vs hvs
               simp only [Option.some.injEq, Prod.mk.injEq] at h
               obtain ⟨rfl, rfl, rfl, rfl⟩ := h
               exact ⟨vs, hfn, hb, hlen.1, hlen.2, hrun, by simp, hvs, rfl⟩
             · cases h)
          | cases h
      · cases h
    · cases h
omit hm in
theorem kbody_pure {run : Nat → Code → KE → KS → Nat → List Nat → Option (Exit × KE × KS × Nat × List Nat)} (hrun : RunOk P run) {fid : FuncId} {args : List V} {v u : V} {S' : KS} {n' : Nat} {L : List Nat} (h : kbody P run fid args .lf 0 = some (v, S', n', L)) (hp : Pk (kst S') v u) : VPure P fid args u := by
  obtain ⟨fn, c, x, E', vs, hfn, hb, hl, hres, hr, hx, hvs, rfl⟩ := kbody_at h
  refine vpure_body (n0 := 0) hfn hb ?_
  rw [← kargs_KL hl]
  exact ((hrun _ _ _ _ _ _ _ _ _ _ _ hr).2 _ ⟨hx, vs, kresults_eq hres hvs, hp⟩).1
omit hm in
theorem kcall_ok {nat : KNat} (hnat : NatOk P nat) {run : Nat → Code → KE → KS → Nat → List Nat → Option (Exit × KE × KS × Nat × List Nat)} (hrun : RunOk P run) : CallsOk P (kcall P nat run) := by
  intro fid args S n v S' n' L b h
  unfold kcall at h
  split at h
  · cases h
  · rename_i hp
    refine ⟨hp, ?_⟩
    split at h
    · rename_i v' hv
      simp only [Option.some.injEq, Prod.mk.injEq] at h
      obtain ⟨rfl, rfl, rfl, rfl, rfl⟩ := h
      obtain ⟨g1, g2⟩ := hnat _ _ _ hv
      exact .inr ⟨rfl, rfl, rfl, rfl, g1, g2⟩
    · split at h
      · rename_i hpu
        simp only [Bool.and_eq_true, List.all_eq_true] at hpu
        split at h
        · rename_i v0 S0 n0 L0 hb
          split at h
          · rename_i v1 hz
            simp only [Option.some.injEq, Prod.mk.injEq] at h
            obtain ⟨rfl, rfl, rfl, rfl, rfl⟩ := h
            exact .inr ⟨rfl, rfl, rfl, rfl, kbody_pure hrun hb (kfz_ok _ hz), fun a ha => vfr_lt _ (hpu.2 a ha)⟩
          · cases h
        · cases h
      · split at h
        · rename_i v0 S0 n0 L0 hb
          simp only [Option.some.injEq, Prod.mk.injEq] at h
          obtain ⟨rfl, rfl, rfl, rfl, rfl⟩ := h
          obtain ⟨fn, c, x, E', vs, hfn, hbd, hl, hres, hr, hxx, hvs, rfl⟩ := kbody_at hb
          obtain ⟨⟨Ln, q1, q2⟩, q3⟩ := hrun _ _ _ _ _ _ _ _ _ _ _ hr
          rw [List.append_nil] at q1
          subst q1
          refine .inl ⟨rfl, q2, fun w Sb G us hs hf hargs => ?_⟩
          have hw := (q3 (fun x' e' s' m' => x' = x ∧ e' = KL fn.ntmps E' ∧ s' = kst S0 ∧ m' = n0) ⟨rfl, rfl, rfl, rfl⟩).1
          refine calls_vwp hfn hbd hw ?_ hs hf ?_
          · rw [kargs_KL hl]
            have hl2 := hargs.1
            have : us.toArray.toList ++ List.replicate (fn.ntmps - us.toArray.size) undef = us ++ List.replicate (fn.ntmps - args.length) undef := by simp [hl2]
            rw [this]
            exact hargs.append ⟨by simp, fun i v u a b => by
              rw [List.getElem?_replicate] at a b
              split at a
              · rename_i hi
                rw [if_pos hi] at b
                cases a
                cases b
                exact undef_rv
              · cases a⟩
          · rintro x' e' s' m' Sb' G' w' tmps ⟨rfl, rfl, rfl, rfl⟩ r1 r2
            obtain ⟨u, t1, t2⟩ := results_rv (P := P) (a := ⟨tmps, []⟩) r2.nxt.sim r1 (kresults_eq hres hvs)
            refine ⟨hxx, u, t1, u, Sb', G', rfl, ?_, t2, fun id j hid hs0 => ?_⟩
            · simp only
              rw [q2.upd]
              exact r2.nxt
            · rcases hid with hid | hid
              · exact (r2.dead id hid hs0).2 j
              · rw [(r2.free id hid).2 j, (hf id (Nat.le_trans q2.1 hid)).2 j]
        · cases h
theorem xrun_ok {nat : KNat} (hnat : NatOk P nat) : ∀ (k : Nat), RunOk P (xrun P nat k) := by
  intro k
  induction k with
  | zero => intro N c E S n L x E' S' n' L' h; cases h
  | succ k ih =>
    intro N c E S n L x E' S' n' L' h
    cases c with
    | skip => simp only [xrun, Option.some.injEq, Prod.mk.injEq] at h; obtain ⟨rfl, rfl, rfl, rfl, rfl⟩ := h; exact ⟨⟨[], rfl, Keeps.refl _ _⟩, fun Q hQ => ⟨vwp_skip hQ, fun c' q => by cases q⟩⟩
    | label l => simp only [xrun, Option.some.injEq, Prod.mk.injEq] at h; obtain ⟨rfl, rfl, rfl, rfl, rfl⟩ := h; exact ⟨⟨[], rfl, Keeps.refl _ _⟩, fun Q hQ => ⟨vwp_label hQ, fun c' q => by cases q⟩⟩
    | ret => simp only [xrun, Option.some.injEq, Prod.mk.injEq] at h; obtain ⟨rfl, rfl, rfl, rfl, rfl⟩ := h; exact ⟨⟨[], rfl, Keeps.refl _ _⟩, fun Q hQ => ⟨vwp_ret hQ, fun c' q => by cases q⟩⟩
    | exit id => simp only [xrun, Option.some.injEq, Prod.mk.injEq] at h; obtain ⟨rfl, rfl, rfl, rfl, rfl⟩ := h; exact ⟨⟨[], rfl, Keeps.refl _ _⟩, fun Q hQ => ⟨vwp_exit hQ, fun c' q => by cases q⟩⟩
    | region id ops draw =>
      simp only [xrun] at h
      split at h
      · cases h
      · rename_i hN
        split at h
        · rename_i E1 S1 n1 L1 A1 C1 hx
          have hfin : (draw = true → rcerts ops C1 = true ∧ hits ops L1 A1 = false) ∧ x = .normal ∧ E' = E1 ∧ S' = S1 ∧ n' = n1 ∧ L' = L1.map (·.2) ++ L := by
            split at h
            · simp only [Option.some.injEq, Prod.mk.injEq] at h
              obtain ⟨rfl, rfl, rfl, rfl, rfl⟩ := h
              exact ⟨fun q => (by cases q), rfl, rfl, rfl, rfl, rfl⟩
            · split at h
              · rename_i hc
                simp only [Bool.and_eq_true, Bool.not_eq_true'] at hc
                simp only [Option.some.injEq, Prod.mk.injEq] at h
                obtain ⟨rfl, rfl, rfl, rfl, rfl⟩ := h
                exact ⟨fun _ => hc, rfl, rfl, rfl, rfl, rfl⟩
              · cases h
          obtain ⟨hh, rfl, rfl, rfl, rfl, rfl⟩ := hfin
          obtain ⟨g1, g2⟩ := region_ok (id := id) (kcall_ok hnat ih) hN hx hh
          exact ⟨⟨_, rfl, g1⟩, fun Q hQ => ⟨g2 Q hQ, fun c' q => by cases q⟩⟩
        · cases h
    | seq a b =>
      simp only [xrun] at h
      split at h
      · rename_i x1 E1 S1 n1 L1 h1
        obtain ⟨⟨La, rfl, a2⟩, a3⟩ := ih _ _ _ _ _ _ _ _ _ _ _ h1
        by_cases hx : x1 = .normal
        · subst hx
          simp only at h
          obtain ⟨⟨Lb, rfl, b2⟩, b3⟩ := ih _ _ _ _ _ _ _ _ _ _ _ h
          exact ⟨⟨Lb ++ La, by simp, a2.trans b2⟩, fun Q hQ => ⟨vwp_seq ((a3 (thenV (vwp P b Q) Q) (b3 Q hQ).1).1), fun c' q => by cases q⟩⟩
        · have h' : some (x1, E1, S1, n1, La ++ L) = some (x, E', S', n', L') := by cases x1 <;> first | exact absurd rfl hx | exact h
          simp only [Option.some.injEq, Prod.mk.injEq] at h'
          obtain ⟨rfl, rfl, rfl, rfl, rfl⟩ := h'
          refine ⟨⟨La, rfl, a2⟩, fun Q hQ => ⟨vwp_seq ((a3 (thenV (vwp P b Q) Q) ?_).1), fun c' q => by cases q⟩⟩
          cases x1 <;> first | exact absurd rfl hx | exact hQ
      · cases h
    | cond cx a b =>
      simp only [xrun] at h
      split at h
      · rename_i hN hv
        obtain ⟨a1, a2⟩ := ih _ _ _ _ _ _ _ _ _ _ _ h
        exact ⟨a1, fun Q hQ => ⟨vwp_cond (t := true) (by rw [kev_eq hN]; exact hv) (a2 Q hQ).1, fun c' q => by cases q⟩⟩
      · rename_i hN hv
        obtain ⟨a1, a2⟩ := ih _ _ _ _ _ _ _ _ _ _ _ h
        exact ⟨a1, fun Q hQ => ⟨vwp_cond (t := false) (by rw [kev_eq hN]; exact hv) (a2 Q hQ).1, fun c' q => by cases q⟩⟩
      · cases h
    | block id c =>
      simp only [xrun] at h
      split at h
      · rename_i x1 E1 S1 n1 L1 h1
        obtain ⟨a1, a3⟩ := ih _ _ _ _ _ _ _ _ _ _ _ h1
        have hfin : E' = E1 ∧ S' = S1 ∧ n' = n1 ∧ L' = L1 ∧ ((x1 = .exit id ∧ x = .normal) ∨ (x1 ≠ .exit id ∧ x = x1)) := by
          cases x1 <;> simp only [] at h
          case exit id' =>
            split at h
            · rename_i he _
              simp only [Option.some.injEq, Prod.mk.injEq] at h
              obtain ⟨rfl, rfl, rfl, rfl, rfl⟩ := h
              exact ⟨rfl, rfl, rfl, rfl, .inl ⟨by rw [he], rfl⟩⟩
            · rename_i he _
              simp only [Option.some.injEq, Prod.mk.injEq] at h
              obtain ⟨rfl, rfl, rfl, rfl, rfl⟩ := h
              exact ⟨rfl, rfl, rfl, rfl, .inr ⟨fun q => he (by cases q; rfl), rfl⟩⟩
          all_goals
            simp only [Option.some.injEq, Prod.mk.injEq] at h
            obtain ⟨rfl, rfl, rfl, rfl, rfl⟩ := h
            exact ⟨rfl, rfl, rfl, rfl, .inr ⟨by simp, rfl⟩⟩
        obtain ⟨rfl, rfl, rfl, rfl, hx⟩ := hfin
        refine ⟨a1, fun Q hQ => ⟨vwp_block ((a3 (inBlockV id Q) ?_).1), fun c' q => by cases q⟩⟩
        rcases hx with ⟨rfl, rfl⟩ | ⟨hne, rfl⟩
        · show (if id = id then _ else _)
          rw [if_pos rfl]
          exact hQ
        · cases x <;> first | exact hQ | skip
          rename_i id'
          show (if id' = id then _ else _)
          rw [if_neg (fun q => hne (by rw [q]))]
          exact hQ
      · cases h
    | loop c =>
      simp only [xrun] at h
      split at h
      · rename_i x1 E1 S1 n1 L1 h1
        obtain ⟨⟨La, rfl, a2⟩, a3⟩ := ih _ _ _ _ _ _ _ _ _ _ _ h1
        by_cases hx : x1 = .normal
        · subst hx
          simp only at h
          obtain ⟨⟨Lb, rfl, b2⟩, b3⟩ := ih _ _ _ _ _ _ _ _ _ _ _ h
          refine ⟨⟨Lb ++ La, by simp, a2.trans b2⟩, fun Q hQ => ?_⟩
          obtain ⟨m, hmr⟩ := (b3 Q hQ).2 c rfl
          have hr : VRounds P c Q (m + 1) (KL N E) (kst S) n := (a3 (thenV (VRounds P c Q m) Q) hmr).1
          exact ⟨vwp_rounds _ hr, fun c' q => by cases q; exact ⟨m + 1, hr⟩⟩
        · have h' : some (x1, E1, S1, n1, La ++ L) = some (x, E', S', n', L') := by cases x1 <;> first | exact absurd rfl hx | exact h
          simp only [Option.some.injEq, Prod.mk.injEq] at h'
          obtain ⟨rfl, rfl, rfl, rfl, rfl⟩ := h'
          refine ⟨⟨La, rfl, a2⟩, fun Q hQ => ?_⟩
          have hr : VRounds P c Q 1 (KL N E) (kst S) n := (a3 (thenV (VRounds P c Q 0) Q) (by cases x1 <;> first | exact absurd rfl hx | exact hQ)).1
          exact ⟨vwp_rounds _ hr, fun c' q => by cases q; exact ⟨1, hr⟩⟩
      · cases h
    | _ => simp only [xrun] at h; cases h
end
end Go.Vm
namespace Go.Vm
open Go.RowKit
theorem kpl_at {p : V → V → Bool} : ∀ {us vs : List V}, kpl p us vs = true → ∀ (j : Nat) (v u : V), vs[j]? = some v → us[j]? = some u → p u v = true
  | [], _, _, j, v, u, _, h => by simp at h
  | _ :: _, [], h, _, _, _, _, _ => by simp [kpl] at h
  | a :: us, b :: vs, h, j, v, u, h1, h2 => by
    simp only [kpl, Bool.and_eq_true] at h
    cases j with
    | zero =>
      simp at h1 h2
      subst h1 h2
      exact h.1
    | succ j => exact kpl_at h.2 j v u (by simpa using h1) (by simpa using h2)
theorem kpr_at {p : V → V → Bool} {m : Nat} : ∀ {us vs : List (List V)}, kpr p m us vs = true → (∀ ds ∈ us, ds.length = m ∧ ∀ v ∈ ds, v.one = true) ∧ ∀ (k j : Nat) (cs ds : List V) (v u : V), vs[k]? = some cs → us[k]? = some ds → cs[j]? = some v → ds[j]? = some u → p u v = true
  | [], _, _ => ⟨by simp, fun k j cs ds v u _ h => by simp at h⟩
  | _ :: _, [], h => by simp [kpr] at h
  | a :: us, b :: vs, h => by
    simp only [kpr, Bool.and_eq_true, List.all_eq_true] at h
    obtain ⟨⟨⟨h1, h2⟩, h3⟩, h4⟩ := h
    obtain ⟨q1, q2⟩ := kpr_at h4
    refine ⟨fun ds hds => ?_, fun k j cs ds v u r1 r2 r3 r4 => ?_⟩
    · rcases List.mem_cons.1 hds with rfl | hds
      · exact ⟨Nat.eq_of_beq_eq_true h1, h2⟩
      · exact q1 ds hds
    · cases k with
      | zero =>
        simp at r1 r2
        subst r1 r2
        exact kpl_at h3 j v u r3 r4
      | succ k => exact q2 k j cs ds v u (by simpa using r1) (by simpa using r2) r3 r4
theorem kpk_ok {S : KS} : ∀ (k : Nat) {u v : V}, kpk S k u v = true → Pk (kst S) v u := by
  intro k
  induction k with
  | zero => intro u v h; cases h
  | succ k ih =>
    intro u v h
    cases u with
    | any => exact .any
    | int i a =>
      cases v <;> simp only [kpk, Bool.false_eq_true, Bool.and_eq_true, decide_eq_true_eq] at h
      obtain ⟨rfl, rfl⟩ := h
      exact .keep (.int _ _)
    | bool a =>
      cases v <;> simp only [kpk, Bool.false_eq_true, beq_iff_eq] at h
      subst h
      exact .keep (.bool _)
    | str a =>
      cases v <;> simp only [kpk, Bool.false_eq_true, beq_iff_eq] at h
      rename_i b
      obtain ⟨a⟩ := a
      obtain ⟨b⟩ := b
      have : a = b := Array.ext' h
      subst this
      exact .keep (.str _)
    | nil => cases v <;> simp only [kpk, Bool.false_eq_true] at h; exact .keep .nil
    | nilptr => cases v <;> simp only [kpk, Bool.false_eq_true] at h; exact .keep .nilptr
    | nilmap => cases v <;> simp only [kpk, Bool.false_eq_true] at h; exact .keep .nilmap
    | list m ys =>
      cases v <;> simp only [kpk, Bool.false_eq_true] at h
      case nil =>
        have : ys = [] := by simpa using h
        subst this
        exact .nil
      case row id g i n =>
        cases hs : S.get id with
        | none => rw [hs] at h; cases h
        | some b =>
          rw [hs] at h
          cases b <;> simp only [Bool.false_eq_true, Bool.and_eq_true, Nat.ble_eq] at h
          rename_i e m' G L xs
          obtain ⟨⟨⟨⟨h1, h2⟩, h3⟩, h4⟩, h5⟩ := h
          obtain rfl : m' = m := Nat.eq_of_beq_eq_true h1
          obtain ⟨q1, q2⟩ := kpr_at h5
          refine .row (show kst S id = _ from hs) ⟨h2, h3⟩ (Nat.eq_of_beq_eq_true h4) q1 fun k j cs ds v u r1 r2 r3 r4 => ih (q2 k j cs ds v u ?_ r2 r3 r4)
          rw [List.getElem?_drop]
          exact r1
      case list m' xs =>
        simp only [Bool.and_eq_true] at h
        obtain ⟨⟨h1, h2⟩, h3⟩ := h
        obtain rfl : m' = m := Nat.eq_of_beq_eq_true h1
        obtain ⟨q1, q2⟩ := kpr_at h3
        exact .list (Nat.eq_of_beq_eq_true h2).symm q1 fun k j cs ds v u r1 r2 r3 r4 => ih (q2 k j cs ds v u r1 r2 r3 r4)
    | agg ds =>
      cases v <;> simp only [kpk, Bool.false_eq_true, Bool.and_eq_true, List.all_eq_true] at h
      obtain ⟨⟨h1, h2⟩, h3⟩ := h
      exact .agg (Nat.eq_of_beq_eq_true h1).symm h2 fun j v u r1 r2 => ih (kpl_at h3 j v u r1 r2)
    | tuple ds =>
      cases v <;> simp only [kpk, Bool.false_eq_true, Bool.and_eq_true] at h
      obtain ⟨h1, h3⟩ := h
      exact .tuple (Nat.eq_of_beq_eq_true h1).symm fun j v u r1 r2 => ih (kpl_at h3 j v u r1 r2)
    | _ => simp only [kpk, Bool.false_eq_true] at h
theorem kcall0_ok {P : Program} [hm : Mix P] {nat : KNat} (hnat : NatOk P nat) {k : Nat} {f : FuncId} {args : List V} {v : V} (h : kcall0 P nat k f args v = true) : VPure P f args v := by
  unfold kcall0 at h
  split at h
  · rename_i u S n L hb
    exact kbody_pure (xrun_ok hnat k) hb (kpk_ok _ h)
  · cases h
def nat0 (l : List FuncId) : KNat := ⟨fun _ _ => none, fun f => l.contains f⟩
theorem nat0_ok (P : Program) (l : List FuncId) : NatOk P (nat0 l) := fun _ _ _ h => by cases h
end Go.Vm
namespace Go.Vm
open Go.RowKit
theorem VPure.args {P : Program} {f : FuncId} {as bs : List V} {v : V} (h : VPure P f bs v) (hl : bs.length = as.length) (hp : ∀ (j : Nat) (a b : V), as[j]? = some a → bs[j]? = some b → Pk noS a b) : VPure P f as v := fun w Sb us hsub hargs =>
  h w Sb us hsub ⟨by rw [hargs.1, hl], fun i b u hb hu => by
    have hi : i < as.length := by rw [← hl]; exact (List.getElem?_eq_some_iff.1 hb).1
    have ha := List.getElem?_eq_getElem hi
    have := (hp i _ b ha hb).rv (WSim.none hsub) (hargs.2 i _ u ha hu)
    exact this.mono (fun _ _ => rfl) (fun b hb => hb.elim id fun q => (not_own q).elim) (fun _ _ _ h => h)⟩
theorem all_nil {P : Program} : ∀ p ∈ ([] : List (FuncId × List V × V)), VPure P p.1 p.2.1 p.2.2 := fun _ hp => nomatch hp
theorem all_cons {P : Program} {f : FuncId} {as : List V} {v : V} {l : List (FuncId × List V × V)} (h : VPure P f as v) (hl : ∀ p ∈ l, VPure P p.1 p.2.1 p.2.2) : ∀ p ∈ (f, as, v) :: l, VPure P p.1 p.2.1 p.2.2 := fun p hp => (List.mem_cons.1 hp).elim (fun q => q ▸ h) (hl p)
end Go.Vm
namespace Go.Vm
open Go.RowKit
theorem Vlt.mono {n m : Nat} (h : n ≤ m) {v : V} (hv : Vlt n v) : Vlt m v := by
  induction hv with
  | int k z => exact .int k z
  | bool b => exact .bool b
  | str s => exact .str s
  | nil => exact .nil
  | list _ ih => exact .list ih
  | row h' => exact .row (by omega)
  | nilptr => exact .nilptr
  | ptr h' => exact .ptr (by omega)
  | iptr _ ih => exact .iptr ih
  | nilmap => exact .nilmap
  | map h' => exact .map (by omega)
  | nilfunc => exact .nilfunc
  | func _ _ ih1 ih2 => exact .func ih1 ih2
  | agg _ ih => exact .agg ih
  | tuple _ ih => exact .tuple ih
  | any => exact .any
structure Rp (α : Type) where
  m : Nat
  cells : α → List V
  ok : ∀ a, (cells a).length = m ∧ ∀ v ∈ cells a, Vlt 0 v ∧ v.one = true
abbrev Rp.L {α : Type} (r : Rp α) (xs : List α) : V := .list r.m (xs.map r.cells)
section
variable {α : Type} (r : Rp α)
theorem Rp.cl (n : Nat) (xs : List α) : ∀ cs ∈ xs.map r.cells, ∀ v ∈ cs, Vlt n v ∧ v.one = true := fun cs hc v hv => by
  obtain ⟨a, _, rfl⟩ := List.mem_map.1 hc
  exact ⟨((r.ok a).2 v hv).1.mono (Nat.zero_le n), ((r.ok a).2 v hv).2⟩
theorem Rp.lt (n : Nat) (xs : List α) (m : Nat) : Vlt n (.list m (xs.map r.cells)) := .list fun cs hc v hv => (r.cl n xs cs hc v hv).1
theorem Rp.blt (n : Nat) (xs : List α) (e m g L : Nat) : BVlt n (.cells e m g L (xs.map r.cells)) := r.cl n xs
theorem Rp.agg (n : Nat) (a : α) : Vlt n (.agg (r.cells a)) := .agg fun v hv => ((r.ok a).2 v hv).1.mono (Nat.zero_le n)
theorem Rp.one (a : α) : (r.cells a).all V.one = true := List.all_eq_true.2 fun v hv => ((r.ok a).2 v hv).2
def Rp.listR : Rp (List α) := ⟨1, fun xs => [r.L xs], fun xs => ⟨rfl, fun v hv => by
  obtain rfl := List.mem_singleton.1 hv
  exact ⟨r.lt 0 xs r.m, rfl⟩⟩⟩
end
def intR : Rp Int := ⟨1, fun z => [.int .i64 z], fun z => ⟨rfl, fun v hv => by obtain rfl := List.mem_singleton.1 hv; exact ⟨.int _ _, rfl⟩⟩⟩
def runeR : Rp Int := ⟨1, fun z => [.int .i32 z], fun z => ⟨rfl, fun v hv => by obtain rfl := List.mem_singleton.1 hv; exact ⟨.int _ _, rfl⟩⟩⟩
def byteR : Rp Int := ⟨1, fun z => [.int .u8 z], fun z => ⟨rfl, fun v hv => by obtain rfl := List.mem_singleton.1 hv; exact ⟨.int _ _, rfl⟩⟩⟩
def boolR : Rp Bool := ⟨1, fun z => [.bool z], fun z => ⟨rfl, fun v hv => by obtain rfl := List.mem_singleton.1 hv; exact ⟨.bool _, rfl⟩⟩⟩
def nb (e : TypeId) (m g L : Nat) (ys : List (List V)) : Option Blk := if ys.length = 0 then some .hole else some (.cells e m g L ys)
theorem nrow_pos {t g k : Nat} (h : 0 < k) : nrow t g k = .row t g 0 k := if_neg (by omega)
theorem nb_pos {e : TypeId} {m g L : Nat} {ys : List (List V)} (h : 0 < ys.length) : nb e m g L ys = some (.cells e m g L ys) := if_neg (by omega)
inductive KeepE (E : AEnv) : List Nat → AEnv → Prop where
  | nil : KeepE E [] []
  | cons {k : Nat} {ks : List Nat} {v : V} {B : AEnv} (h : FV (lk E k) v) (hr : KeepE E ks B) : KeepE E (k :: ks) ((k, v) :: B)
def AllE (E' : AEnv) : AEnv → Prop
  | [] => True
  | p :: r => lk E' p.1 = p.2 ∧ AllE E' r
theorem AllE.at {E' : AEnv} : ∀ {C : AEnv}, AllE E' C → ∀ t, lk C t = .any ∨ lk E' t = lk C t
  | [], _, _ => .inl rfl
  | p :: r, h, t => by
    by_cases hp : p.1 = t
    · subst hp
      have hl : lk (p :: r) p.1 = p.2 := by simp [lk]
      rw [hl]
      exact .inr h.1
    · have hl : lk (p :: r) t = lk r t := by simp [lk, beq_no hp]
      rw [hl]
      exact AllE.at h.2 t
theorem KeepE.all {E : AEnv} {ks : List Nat} {B : AEnv} (h : KeepE E ks B) : AllE E B := by
  induction h with
  | nil => trivial
  | cons h _ ih => exact ⟨h, ih⟩
def AllV (n : Nat) : AEnv → Prop
  | [] => True
  | p :: r => Vlt n p.2 ∧ AllV n r
theorem AllV.at {n : Nat} : ∀ {C : AEnv}, AllV n C → ∀ t, Vlt n (lk C t)
  | [], _, _ => .any
  | p :: r, h, t => by
    by_cases hp : p.1 = t
    · subst hp
      have hl : lk (p :: r) p.1 = p.2 := by simp [lk]
      rw [hl]
      exact h.1
    · have hl : lk (p :: r) t = lk r t := by simp [lk, beq_no hp]
      rw [hl]
      exact AllV.at h.2 t
def AllS (N : Nat) (S' Sx : ASt) : ASt → Prop
  | [] => True
  | p :: r => (slk S' p.1 = p.2 ∧ p.1 < N ∧ (∀ b, p.2 = some b → BVlt N b) ∧ (p.2 = none → slk Sx p.1 = none)) ∧ AllS N S' Sx r
def SameS (ks : List Nat) (S' S : ASt) : Nat → Prop
  | 0 => True
  | k + 1 => SameS ks S' S k ∧ bif ks.contains k then True else slk S' k = slk S k
theorem SameS.at {ks : List Nat} {S' S : ASt} : ∀ {N : Nat}, SameS ks S' S N → ∀ id, id < N → id ∉ ks → slk S' id = slk S id
  | 0, _, id, h, _ => absurd h (Nat.not_lt_zero _)
  | N + 1, h, id, hid, hk => by
    rcases Nat.lt_or_eq_of_le (Nat.le_of_lt_succ hid) with q | q
    · exact SameS.at h.1 id q hk
    · subst q
      have := h.2
      rw [show ks.contains id = false by simpa using hk] at this
      exact this
theorem slk_app {C S : ASt} {id : Nat} : (id ∈ C.map (·.1) → slk (C ++ S) id = slk C id) ∧ (id ∉ C.map (·.1) → slk (C ++ S) id = slk S id) := by
  induction C with
  | nil => exact ⟨fun h => by simp at h, fun _ => rfl⟩
  | cons p r ih =>
    by_cases hp : p.1 = id
    · subst hp
      exact ⟨fun _ => by simp [slk], fun h => by simp at h⟩
    · have h1 : slk (p :: r ++ S) id = slk (r ++ S) id := by simp [slk, beq_no hp]
      have h2 : slk (p :: r) id = slk r id := by simp [slk, beq_no hp]
      rw [h1, h2]
      exact ⟨fun h => ih.1 (by simpa [Ne.symm hp] using h), fun h => ih.2 (by simp [Ne.symm hp] at h; simpa using h)⟩
theorem AllS.at {N : Nat} {S' Sx : ASt} : ∀ {C : ASt}, AllS N S' Sx C → ∀ id, id ∈ C.map (·.1) → slk S' id = slk C id ∧ id < N ∧ (∀ b, slk C id = some b → BVlt N b) ∧ (slk C id = none → slk Sx id = none)
  | [], _, id, h => by simp at h
  | p :: r, h, id, hid => by
    by_cases hp : p.1 = id
    · subst hp
      have hl : slk (p :: r) p.1 = p.2 := by simp [slk]
      rw [hl]
      exact h.1
    · have hl : slk (p :: r) id = slk r id := by simp [slk, beq_no hp]
      rw [hl]
      exact AllS.at h.2 id (by simpa [Ne.symm hp] using hid)
def upsA : ASt → List (Nat × Blk)
  | [] => []
  | (i, some b) :: r => upsA r ++ [(i, b)]
  | (_, none) :: r => upsA r
theorem upd_app : ∀ {us vs : List (Nat × Blk)} {s : Store}, upd s (us ++ vs) = upd (upd s us) vs
  | [], _, _ => rfl
  | _ :: us, _, _ => upd_app (us := us)
theorem upsA_at : ∀ {C : ASt} {s : Store} {id : Nat}, (∀ id, slk C id = none → id ∈ C.map (·.1) → s id = none) → (C.map (·.1)).Nodup → upd s (upsA C) id = if id ∈ C.map (·.1) then slk C id else s id
  | [], s, id, _, _ => by simp [upsA, upd]
  | (i, ob) :: r, s, id, h, hn => by
    simp only [List.map_cons, List.nodup_cons] at hn
    have hr : ∀ id, slk r id = none → id ∈ r.map (·.1) → s id = none := fun id h1 h2 => h id (by
      have : i ≠ id := fun q => hn.1 (q ▸ h2)
      simp [slk, beq_no this, h1]) (by simp only [List.map_cons, List.mem_cons]; exact .inr h2)
    have ih := upsA_at (C := r) (s := s) (id := id) hr hn.2
    have ihi := upsA_at (C := r) (s := s) (id := i) hr hn.2
    rw [if_neg hn.1] at ihi
    cases ob with
    | none =>
      simp only [upsA]
      rw [ih]
      by_cases hi : i = id
      · subst hi
        rw [if_neg hn.1, if_pos (by simp)]
        rw [h i (by simp [slk]) (by simp)]
        simp [slk]
      · have e : id ∈ ((i, (none : Option Blk)) :: r).map (·.1) ↔ id ∈ r.map (·.1) := by simp only [List.map_cons, List.mem_cons, Ne.symm hi, false_or]
        simp only [e, slk, beq_no hi, cond_false]
    | some b =>
      simp only [upsA]
      rw [upd_app]
      simp only [upd]
      by_cases hi : i = id
      · subst hi
        simp [slk]
      · rw [put_ne _ _ (Ne.symm hi), ih]
        have e : id ∈ ((i, some b) :: r).map (·.1) ↔ id ∈ r.map (·.1) := by simp only [List.map_cons, List.mem_cons, Ne.symm hi, false_or]
        simp only [e, slk, beq_no hi, cond_false]
theorem upsA_mem : ∀ {C : ASt} {p : Nat × Blk}, p ∈ upsA C → (p.1, some p.2) ∈ C
  | (i, some b) :: r, p, h => by
    rcases List.mem_append.1 h with q | q
    · exact List.mem_cons_of_mem _ (upsA_mem q)
    · obtain rfl := List.mem_singleton.1 q
      exact List.mem_cons_self
  | (i, none) :: r, p, h => List.mem_cons_of_mem _ (upsA_mem (C := r) h)
theorem slk_of_mem : ∀ {C : ASt} {i : Nat} {ob : Option Blk}, (C.map (·.1)).Nodup → (i, ob) ∈ C → slk C i = ob
  | p :: r, i, ob, hn, h => by
    simp only [List.map_cons, List.nodup_cons] at hn
    rcases List.mem_cons.1 h with rfl | h
    · simp [slk]
    · have : p.1 ≠ i := fun q => hn.1 (q ▸ List.mem_map.2 ⟨(i, ob), h, rfl⟩)
      simp only [slk, beq_no this, cond_false]
      exact slk_of_mem hn.2 h
end Go.Vm
