/-
  Functions that bring a row of their own. No program is named here. A range over a function, at the machine. No program is named here. A range over a function, in walks. No program is named here. A call that takes rows and brings one of its own. No program is named here.
-/
import Derived.Test.YtofcjmjokokajaaGreatQk
import Derived.RangeFuncBound
import Derived.RangeFuncNested
namespace Go.Vm
open Go.RowKit
theorem ble2 {L g : Nat} (h : L ≤ g) : (Nat.ble L g && Nat.ble g g) = true := by simp [Nat.ble_eq, h]
def VOwn (P : Program) (f : FuncId) (args : List V) (e : TypeId) (m k : Nat) (xs : List (List V)) : Prop :=
  ∀ w Sb us, (∀ b, Sb b → b < w.heap.size) → Rvs w Sb noG args us → Calls P f us.toArray w fun x w' => ∃ u Sb' G', x = .returned u ∧ Nxt w Sb noG noS w' Sb' G' (put noS 0 (.cells e m 0 0 xs)) ∧ Rv w' Sb' G' (.row 0 0 0 k) u
inductive ResL (P : Program) (N : Nat) (E : AEnv) (S : ASt) : List ResultVar → List V → Prop where
  | nil : ResL P N E S [] []
  | tmp {t : Nat} {w : V} {rs : List ResultVar} {ws : List V} (ht : Nat.blt t N = true) (hl : lk E t = w) (hr : ResL P N E S rs ws) : ResL P N E S (.tmp t :: rs) (w :: ws)
  | cell {a t id g e m G L : Nat} {cs : List V} {k : TK} {by' : Nat} {z : Option V} {rs : List ResultVar} {ws : List V} [h : TyI P t ⟨k, m, by', true, z⟩] (ht : Nat.blt a N = true) (hl : lk E a = .ptr id g 0 0) (hs : slk S id = some (.cells e m G L [cs])) (hg : (Nat.ble L g && Nat.ble g G) = true) (hm : cs.length = m) (hr : ResL P N E S rs ws) : ResL P N E S (.cell a t :: rs) (.agg cs :: ws)
theorem ResL.eq {P : Program} {N : Nat} {E : AEnv} {S : ASt} {rs : List ResultVar} {ws : List V} (h : ResL P N E S rs ws) : vresults P (slk S) (toL N E) rs = some ws := by
  induction h with
  | nil => rfl
  | tmp ht hl _ ih => simp only [vresults, vresult, toL_getD (by simpa [Nat.blt_eq] using ht) E, hl, ih]
  | @cell a t id g e m G L cs k by' z rs ws h ht hl hs hg hm _ ih =>
    simp only [Bool.and_eq_true, Nat.ble_eq] at hg
    subst hm
    simp only [vresults, vresult, toL_getD (by simpa [Nat.blt_eq] using ht) E, hl, ih, h.eq, vload, hs, if_pos hg, List.getElem?_cons_zero, Option.bind_some, vpart, Nat.zero_add, Nat.le_refl, if_true, List.drop_zero, List.take_length]
theorem ret_cell {P : Program} {N : Nat} {E : AEnv} {S : ASt} {n : Nat} {r : ResultVar} {w v : V} {x : Exit} (hx : x = .normal ∨ x = .ret) (hr : ResL P N E S [r] [w]) (hp : Pk (slk S) w v) : RetQ P N #[r] v x E S n := ⟨hx, [w], hr.eq, hp⟩
def RetO (P : Program) (N : Nat) (rs : Array ResultVar) (e : TypeId) (m k : Nat) (xs : List (List V)) : XPost := fun x E S _ => (x = .normal ∨ x = .ret) ∧ ∃ id g L, vresults P (slk S) (toL N E) rs.toList = some [.row id g 0 k] ∧ 1 ≤ id ∧ slk S id = some (.cells e m g L xs)
theorem ret_own {P : Program} {N : Nat} {e : TypeId} {m k : Nat} {xs : List (List V)} {E : AEnv} {S : ASt} {n t id g L : Nat} {x : Exit} (hx : x = .normal ∨ x = .ret) (ht : Nat.blt t N = true) (hl : lk E t = .row id g 0 k) (hid : Nat.ble 1 id = true) (hs : slk S id = some (.cells e m g L xs)) : RetO P N #[.tmp t] e m k xs x E S n :=
  ⟨hx, id, g, L, by simp only [vresults, vresult, toL_getD (by simpa [Nat.blt_eq] using ht) E, hl], by simpa [Nat.ble_eq] using hid, hs⟩
theorem a_own {P : Program} {f : FuncId} {fn : Func} {c : Code} {N : Nat} {rs : Array ResultVar} {args : List V} {e : TypeId} {m k : Nat} {xs : List (List V)} (hcl : ∀ cs ∈ xs, ∀ v ∈ cs, Vlt 0 v ∧ v.one = true) (hf : P.funcs[f]? = some fn) (h : awp P N c (RetO P N rs e m k xs) (argE 0 args) [] 1) (hb : fn.body = some c := by rfl) (hN : fn.ntmps = N := by rfl) (hr : fn.results = rs := by rfl) (hl : Nat.ble args.length N = true := by rfl) (hc : chkA N c = true := by kernel_rfl) : VOwn P f args e m k xs := by
  subst hN hr
  intro w Sb us hsub hargs
  have hs : WSim w Sb noG noS := .none hsub
  have hlen := hargs.1
  have hfree : Free noS noG 1 := fun _ _ => ⟨rfl, fun _ => rfl⟩
  refine calls_vwp hf hb (vwp_env (args_sub (by simpa [Nat.ble_eq] using hl)) (h hc)) ?_ hs hfree ?_
  · have : us.toArray.toList ++ List.replicate (fn.ntmps - us.toArray.size) undef = us ++ List.replicate (fn.ntmps - args.length) undef := by simp [hlen]
    rw [this]
    exact hargs.append ⟨by simp, fun i v u a b => by
      rw [List.getElem?_replicate] at a b
      split at a
      · rename_i hi
        rw [if_pos hi] at b
        cases a
        cases b
        exact undef_rv
      · cases a⟩
  · rintro x _ _ n' Sb' G' w' tmps ⟨E', S', rfl, rfl, hx, id, g, L, hvs, hid, hst⟩ r1 r2
    obtain ⟨u, q1, q2⟩ := results_rv (P := P) (a := ⟨tmps, []⟩) r2.nxt.sim r1 hvs
    simp only [vjoin] at q2
    have hbk := r2.nxt.sim.blk id _ hst
    have hcl' : Closes noS 0 1 (slk S') (.row id g 0 k) (.row 0 0 0 k, [(0, .cells e m 0 0 xs)], 1) := by
      refine ⟨[id], [], [.cells e m 0 0 xs], rfl, rfl, fun p hp => by simp at hp, by simp, fun q hq => by obtain rfl := List.mem_singleton.1 hq; exact hid, rfl, ?_, fun i h1 h2 => by simp at h2; omega, fun j q b hj hb => ?_⟩
      · refine .row ?_
        unfold nm
        rw [show List.idxOf? id [id] = some 0 by simp [List.idxOf?_cons], hst]
        simp
      · have hj0 : j = 0 := by have := (List.getElem?_eq_some_iff.1 hj).1; simp at this; omega
        subst hj0
        simp at hj hb
        subst hj hb
        exact ⟨_, hst, .cells (RnX.keep fun cs hc v hv => ⟨(hcl cs hc v hv).1.mono (Nat.zero_le 1), (hcl cs hc v hv).2⟩), .inr rfl⟩
    obtain ⟨G2, Sb2, t1, t2, _⟩ := close hs hfree (fun i _ _ => .inl ⟨rfl, fun _ => rfl⟩) (Nat.le_refl 1) r2 q2 hcl'
    have hres : Nxt w Sb noG noS w' Sb2 G2 (put noS 0 (.cells e m 0 0 xs)) := t1
    exact ⟨hx, u, q1, u, Sb2, G2, rfl, hres, t2⟩
theorem VOwn.call {P : Program} {f : FuncId} {args : List V} {e : TypeId} {m k : Nat} {xs : List (List V)} (h : VOwn P f args e m k xs) (hcl : ∀ cs ∈ xs, ∀ v ∈ cs, Vlt 0 v ∧ v.one = true) (ha : ∀ a ∈ args, Vlt 0 a) (st : Store) (n : Nat) : VCall P f args st n (.row n 0 0 k, [(n, .cells e m 0 0 xs)], n + 1) := by
  intro w Sb G us N hs hfr hN1 hN2 hN3 hargs
  refine (h w Sb us hs.sub ⟨hargs.1, fun i v u q r => (ha v (List.mem_of_getElem? q)).rv (hargs.2 i v u q r) (fun id k E hid => absurd hid (by omega))⟩).mono ?_
  rintro x w' ⟨u, Sb', G', rfl, hN, hv⟩
  have hk : ∀ b, b < w.heap.size → w'.heap[b]? = w.heap[b]? := fun b hb => hN.keep b hb not_own
  obtain ⟨hst0, hG0⟩ := hfr n (Nat.le_refl n) (Nat.lt_succ_self n)
  let G2 : Gh := fun id j => if id = n then G' 0 j else G id j
  have g2n : ∀ j, G2 n j = G' 0 j := fun j => by simp [G2]
  have g2o : ∀ id j, id ≠ n → G2 id j = G id j := fun id j h => by simp [G2, h]
  have hbk := hN.sim.blk 0 _ (put_same noS 0 _)
  have hnew : ∀ j E, live (put noS 0 (.cells e m 0 0 xs)) 0 j → G' 0 j = some E → w.heap.size ≤ E.blk ∧ ¬ Sb' E.blk := fun j E h1 h2 =>
    ⟨(hN.own E.blk ⟨0, j, E, h1, h2, rfl⟩).elim (fun q => (not_own q).elim) fun q => q, hN.sim.off 0 j E h1 h2⟩
  have hl0 : ∀ j, live (put st n (.cells e m 0 0 xs)) n j → live (put noS 0 (.cells e m 0 0 xs)) 0 j := fun j h => by
    unfold live at h ⊢
    rw [put_same] at h ⊢
    exact h
  have hlo : ∀ id j, id ≠ n → live (put st n (.cells e m 0 0 xs)) id j → live st id j := fun id j hne h => by
    unfold live at h ⊢
    rw [put_ne _ _ hne] at h
    exact h
  have hGm : ∀ id j E, G id j = some E → G2 id j = some E := fun id j E hE => by
    by_cases hi : id = n
    · subst hi; rw [hG0 j] at hE; cases hE
    · rw [g2o id j hi]; exact hE
  have hsb : ∀ b, Sb' b → Sb b ∨ w.heap.size ≤ b := fun b hb => (hN.sbn b hb).elim .inl fun q => q.elim (fun q => (not_own q).elim) .inr
  have hrow : ∀ {v : V} {x : Value}, Vlt 0 v → Rv w' Sb' G' v x → Rv w' Sb' G2 v x := fun hc hx => hc.rv hx (fun id k E hid => absurd hid (by omega))
  refine ⟨u, Sb', G2, rfl, ⟨⟨hN.sim.sub, fun id b hb => ?_, fun id j E hl hE => ?_, fun id j E id' j' E' h1 h2 h3 h4 h5 => ?_⟩, hN.os, hN.tape, hN.output, hN.size, fun b hb _ => hk b hb, fun b ⟨id, j, E, q1, q2, q3⟩ => ?_, hN.sb, hGm, fun b hb => (hsb b hb).elim .inl fun q => .inr (.inr q)⟩, ?_, fun id j hid hs0 => g2o id j (by simp only at hid; omega)⟩
  · simp only [upd] at hb
    by_cases hi : id = n
    · subst hi
      rw [put_same] at hb
      cases hb
      obtain ⟨q1, q2, q3, q4, q5, q6⟩ := hbk
      refine ⟨q1, q2, q3, fun j a b => ?_, fun E hE => q5 E (by rw [← g2n 0]; exact hE), fun j hj => (g2n j).trans (q6 j hj)⟩
      obtain ⟨E, r1, cur, t1, t2, t3, t4, t5, t6, t7⟩ := q4 j a b
      exact ⟨E, (g2n j).trans r1, cur, t1, t2, t3, t4, t5, t6, fun i cs j' v c1 c2 c3 => by
        obtain ⟨x, y1, y2⟩ := t7 i cs j' v c1 c2 c3
        exact ⟨x, y1, hrow (hcl cs (List.mem_of_getElem? c2) v (List.mem_of_getElem? c3)).1 y2⟩⟩
    · rw [put_ne _ _ hi] at hb
      exact (hs.blk id b hb).mono (fun j E q1 q2 => hk _ (hs.own_lt ⟨id, j, E, by unfold live at q2 ⊢; rw [hb]; exact q2, q1, rfl⟩)) (fun b hb => hk b (hs.sub b hb)) hN.sb hGm (fun j => g2o id j hi)
  · simp only [upd] at hl
    by_cases hi : id = n
    · subst hi
      rw [g2n] at hE
      exact (hnew j E (hl0 j hl) hE).2
    · rw [g2o id j hi] at hE
      have hl' := hlo id j hi hl
      have hlt := hs.own_lt ⟨id, j, E, hl', hE, rfl⟩
      intro q
      rcases hsb _ q with q | q
      · exact hs.off id j E hl' hE q
      · omega
  · simp only [upd] at h1 h2
    by_cases hi : id = n
    · by_cases hi' : id' = n
      · rw [hi, hi']
      · subst hi
        rw [g2n] at h3
        rw [g2o id' j' hi'] at h4
        have := (hnew j E (hl0 j h1) h3).1
        have := hs.own_lt ⟨id', j', E', hlo id' j' hi' h2, h4, rfl⟩
        omega
    · by_cases hi' : id' = n
      · subst hi'
        rw [g2n] at h4
        rw [g2o id j hi] at h3
        have := (hnew j' E' (hl0 j' h2) h4).1
        have := hs.own_lt ⟨id, j, E, hlo id j hi h1, h3, rfl⟩
        omega
      · rw [g2o id j hi] at h3
        rw [g2o id' j' hi'] at h4
        exact hs.dis _ _ _ _ _ _ (hlo id j hi h1) (hlo id' j' hi' h2) h3 h4 h5
  · simp only [upd] at q1
    by_cases hi : id = n
    · subst hi
      rw [g2n] at q2
      exact .inr (q3 ▸ (hnew j E (hl0 j q1) q2).1)
    · rw [g2o id j hi] at q2
      exact .inl ⟨id, j, E, hlo id j hi q1, q2, q3⟩
  · cases hv with
    | row g1 g2 g3 g4 g5 g6 => exact .row ((g2n 0).trans g1) g2 g3 g4 g5 g6
section
variable {P : Program} {N : Nat} {ops : Array Oper} {m0 : Bool} {K : APost} {l : List Oper} {E : AEnv} {S S' : ASt} {n n' : Nat}
theorem ar_own {d m k : Nat} {f : FuncId} {cargs : Array Operand} {ts : Array TypeId} {ty : TypeId} {pos : String} {aft : Array Edge} {args : List V} {e : TypeId} {xs : List (List V)} (h : VOwn P f args e m k xs) (hcl : ∀ cs ∈ xs, ∀ v ∈ cs, Vlt 0 v ∧ v.one = true) (K' : arun P N ops m0 K l ((d, .row n 0 0 k) :: E) ((n, some (.cells e m 0 0 xs)) :: S) (n + 1)) (hx : cargs.toList.map (aev E) = args := by rfl) (ha : VltL args := by repeat' first | exact trivial | exact Vlt.int _ _ | exact Rp.lt _ _ _ _ | exact Rp.agg _ _ _ | exact Vlt.bool _ | exact Vlt.str _ | exact Vlt.nil | refine And.intro ?_ ?_) (hp : plainFunc P f = true := by kernel_rfl) : arun P N ops m0 K (⟨some d, .call ⟨.value (.func f), cargs, ts⟩, ty, pos, aft, none⟩ :: l) E S n := fun hl => by
  simp only [List.all_cons, Bool.and_eq_true] at hl
  simp only [vrun, vwanted, isCall]
  refine ⟨(.row n 0 0 k, [(n, .cells e m 0 0 xs)], n + 1), .inl (.call rfl rfl hp (fun st2 _ => ?_) (Nat.le_succ n)), Nat.le_succ n, fun p hp => .inl (by obtain rfl := List.mem_singleton.1 hp; exact ⟨Nat.le_refl _, Nat.lt_succ_self _⟩), ?_⟩
  · rw [List.nil_append, List.append_nil, call_args hl.1, hx]
    exact h.call hcl ha.all st2 n
  · simp only [vput, toL_set, upd_one]
    exact K' hl.2
end
end Go.Vm
namespace Go.Vm
open Go.RowKit
theorem hid {p : Prop} (h : p) : Hid p := h
structure Kv (O O' : Nat → Prop) (W W' : World) : Prop where
  size : W.heap.size ≤ W'.heap.size
  keep : ∀ (b : Nat) (cs : Array Value) (T : TypeId) (fr : Nat × Nat), W.heap[b]? = some (.cells cs T fr) → ¬ O b → W'.heap[b]? = some (.cells cs T fr)
  own : ∀ b, O' b → O b ∨ W.heap.size ≤ b
theorem heap_ltV {W : World} {g : Nat} {o : Obj} (h : W.heap[g]? = some o) : g < W.heap.size := (Array.getElem?_eq_some_iff.1 h).1
theorem Kv.refl (O : Nat → Prop) (W : World) : Kv O O W W := ⟨Nat.le_refl _, fun _ _ _ _ h _ => h, fun _ h => .inl h⟩
theorem Kv.trans {O O' O2 : Nat → Prop} {A B C : World} (h : Kv O O' A B) (k : Kv O' O2 B C) : Kv O O2 A C where
  size := Nat.le_trans h.size k.size
  keep := fun b cs T fr hc ho => k.keep b cs T fr (h.keep b cs T fr hc ho) fun q => (h.own b q).elim ho fun q => by have := heap_ltV hc; omega
  own := fun b hb => (k.own b hb).elim (h.own b) fun q => .inr (Nat.le_trans h.size q)
theorem Kv.alloc (O : Nat → Prop) (W : World) (o : Obj) : Kv O O W (W.alloc o) :=
  ⟨by simp, fun b cs T fr h _ => (Below.heap_alloc W o b (heap_ltV h)).trans h, fun _ h => .inl h⟩
theorem cells_of_cell {W : World} {p : Addr} {x : Value} (h : W.cell? p = some x) : ∃ cs T fr, W.heap[p.block]? = some (.cells cs T fr) := by
  unfold World.cell? at h
  cases hh : W.heap[p.block]? with
  | none => rw [hh] at h; cases h
  | some o =>
    rw [hh] at h
    cases o <;> first | exact ⟨_, _, _, rfl⟩ | cases h
theorem Kv.cell {O O' : Nat → Prop} {W W' : World} (h : Kv O O' W W') {p : Addr} {x : Value} (hc : W.cell? p = some x) (ho : ¬ O p.block) : W'.cell? p = some x := by
  obtain ⟨cs, T, fr, hh⟩ := cells_of_cell hc
  rw [← hc]
  unfold World.cell?
  rw [hh, h.keep _ cs T fr hh ho]
def IterV (P : Program) (gf : Nat) (cap : List V) (zs : List (List Int)) : Prop :=
  ∀ (l : Nat) (J : Nat → World → (Nat → Prop) → Prop) (Jx : World → Prop) (W : World) (Sb : Nat → Prop) (G : Gh) (us : List Value) (O : Nat → Prop), Rvs W Sb G cap us → (∀ b, Sb b → ¬ O b) →
    (∀ k z W O, zs[k]? = some z → J k W O → YieldAt Fence.wide 0 P l (z.map (Value.int .i64)).toArray W fun e W' => (e = .returned (.bool true) ∧ ∃ O', J (k + 1) W' O' ∧ Kv O O' W W') ∨ (e = .returned (.bool false) ∧ Jx W')) →
    (∀ k W O o, J k W O → J k (W.alloc o) O) → (∀ k W O, J k W O → ∀ b, O b → b < W.heap.size) → J 0 W O →
    CallsIn Fence.wide 1 P gf (#[.func (.yield l) #[] #[]] ++ us.toArray) W fun e W' => (∃ v, e = .returned v) ∧ ((∃ O', J zs.length W' O') ∨ Jx W')
section
variable {w w' : World} {Sb Sb' : Nat → Prop} {G G' : Gh} {s s' : Store} {n n' D : Nat}
theorem On.turn2 (h : On w Sb G s n w' Sb' G' s' n') (hD : D < w.heap.size) (hS : ¬ Sb' D) (hO : ¬ Own s' G' D) (o : Obj) : On (w.putObj D o) Sb G s n (w'.putObj D o) Sb' G' s' n' ∧ ∀ b, Sb' b → (w'.putObj D o).heap[b]? = w'.heap[b]? := by
  have hb : ∀ b, Sb' b → (w'.putObj D o).heap[b]? = w'.heap[b]? := fun b q => World.putObj_heap_other fun e => hS (e ▸ q)
  have hl : ∀ id k E, live s' id k → G' id k = some E → (w'.putObj D o).heap[E.blk]? = w'.heap[E.blk]? := fun id k E q1 q2 => World.putObj_heap_other fun e => hO ⟨id, k, E, q1, q2, e⟩
  have hsim : WSim (w'.putObj D o) Sb' G' s' := by
    refine ⟨fun b q => by rw [World.putObj_size]; exact h.nxt.sim.sub b q, fun id b q => (h.nxt.sim.blk id b q).mono (fun k E q1 q2 => hl id k E (by unfold live at q2 ⊢; rw [q]; exact q2) q1) hb (fun _ h => h) (fun _ _ _ h => h) (fun _ => rfl), h.nxt.sim.off, h.nxt.sim.dis⟩
  refine ⟨⟨⟨hsim, h.nxt.os, h.nxt.tape, h.nxt.output, by rw [World.putObj_size, World.putObj_size]; exact h.nxt.size, fun b q1 q2 => ?_, fun b q => by rw [World.putObj_size]; exact h.nxt.own b q, h.nxt.sb, h.nxt.gh, fun b q => by rw [World.putObj_size]; exact h.nxt.sbn b q⟩, h.free, h.le, h.dead⟩, hb⟩
  rw [World.putObj_size] at q1
  by_cases he : b = D
  · subst he
    rw [World.putObj_heap_same hD, World.putObj_heap_same (Nat.lt_of_lt_of_le hD h.nxt.size)]
  · rw [World.putObj_heap_other he, World.putObj_heap_other he]
    exact h.nxt.keep b q1 q2
theorem On.alloc (h : On w Sb G s n w' Sb' G' s' n') (o : Obj) : On w Sb G s n (w'.alloc o) Sb' G' s' n' :=
  ⟨h.nxt.trans (Nxt.frame h.nxt.sim rfl rfl rfl (by simp) (fun b hb => Below.heap_alloc w' o b hb) (fun b hb => by have := h.nxt.sim.sub b hb; simp; omega) (fun _ h => h) (fun b hb => .inl hb)), h.free, h.le, h.dead⟩
theorem On.apart (h : On w Sb G s n w' Sb' G' s' n') (hD : D < w.heap.size) (hS : ¬ Sb D) (hO : ¬ Own s G D) : ¬ Sb' D ∧ ¬ Own s' G' D ∧ w'.heap[D]? = w.heap[D]? :=
  ⟨fun q => (h.nxt.sbn D q).elim hS fun q => q.elim hO fun q => by omega, fun q => (h.nxt.own D q).elim hO fun q => by omega, h.nxt.keep D hD hO⟩
end
def putps (e : List V) : List Tmp → List Int → List V
  | p :: ps, z :: zs => putps (e.set p (.int .i64 z)) ps zs
  | _, _ => e
theorem putps_rv {w : World} {Sb : Nat → Prop} {G : Gh} : ∀ {ps : List Tmp} {zs : List Int} {e : List V} {tmps : Array Value}, Rvs w Sb G e tmps.toList → Rvs w Sb G (putps e ps zs) ((ps.zip (zs.map (Value.int .i64))).foldl (fun t (p, v) => t.setIfInBounds p v) tmps).toList
  | [], _, e, tmps, h => by simpa [putps] using h
  | p :: ps, [], e, tmps, h => by simpa [putps] using h
  | p :: ps, z :: zs, e, tmps, h => by
    simp only [putps, List.map_cons, List.zip_cons_cons, List.foldl_cons]
    refine putps_rv ?_
    refine ⟨by simpa using h.1, fun i v u a b => ?_⟩
    rw [Array.toList_setIfInBounds] at b
    rw [List.getElem?_set] at a b
    split at a
    · rename_i hi
      subst hi
      rw [if_pos rfl] at b
      split at a
      · split at b
        · cases a; cases b; exact .int _ _
        · cases b
      · cases a
    · rename_i hi
      rw [if_neg hi] at b
      exact h.2 i v u a b
section
variable {P : Program} {Q : VPost} {e : List V} {s : Store} {n : Nat}
def RndV {σ : Type} (ok : Nat → σ → Prop) (S : σ → Store) (Q : VPost) (e : List V) (N k : Nat) (x : σ) : VPost := fun ex _ s' n' => match ex with
  | .normal => ∃ y, ok (k + 1) y ∧ Ends N (S x) [] s' [] (S y)
  | .ret => Q .ret e s' n'
  | .exit id => Q (.exit id) e s' n'
  | _ => False
theorem vwp_range {g : Operand} {ps : Array Tmp} {assign body : Code} {gf : Nat} {cap : List V} {zs : List (List Int)} {σ : Type} (ok : Nat → σ → Prop) (S : σ → Store) (x0 : σ)
    (hg : veval e g = .func (.func gf) [] cap) (hit : IterV P gf cap zs) (hp : plainFunc P gf = true) (hps : ∀ z ∈ zs, z.length = ps.size) (ha : noRF assign = true) (hb : noRF body = true) (hs : s = S x0) (h0 : ok 0 x0)
    (round : ∀ k z x, zs[k]? = some z → ok k x → vwp P assign (fun ex e1 s1 n1 => ex = .normal ∧ vwp P body (RndV ok S Q e n k x) e1 s1 n1) (putps e ps.toList z) (S x) n)
    (done : ∀ x, ok zs.length x → Q .normal e (S x) n) : vwp P (.rangeFunc g ps assign body) Q e s n := fun rd md B a w Sb G hrd h1 h2 h3 h4 => by
  obtain rfl : rd = none := hrd.resolve_right (by simp [noRF])
  subst hs
  have hev := eval_rv h1 g
  rw [hg] at hev
  obtain ⟨fv, hfv⟩ : ∃ fv, a.eval g = fv := ⟨_, rfl⟩
  rw [hfv] at hev
  cases hev with
  | @func _ _ _ us vs g1 g2 g3 g4 =>
  obtain rfl : us = #[] := Array.eq_empty_of_size_eq_zero (by simpa using g1)
  have hcap : Rvs w Sb G cap vs.toList := ⟨by simpa using g2, fun i v u q r => g4 i v u q (by simpa using r)⟩
  refine wpIn_rangeFunc ?_
  intro fn hfn
  obtain ⟨rec, hrec⟩ : ∃ rec : LoopState → Option Code → Loop, rec = fun st pe => { state := st, pending := pe, fn, tmps := a.tmps, params := ps, assign, body, defers := w.heap.size } := ⟨_, rfl⟩
  obtain ⟨D, hD⟩ : ∃ D, D = w.heap.size := ⟨_, rfl⟩
  have hon0 : On w Sb G (S x0) n ((w.alloc (.deferred (some []))).alloc (.loop (rec .ready none))) Sb G (S x0) n := ((On.refl h2 h3).alloc _).alloc _
  have hsb0 : ∀ b, Sb b ∨ Own (S x0) G b → b < D := fun b q => hD ▸ q.elim (h2.sub b) h2.own_lt
  let R : Nat → World → (Nat → Prop) → Prop := fun k W O => ∃ x Sb1 G1, ok k x ∧ O = Own (S x) G1 ∧ On w Sb G (S x0) n W Sb1 G1 (S x) n ∧ (¬ Sb1 D ∧ ¬ O D) ∧ (¬ Sb1 (D + 1) ∧ ¬ O (D + 1)) ∧
    W.heap[D + 1]? = some (.loop (rec .ready none)) ∧ W.heap[D]? = some (.deferred (some []))
  let Rx : World → Prop := fun W => ∃ c Sb1 G1 s1 n1, (c = .ret ∧ Q .ret e s1 n1 ∨ ∃ id, c = .exit id ∧ Q (.exit id) e s1 n1) ∧ On w Sb G (S x0) n W Sb1 G1 s1 n1 ∧ (¬ Sb1 D ∧ ¬ Own s1 G1 D) ∧ (¬ Sb1 (D + 1) ∧ ¬ Own s1 G1 (D + 1)) ∧
    W.heap[D + 1]? = some (.loop (rec .done (some c))) ∧ W.heap[D]? = some (.deferred (some []))
  have hfin : ∀ (W : World) (Sb1 : Nat → Prop) (G1 : Gh) (s1 : Store) (n1 : Nat) (pe : Option Code) (st : LoopState), On w Sb G (S x0) n W Sb1 G1 s1 n1 → (¬ Sb1 D ∧ ¬ Own s1 G1 D) → (¬ Sb1 (D + 1) ∧ ¬ Own s1 G1 (D + 1)) → W.heap[D + 1]? = some (.loop (rec st pe)) → W.heap[D]? = some (.deferred (some [])) → st ≠ .busy →
      ∃ W4, (Instr.endLoop (D + 1)).run P W = .ok pe W4 ∧ Rvs W4 Sb1 G1 e a.tmps.toList ∧ On w Sb G (S x0) n W4 Sb1 G1 s1 n1 ∧ Marks B W4 Sb1 G1 s1 ({ target := .collected D, args := #[] } :: a.defers) := fun W Sb1 G1 s1 n1 pe st ho k1 k2 k3 k4 hst => by
    have hr := run_endLoop (P := P) k3 (by rw [hrec]; exact hst)
    rw [hrec] at hr
    obtain ⟨t1, t2⟩ := ho.turn (D := D + 1) (by omega) k2.1 k2.2 (.loop (rec .exhausted pe))
    rw [hrec] at t1 t2
    refine ⟨_, hr, t1.nxt.rvs h2 h1, t1, ?_⟩
    have hm := h4.nxt t1.nxt
    have hlt : D < W.heap.size := (Array.getElem?_eq_some_iff.1 k4).1
    refine ⟨hm.base, List.nodup_cons.2 ⟨fun hd => ?_, hm.nodup⟩, fun d hd => ?_⟩
    · obtain ⟨D2, q1, q2, q3, q4, q5, q6⟩ := h4.mark _ hd
      cases q1
      omega
    · rcases List.mem_cons.1 hd with rfl | hd
      · exact ⟨D, rfl, by have := h4.base; omega, by rw [World.putObj_size]; exact hlt, k1.1, k1.2, (World.putObj_heap_other (by omega)).trans k4⟩
      · exact hm.mark d hd
  obtain ⟨W1, hW1⟩ : ∃ W1, W1 = (w.alloc (.deferred (some []))).alloc (.loop (rec .ready none)) := ⟨_, rfl⟩
  rw [← hW1] at hon0
  have hL1 : W1.heap[D + 1]? = some (.loop (rec .ready none)) := by
    have := World.alloc_heap_new (w.alloc (.deferred (some []))) (.loop (rec .ready none))
    rw [World.size_alloc] at this
    rw [hW1, hD]
    exact this
  have hK1 : W1.heap[D]? = some (.deferred (some [])) := by
    rw [hW1, hD]
    exact (Below.heap_alloc _ _ _ (by simp)).trans (World.alloc_heap_new w _)
  have hR0 : R 0 W1 (Own (S x0) G) := ⟨x0, Sb, G, h0, rfl, hon0, ⟨fun q => by have := hsb0 D (.inl q); omega, fun q => by have := hsb0 D (.inr q); omega⟩, ⟨fun q => by have := hsb0 _ (.inl q); omega, fun q => by have := hsb0 _ (.inr q); omega⟩, hL1, hK1⟩
  have eg : ∀ args w, (callFunc gf args).run P w = .ok (.enter gf args) w := fun args w => by
    unfold plainFunc at hp
    split at hp
    · rename_i fn' hfn'
      simp only [Bool.and_eq_true, bne_iff_ne, ne_eq] at hp
      obtain ⟨p1, p2⟩ := hp
      simp [callFunc, hfn', p1]
      intro hb'
      rw [hb'] at p2
      cases p2
    · cases hp
  refine ⟨D + 1, [{ target := .collected D, args := #[] }], W1, { target := .fn (.func gf) vs, args := #[.func (.yield (D + 1)) #[] #[]] }, W1, gf,
    #[.func (.yield (D + 1)) #[] #[]] ++ vs, W1, ?_, ?_, fun f _ => fo_fn none f, ?_, fun hh => absurd hh (fo_depth none), ?_⟩
  · rw [hW1, hrec, hD]; exact run_enterLoop_outer _ _ _ _ _
  · simp only [resolve, hfv]
    simp [go_sem]
  · simp [invoke, go_sem, eg]
  · have hcall := hit (D + 1) R Rx W1 Sb G vs.toList (Own (S x0) G) (hon0.nxt.rvs h2 hcap) (fun b q1 q2 => by
      obtain ⟨id, k, E, r1, r2, r3⟩ := q2
      exact h2.off id k E r1 r2 (r3 ▸ q1)) ?round ?alloc ?small hR0
    · refine callsIn_wide.2 ((callsIn_wide.1 (by simpa using hcall)).mono ?_)
      rintro ex W2 ⟨⟨v, rfl⟩, ⟨O', x, Sb1, G1, k1, k2, k3, k5, k6, k7, k8⟩ | ⟨c, Sb1, G1, s1, n1, k1, k3, k5, k6, k7, k8⟩⟩
      · subst k2
        obtain ⟨W4, r1, r2, r3, r4⟩ := hfin W2 Sb1 G1 _ _ _ _ k3 k5 k6 k7 k8 (by simp)
        exact ⟨none, W4, r1, by simp, e, S x, n, Sb1, G1, done x k1, r2, r3, r4⟩
      · obtain ⟨W4, r1, r2, r3, r4⟩ := hfin W2 Sb1 G1 _ _ _ _ k3 k5 k6 k7 k8 (by simp)
        refine ⟨some c, W4, r1, ?_⟩
        rcases k1 with ⟨rfl, k1⟩ | ⟨id, rfl, k1⟩
        · exact wpIn_ret ⟨by simp, e, s1, n1, Sb1, G1, k1, r2, r3, r4⟩
        · exact wpIn_exit ⟨by simp, e, s1, n1, Sb1, G1, k1, r2, r3, r4⟩
    case alloc =>
      rintro k W O o ⟨x, Sb1, G1, k1, k2, k3, k5, k6, k7, k8⟩
      exact ⟨x, Sb1, G1, k1, k2, k3.alloc o, k5, k6, (Below.heap_alloc W o _ (Array.getElem?_eq_some_iff.1 k7).1).trans k7, (Below.heap_alloc W o _ (Array.getElem?_eq_some_iff.1 k8).1).trans k8⟩
    case small =>
      rintro k W O ⟨x, Sb1, G1, k1, k2, k3, k5, k6, k7, k8⟩ b hb
      subst k2
      exact k3.nxt.sim.own_lt hb
    case round =>
      rintro k z W O hz ⟨x, Sb1, G1, k1, rfl, k3, k5, k6, k7, k8⟩
      have hy := run_yield (P := P) (args := (z.map (Value.int .i64)).toArray) k7 (by rw [hrec]; simpa using hps z (List.mem_of_getElem? hz))
      rw [hrec] at hy
      have hlt1 : D + 1 < W.heap.size := (Array.getElem?_eq_some_iff.1 k7).1
      refine ⟨fn, _, assign, body, hy, roundIn_of_wpIn trivial ?_⟩
      clear hy
      refine wpIn_mono (round k z x hz k1 (some (D + 1)) 0 0 _ W Sb1 G1 (.inr ha) (by have := putps_rv (ps := ps.toList) (zs := z) (k3.nxt.rvs h2 h1); rw [← Array.foldl_toList]; simpa using this) k3.nxt.sim k3.free ⟨Nat.zero_le _, List.nodup_nil, by simp⟩) ?_
      rintro ex a1 Wa ⟨-, e1, s1, n1, Sb2, G2, ⟨rfl, hbody⟩, r1, r2, r3⟩
      obtain ⟨p1, p2, p3⟩ := r2.apart hlt1 k6.1 k6.2
      have hla := p3.trans k7
      refine ⟨_, run_beginRound hla (by rw [hrec]), ?_⟩
      obtain ⟨busy, hbusy⟩ : ∃ o, o = Obj.loop { rec .ready none with state := .busy } := ⟨_, rfl⟩
      rw [← hbusy]
      obtain ⟨t1, t2⟩ := r2.turn2 hlt1 p1 p2 busy
      refine wpIn_mono (hbody (some (D + 1)) 0 0 a1 _ Sb2 G2 (.inr hb) (r1.mono t2 (fun _ h => h) (fun _ _ _ h => h)) t1.nxt.sim t1.free ⟨Nat.zero_le _, r3.nodup, fun d hd => ?_⟩) ?_
      · obtain ⟨D2, q1, q2, q3, q4, q5, q6⟩ := r3.mark d hd
        refine ⟨D2, q1, q2, by rw [World.putObj_size]; exact q3, q4, q5, (World.putObj_heap_other fun hh => ?_).trans q6⟩
        subst hh
        rw [hla] at q6
        cases q6
      rintro ex2 a2 W3 ⟨t0, e2, s2, n2, Sb3, G3, hq, q1, q2, q3⟩
      have hon := t1.trans q2
      have hltb : D + 1 < (W.putObj (D + 1) busy).heap.size := by rw [World.putObj_size]; exact hlt1
      obtain ⟨v1, v2, v3⟩ := hon.apart (D := D + 1) hltb k6.1 k6.2
      obtain ⟨v4, v5, v6⟩ := hon.apart (D := D) (by omega) k5.1 k5.2
      rw [World.putObj_heap_same hlt1] at v3
      rw [World.putObj_heap_other (by omega), k8] at v6
      have hwb := (k3.turn (D := D + 1) (by omega) k6.1 k6.2 busy).1
      have hlt3 : D + 1 < W3.heap.size := (Array.getElem?_eq_some_iff.1 v3).1
      have hend : ∀ jump : Option Code, (Instr.endRound (D + 1) jump).run P W3 = .ok (.bool jump.isNone) (W3.putObj (D + 1) (.loop (rec (if jump.isNone then .ready else .done) jump))) := fun jump => by
        have := run_endRound (P := P) jump (v3.trans (by rw [hbusy]))
        rw [hrec] at this ⊢
        exact this
      have hjump : ∀ c, (c = .ret ∧ Q .ret e s2 n2 ∨ ∃ id, c = .exit id ∧ Q (.exit id) e s2 n2) → Rx (W3.putObj (D + 1) (.loop (rec .done (some c)))) := fun c hc =>
        ⟨c, Sb3, G3, s2, n2, hc, ((hwb.trans hon).turn (D := D + 1) (by omega) v1 v2 _).1, ⟨v4, v5⟩, ⟨v1, v2⟩, World.putObj_heap_same hlt3, (World.putObj_heap_other (by omega)).trans v6⟩
      cases ex2 with
      | normal =>
        obtain ⟨y, hok, t, ups, tt, u2, u3, u4, hSy⟩ := hq
        have hon2 := (hon.turn2 hltb v1 v2 (.loop (rec .ready none))).1
        have hwb2 := (hwb.turn (D := D + 1) (by omega) k6.1 k6.2 (.loop (rec .ready none))).1
        obtain ⟨G4, Sb4, c1, c2, c3, c4⟩ := close hwb2.nxt.sim hwb2.free (fun id a b => .inr (u3 id a b)) u2 hon2 (v := .tuple []) (u := .tuple #[]) (.tuple rfl fun i v u a => by simp at a) u4
        simp only at c1 c3 c4
        refine ⟨_, _, hend none, .inl ⟨rfl, Own (S y) G4, ⟨y, Sb4, G4, hok, rfl, ?_, ?_, ?_, World.putObj_heap_same hlt3, (World.putObj_heap_other (by omega)).trans v6⟩, ?_⟩⟩
        · obtain ⟨ks, us, bs, z1, z2, z3, z4, z5, z6, z7, z8, z9⟩ := u4
          simp only at z1 z2
          refine ⟨hSy ▸ hwb2.nxt.trans c1, fun id hid => ?_, by omega, fun id hid hs0 => ?_⟩
          · have hu : upd (S x) ups id = none := by
              rw [upd_ne]
              · exact (k3.free id hid).1
              · rintro p hp rfl
                rw [z1] at hp
                rcases List.mem_append.1 hp with hp | hp
                · have := z3 p hp; omega
                · have := numbered_keys p hp; omega
            refine ⟨hSy ▸ hu, fun k => ?_⟩
            rw [c3 id k (.inr (by omega)) (k3.free id hid).1]
            exact (k3.free id hid).2 k
          · obtain ⟨p1', p2'⟩ := k3.dead id hid hs0
            have hno : ¬ (t ≤ id ∧ id < tt) := fun hh => by rw [(u3 id hh.1 hh.2).1] at p1'; cases p1'
            have hu : upd (S x) ups id = none := by
              rw [upd_ne]
              · exact p1'
              · rintro p hp rfl
                rw [z1] at hp
                rcases List.mem_append.1 hp with hp | hp
                · have hpl := z3 p hp
                  rcases z8 p.1 hpl.1 (by omega) with ⟨_, y2⟩ | ⟨b0, b, y1, _⟩
                  · have : upd (S x) us p.1 ≠ none := by
                      intro hn
                      have hmem : ∀ {us : List (Nat × Blk)} {s : Store}, p ∈ us → upd s us p.1 ≠ none := by
                        intro us
                        induction us with
                        | nil => intro s h; cases h
                        | cons x us ih =>
                          intro s h
                          rcases List.mem_cons.1 h with rfl | h
                          · intro hh
                            have := upd_none (us := us) hh
                            simp at this
                          · exact ih h
                      exact hmem hp hn
                    rw [y2, p1'] at this
                    exact this rfl
                  · rw [(hon2.dead p.1 (by omega) p1').1] at y1
                    cases y1
                · have := numbered_keys p hp; omega
            refine ⟨hSy ▸ hu, fun k => ?_⟩
            rw [c3 id k (by omega) p1']
            exact p2' k
        · exact ⟨fun q => (c4 D (.inl q)).elim v4 v5, fun q => (c4 D (.inr (hSy ▸ q))).elim v4 v5⟩
        · exact ⟨fun q => (c4 _ (.inl q)).elim v1 v2, fun q => (c4 _ (.inr (hSy ▸ q))).elim v1 v2⟩
        · refine ⟨by have := c1.size; rw [World.putObj_size, World.putObj_size] at this; exact this, fun b cs T fr hh hno => ?_, fun b q => ?_⟩
          · have hne : b ≠ D + 1 := fun q => by rw [q, k7] at hh; cases hh
            have hbl : b < W.heap.size := (Array.getElem?_eq_some_iff.1 hh).1
            refine (c1.keep b (by rw [World.putObj_size, World.putObj_size]; exact hbl) hno).trans ?_
            rw [World.putObj_heap_other hne, World.putObj_heap_other hne]
            exact hh
          · have := c1.own b (hSy ▸ q)
            rw [World.putObj_size, World.putObj_size] at this
            exact this
      | ret => exact ⟨_, _, hend (some .ret), .inr ⟨rfl, hjump _ (.inl ⟨rfl, hq⟩)⟩⟩
      | exit id => exact ⟨_, _, hend (some (.exit id)), .inr ⟨rfl, hjump _ (.inr ⟨id, rfl, hq⟩)⟩⟩
      | goto l => exact hq.elim
      | panic c => exact hq.elim
      | outgrown => exact hq.elim
end
end Go.Vm
namespace Go.Vm
open Go.RowKit
def putA : AEnv → List Tmp → List Int → AEnv
  | E, p :: ps, z :: zs => putA ((p, .int .i64 z) :: E) ps zs
  | E, _, _ => E
theorem putA_eq {N : Nat} : ∀ {ps : List Tmp} {zs : List Int} {E : AEnv}, putps (toL N E) ps zs = toL N (putA E ps zs)
  | [], _, E => by simp [putps, putA]
  | _ :: _, [], E => by simp [putps, putA]
  | p :: ps, z :: zs, E => by simp only [putps, putA]; rw [toL_set]; exact putA_eq
def NextR {σ : Type} (N : Nat) (S : ASt) (cx : σ → ASt) (ok : Nat → σ → Prop) (k : Nat) (x : σ) : APost := fun E' S' _ => ∃ y, ok (k + 1) y ∧ EndA N S (cx x ++ S) E' S' [] (cx y)
def RndA (Q : XPost) (E : AEnv) (next : APost) : XPost
  | .normal, E', S', n' => next E' S' n'
  | .ret, _, S', n' => Q .ret E S' n'
  | .exit id, _, S', n' => Q (.exit id) E S' n'
  | _, _, _, _ => False
section
variable {P : Program} {N : Nat} {Q : XPost} {E : AEnv} {S : ASt} {n : Nat}
theorem a_range {g : Operand} {ps : Array Tmp} {assign body : Code} {gf : Nat} {cap : List V} {zs : List (List Int)} {σ : Type} (K : Nat) (cx : σ → ASt) (ok : Nat → σ → Prop) (x0 : σ) (h0 : ok 0 x0)
    (hit : IterV P gf cap zs) (hps : ∀ z ∈ zs, z.length = ps.size)
    (round : ∀ k z x, zs[k]? = some z → ok k x → awp P N assign (thenA (fun E1 S1 n1 => awp P N body (RndA Q E (NextR (n + K) S cx ok k x)) E1 S1 n1) (fun _ _ _ _ => False)) (putA E ps.toList z) (cx x ++ S) (n + K))
    (done : ∀ x, ok zs.length x → Q .normal E (cx x ++ S) (n + K))
    (hg : aev E g = .func (.func gf) [] cap := by rfl) (hp : plainFunc P gf = true := by kernel_rfl) (hS : SameS [] (cx x0 ++ S) (holes n K ++ S) (n + K) := by repeat' (first | exact trivial | refine And.intro ?_ ?_ | rfl)) (hk : (cx x0).all (fun p => Nat.blt p.1 (n + K)) = true := by rfl) : awp P N (.rangeFunc g ps assign body) Q E S n := fun hc => by
  have hs : slk (holes n K ++ S) = slk (cx x0 ++ S) := by
    funext id
    rcases Nat.lt_or_ge id (n + K) with q | q
    · exact (hS.at id q (by simp)).symm
    · have h1 : id ∉ (cx x0).map (·.1) := fun h => by
        obtain ⟨p, hp, rfl⟩ := List.mem_map.1 h
        have := List.all_eq_true.1 hk p hp
        simp only [Nat.blt_eq] at this
        omega
      rw [slk_app.2 h1, slk_app.2 (holes_ge q)]
  refine vwp_holes K ?_
  simp only [chkA, Bool.and_eq_true] at hc
  obtain ⟨c1, c2, c3, c4, c5⟩ := hc
  refine vwp_range ok (fun x => slk (cx x ++ S)) x0 (by rw [aev_eq c1]; exact hg) hit hp hps c4 c5 hs h0 (fun k z x hz hx => ?_) (fun x hx => ⟨E, cx x ++ S, rfl, rfl, done x hx⟩)
  rw [putA_eq]
  refine vwp_mono (round k z x hz hx c2) ?_
  rintro ex _ _ n1 ⟨E1, S1, rfl, rfl, hq⟩
  cases ex with
  | normal =>
    refine ⟨rfl, vwp_mono (hq c3) ?_⟩
    rintro ex2 _ _ n2 ⟨E2, S2, rfl, rfl, hq2⟩
    cases ex2 with
    | normal =>
      obtain ⟨y, hy, he⟩ := hq2
      exact ⟨y, hy, he 0⟩
    | ret => exact ⟨E, S2, rfl, rfl, hq2⟩
    | exit id => exact ⟨E, S2, rfl, rfl, hq2⟩
    | goto l => exact hq2.elim
    | panic c => exact hq2.elim
    | outgrown => exact hq2.elim
  | exit id => exact hq.elim
  | goto l => exact hq.elim
  | ret => exact hq.elim
  | panic c => exact hq.elim
  | outgrown => exact hq.elim
end
theorem pk_func1 {s : Store} {fn : Fn} {v v' : V} (h : Pk s v v') : Pk s (.func fn [] [v]) (.func fn [] [v']) := .func rfl fun j a b h1 h2 => by
  match j, h1, h2 with
  | 0, h1, h2 => simp at h1 h2; subst h1 h2; exact h
  | j + 1, h1, h2 => simp at h1
theorem pk_box {s : Store} {id g i m G L : Nat} {e : TypeId} {xs : List (List V)} {v v' : V} (hs : s id = some (.cells e m G L xs)) (hg : (Nat.ble L g && Nat.ble g G) = true) (hx : xs[i]? = some [v]) (hm : m = 1) (ho : v'.one = true) (h : Pk s v v') : Pk s (.ptr id g i 0) (.iptr [v']) := by
  simp only [Bool.and_eq_true, Nat.ble_eq] at hg
  refine .ptr hs hg hx (by simp [hm]) (by simpa using ho) fun j a b h1 h2 => ?_
  match j, h1, h2 with
  | 0, h1, h2 => simp at h1 h2; subst h1 h2; exact h
  | j + 1, h1, h2 => simp at h2
end Go.Vm
namespace Go.Vm
open Go.RowKit
theorem Nxt.freeze {w : World} {Sb : Nat → Prop} {G : Gh} {st : Store} (hs : WSim w Sb G st) (ids : List Nat) : Nxt w Sb G st w (fun b => Sb b ∨ Own (restr ids st) G b) G (upd st (voids ids)) := by
  have hown : ∀ b, Own (restr ids st) G b → Own st G b := fun b ⟨id, k, E, q1, q2, q3⟩ => ⟨id, k, E, (live_restr q1).2, q2, q3⟩
  have hlv : ∀ id k, live (upd st (voids ids)) id k → id ∉ ids ∧ live st id k := fun id k hl => by
    unfold live at hl ⊢
    rw [upd_voids] at hl
    by_cases hm : id ∈ ids
    · rw [if_pos hm] at hl; exact hl.elim
    · rw [if_neg hm] at hl; exact ⟨hm, hl⟩
  refine ⟨⟨fun b hb => hb.elim (hs.sub b) fun q => hs.own_lt (hown b q), fun id b hb => ?_, fun id k E hl hE hS => ?_, fun id k E id' k' E' h1 h2 => hs.dis id k E id' k' E' (hlv id k h1).2 (hlv id' k' h2).2⟩, rfl, rfl, rfl, Nat.le_refl _, fun _ _ _ => rfl, fun b ⟨id, k, E, q1, q2, q3⟩ => .inl ⟨id, k, E, (hlv id k q1).2, q2, q3⟩, fun b hb => .inl hb, fun _ _ _ h => h, fun b hb => hb.elim .inl fun q => .inr (.inl (hown b q))⟩
  · rw [upd_voids] at hb
    by_cases hm : id ∈ ids
    · rw [if_pos hm] at hb; cases hb; trivial
    · rw [if_neg hm] at hb
      exact (hs.blk id b hb).mono (fun _ _ _ _ => rfl) (fun _ _ => rfl) (fun _ hb => .inl hb) (fun _ _ _ h => h) (fun _ => rfl)
  · obtain ⟨hm, hl'⟩ := hlv id k hl
    rcases hS with q | ⟨id2, k2, E2, q1, q2, q3⟩
    · exact hs.off id k E hl' hE q
    · obtain ⟨r1, r2⟩ := live_restr q1
      have := hs.dis _ _ _ _ _ _ r2 hl' q2 hE q3
      exact hm (this ▸ r1)
theorem VOwn.take {P : Program} {f : FuncId} {args args' : List V} {e : TypeId} {m k : Nat} {xs : List (List V)} {st : Store} (ids : List Nat) (h : VOwn P f args' e m k xs) (hcl : ∀ cs ∈ xs, ∀ v ∈ cs, Vlt 0 v ∧ v.one = true) (ha : ∀ a ∈ args', Vlt 0 a) (hp : PkL (restr ids st) args args') (hid : ∀ i ∈ ids, st i ≠ none) (n : Nat) :
    VCall P f args st n (.row n 0 0 k, voids ids ++ [(n, .cells e m 0 0 xs)], n + 1) := by
  intro w Sb G us N hs hfr hN1 hN2 hN3 hargs
  have hz := Nxt.freeze hs ids
  have hr := hs.restr ids
  have hno : ∀ id, st id = none → upd st (voids ids) id = none := fun id q => by
    rw [upd_voids, if_neg fun hm => hid id hm q, q]
  refine (h.call hcl ha (upd st (voids ids)) n w _ G us N hz.sim (fun id a b => ⟨hno id (hfr id a b).1, (hfr id a b).2⟩) hN1 hN2 (fun id a => ⟨hno id (hN3 id a).1, (hN3 id a).2⟩) ⟨hargs.1.trans hp.len, fun i v u q r => ?_⟩).mono ?_
  · have hi : i < args.length := by rw [hp.len]; exact (List.getElem?_eq_some_iff.1 q).1
    exact ((hp.at i _ v (List.getElem?_eq_getElem hi) q).rv hr (hargs.2 i _ u (List.getElem?_eq_getElem hi) r)).mono (fun _ _ => rfl) (fun _ h => h) (fun _ _ _ h => nomatch h)
  rintro x w' ⟨u, Sb', G', rfl, hN, hv, hg⟩
  refine ⟨u, Sb', G', rfl, ?_, hv, fun id k hor hst => hg id k hor (hno id hst)⟩
  show Nxt w Sb G st w' Sb' G' (upd st (voids ids ++ _))
  rw [upd_append]
  exact hz.trans hN
theorem VOwn.over {P : Program} {f : FuncId} {args args' : List V} {e e0 : TypeId} {m k m0 g0 L0 T : Nat} {xs xs0 : List (List V)} {st : Store} (h : VOwn P f args' e m k xs) (hcl : ∀ cs ∈ xs, ∀ v ∈ cs, Vlt 0 v ∧ v.one = true) (hT : st T = some (.cells e0 m0 g0 L0 xs0)) (hp : PkL (restr [T] st) args args') (n : Nat) :
    VCall P f args st n (.row T (g0 + 1) 0 k, [(T, .cells e m (g0 + 1) (g0 + 1) xs)], n) := by
  intro w Sb G us N hs hfr hN1 hN2 hN3 hargs
  have hz := Nxt.freeze hs [T]
  have hr := hs.restr [T]
  have hown : ∀ b, Own (restr [T] st) G b → Own st G b := fun b ⟨id, k, E, q1, q2, q3⟩ => ⟨id, k, E, (live_restr q1).2, q2, q3⟩
  refine (h w (fun b => Sb b ∨ Own (restr [T] st) G b) us hz.sim.sub ⟨hargs.1.trans hp.len, fun i v u q r => ?_⟩).mono ?_
  · have hi : i < args.length := by rw [hp.len]; exact (List.getElem?_eq_some_iff.1 q).1
    exact (hp.at i _ v (List.getElem?_eq_getElem hi) q).rv hr (hargs.2 i _ u (List.getElem?_eq_getElem hi) r)
  rintro x w' ⟨u, Sb', G', rfl, hN, hv⟩
  have hk : ∀ b, b < w.heap.size → w'.heap[b]? = w.heap[b]? := fun b hb => hN.keep b hb not_own
  let G2 : Gh := fun id j => if id = T ∧ j = g0 + 1 then G' 0 0 else G id j
  have g2n : G2 T (g0 + 1) = G' 0 0 := by simp [G2]
  have g2o : ∀ id j, ¬ (id = T ∧ j = g0 + 1) → G2 id j = G id j := fun id j h => by simp only [G2]; rw [if_neg h]
  have hG0 : ∀ j, g0 < j → G T j = none := (hs.blk T _ hT).2.2.2.2.2
  have hbk := hN.sim.blk 0 _ (put_same noS 0 _)
  have hl00 : live (put noS 0 (.cells e m 0 0 xs)) 0 0 := by unfold live; rw [put_same]; exact ⟨Nat.le_refl _, Nat.le_refl _⟩
  have hnew : ∀ E, G' 0 0 = some E → w.heap.size ≤ E.blk ∧ ¬ Sb' E.blk := fun E h2 =>
    ⟨(hN.own E.blk ⟨0, 0, E, hl00, h2, rfl⟩).elim (fun q => (not_own q).elim) fun q => q, hN.sim.off 0 0 E hl00 h2⟩
  have hlT : ∀ j, live (put st T (.cells e m (g0 + 1) (g0 + 1) xs)) T j → j = g0 + 1 := fun j h => by
    unfold live at h
    rw [put_same] at h
    dsimp only at h
    omega
  have hlo : ∀ id j, id ≠ T → live (put st T (.cells e m (g0 + 1) (g0 + 1) xs)) id j → live st id j := fun id j hne h => by
    unfold live at h ⊢
    rw [put_ne _ _ hne] at h
    exact h
  have hGm : ∀ id j E, G id j = some E → G2 id j = some E := fun id j E hE => by
    rw [g2o id j]
    · exact hE
    · rintro ⟨rfl, rfl⟩
      rw [hG0 _ (Nat.lt_succ_self _)] at hE
      cases hE
  have hsb : ∀ b, Sb' b → Sb b ∨ Own (restr [T] st) G b ∨ w.heap.size ≤ b := fun b hb => by
    rcases hN.sbn b hb with q | q | q
    · exact q.elim .inl fun q => .inr (.inl q)
    · exact (not_own q).elim
    · exact .inr (.inr q)
  have hrow : ∀ {v : V} {x : Value}, Vlt 0 v → Rv w' Sb' G' v x → Rv w' Sb' G2 v x := fun hc hx => hc.rv hx (fun id k E hid => absurd hid (by omega))
  refine ⟨u, Sb', G2, rfl, ⟨⟨hN.sim.sub, fun id b hb => ?_, fun id j E hl hE => ?_, fun id j E id' j' E' h1 h2 h3 h4 h5 => ?_⟩, hN.os, hN.tape, hN.output, hN.size, fun b hb _ => hk b hb, fun b ⟨id, j, E, q1, q2, q3⟩ => ?_, fun b hb => hN.sb b (.inl hb), hGm, fun b hb => (hsb b hb).elim .inl fun q => q.elim (fun q => .inr (.inl (hown b q))) fun q => .inr (.inr q)⟩, ?_, fun id j hid hs0 => g2o id j (by rintro ⟨rfl, _⟩; rw [hT] at hs0; cases hs0)⟩
  · simp only [upd] at hb
    by_cases hi : id = T
    · subst hi
      rw [put_same] at hb
      cases hb
      obtain ⟨q1, q2, q3, q4, q5, q6⟩ := hbk
      refine ⟨q1, Nat.le_refl _, q3, fun j a b => ?_, fun E hE => q5 E (by rw [← g2n]; exact hE), fun j hj => (g2o _ j (by omega)).trans (hG0 j (by omega))⟩
      obtain rfl : j = g0 + 1 := by omega
      obtain ⟨E, r1, cur, t1, t2, t3, t4, t5, t6, t7⟩ := q4 0 (Nat.le_refl _) (Nat.le_refl _)
      exact ⟨E, g2n.trans r1, cur, t1, t2, t3, t4, t5, t6, fun i cs j' v c1 c2 c3 => by
        obtain ⟨x, y1, y2⟩ := t7 i cs j' v c1 c2 c3
        exact ⟨x, y1, hrow (hcl cs (List.mem_of_getElem? c2) v (List.mem_of_getElem? c3)).1 y2⟩⟩
    · rw [put_ne _ _ hi] at hb
      exact (hs.blk id b hb).mono (fun j E q1 q2 => hk _ (hs.own_lt ⟨id, j, E, by unfold live at q2 ⊢; rw [hb]; exact q2, q1, rfl⟩)) (fun b hb => hk b (hs.sub b hb)) (fun b hb => hN.sb b (.inl hb)) hGm (fun j => g2o id j (by rintro ⟨q, _⟩; exact hi q))
  · simp only [upd] at hl
    by_cases hi : id = T
    · subst hi
      obtain rfl := hlT j hl
      rw [g2n] at hE
      exact (hnew E hE).2
    · rw [g2o id j (fun q => hi q.1)] at hE
      have hl' := hlo id j hi hl
      have hlt := hs.own_lt ⟨id, j, E, hl', hE, rfl⟩
      intro q
      rcases hsb _ q with q | ⟨id2, k2, E2, q1, q2, q3⟩ | q
      · exact hs.off id j E hl' hE q
      · obtain ⟨r1, r2⟩ := live_restr q1
        have := hs.dis _ _ _ _ _ _ r2 hl' q2 hE q3
        exact hi (this ▸ (List.mem_singleton.1 r1))
      · omega
  · simp only [upd] at h1 h2
    by_cases hi : id = T
    · by_cases hi' : id' = T
      · rw [hi, hi']
      · subst hi
        obtain rfl := hlT j h1
        rw [g2n] at h3
        rw [g2o id' j' (fun q => hi' q.1)] at h4
        have := (hnew E h3).1
        have := hs.own_lt ⟨id', j', E', hlo id' j' hi' h2, h4, rfl⟩
        omega
    · by_cases hi' : id' = T
      · subst hi'
        obtain rfl := hlT j' h2
        rw [g2n] at h4
        rw [g2o id j (fun q => hi q.1)] at h3
        have := (hnew E' h4).1
        have := hs.own_lt ⟨id, j, E, hlo id j hi h1, h3, rfl⟩
        omega
      · rw [g2o id j (fun q => hi q.1)] at h3
        rw [g2o id' j' (fun q => hi' q.1)] at h4
        exact hs.dis _ _ _ _ _ _ (hlo id j hi h1) (hlo id' j' hi' h2) h3 h4 h5
  · simp only [upd] at q1
    by_cases hi : id = T
    · subst hi
      obtain rfl := hlT j q1
      rw [g2n] at q2
      exact .inr (q3 ▸ (hnew E q2).1)
    · rw [g2o id j (fun q => hi q.1)] at q2
      exact .inl ⟨id, j, E, hlo id j hi q1, q2, q3⟩
  · cases hv with
    | row g1 g2 g3 g4 g5 g6 => exact .row (g2n.trans g1) g2 g3 g4 g5 g6
section
variable {P : Program} {N : Nat} {ops : Array Oper} {K : APost} {l : List Oper} {E : AEnv} {S : ASt} {n : Nat}
theorem ar_over {d m k m0 g0 L0 : Nat} {f : FuncId} {cargs : Array Operand} {ts : Array TypeId} {ty : TypeId} {pos : String} {aft : Array Edge} {args : List V} {e e0 : TypeId} {xs xs0 : List (List V)} (T : Nat) (h : VOwn P f args e m k xs) (hcl : ∀ cs ∈ xs, ∀ v ∈ cs, Vlt 0 v ∧ v.one = true) (hT : slk S T = some (.cells e0 m0 g0 L0 xs0)) (K' : arun P N ops true K l ((d, .row T (g0 + 1) 0 k) :: E) ((T, some (.cells e m (g0 + 1) (g0 + 1) xs)) :: S) n) (hx : PkL (restr [T] (slk S)) (cargs.toList.map (aev E)) args := by repeat' first | exact PkL.nil | exact pk_int rfl | exact pk_list rfl | exact pk_bool rfl | exact pk_row rfl (by first | rfl | (simp only [Bool.and_eq_true, Nat.ble_eq, Nat.blt_eq, Nat.beq_eq, true_and, and_true, Nat.le_refl, and_self]; (try omega); done) | fail) rfl (by first | rfl | exact map_snoc rfl) (by first | rfl | (simp; done) | fail) | exact pk_nrow rfl (by first | rfl | (simp only [Bool.and_eq_true, Nat.ble_eq, Nat.blt_eq, Nat.beq_eq, true_and, and_true, Nat.le_refl, and_self]; (try omega); done) | fail) rfl rfl | exact pk_cells rfl | exact pk_same (.str _) | exact pk_same .nil | apply PkL.cons) (hp : plainFunc P f = true := by kernel_rfl) : arun P N ops true K (⟨some d, .call ⟨.value (.func f), cargs, ts⟩, ty, pos, aft, none⟩ :: l) E S n := fun hl => by
  simp only [List.all_cons, Bool.and_eq_true] at hl
  simp only [vrun, vwanted, isCall]
  refine ⟨(.row T (g0 + 1) 0 k, [(T, .cells e m (g0 + 1) (g0 + 1) xs)], n), .inr ⟨rfl, .mk rfl rfl hp ?_ (Nat.le_refl n)⟩, Nat.le_refl n, fun p hp => .inr ⟨rfl, ?_⟩, ?_⟩
  · rw [List.nil_append, List.append_nil, call_args hl.1]
    exact h.over hcl hT hx n
  · obtain rfl := List.mem_singleton.1 hp
    rw [hT]
    exact fun q => nomatch q
  · simp only [vput, toL_set, upd_one]
    exact K' hl.2
end
end Go.Vm
namespace Go.Vm
open Go.RowKit
theorem Nxt.frozenMap {w : World} {Sb : Nat → Prop} {G : Gh} {st : Store} (hs : WSim w Sb G st) (ids : List Nat) {M : Nat} {kt : TypeId} {es es' : List (V × V)} (hM : st M = some (.map kt es)) (hMi : M ∉ ids) (hl : es.length = es'.length)
    (he : ∀ (i : Nat) (p q : V × V), es[i]? = some p → es'[i]? = some q → q.1 = p.1 ∧ (q.2 = p.2 ∨ Pk (restr ids st) p.2 q.2)) :
    Nxt w Sb G st w (fun b => Sb b ∨ Own (restr ids st) G b) G (put (upd st (voids ids)) M (.map kt es')) := by
  have hz := Nxt.freeze hs ids
  have hst2 : upd st (voids ids) M = some (.map kt es) := by rw [upd_voids, if_neg hMi, hM]
  have hlv : ∀ id k, live (put (upd st (voids ids)) M (.map kt es')) id k → live (upd st (voids ids)) id k := fun id k h => by
    unfold live at h ⊢
    by_cases hi : id = M
    · subst hi
      rw [put_same] at h
      rw [hst2]
      exact h
    · rwa [put_ne _ _ hi] at h
  refine ⟨⟨hz.sim.sub, fun id b hb => ?_, fun id k E h => hz.sim.off id k E (hlv id k h), fun id k E id' k' E' h1 h2 => hz.sim.dis id k E id' k' E' (hlv id k h1) (hlv id' k' h2)⟩, rfl, rfl, rfl, Nat.le_refl _, fun _ _ _ => rfl, fun b ⟨id, k, E, q1, q2, q3⟩ => hz.own b ⟨id, k, E, hlv id k q1, q2, q3⟩, hz.sb, hz.gh, hz.sbn⟩
  by_cases hi : id = M
  · subst hi
    rw [put_same] at hb
    cases hb
    obtain ⟨E, ms, clock, q1, q2, q3, q4⟩ := hz.sim.blk id _ hst2
    obtain ⟨E0, ms0, clock0, p1, p2, p3, p4⟩ := hs.blk id _ hM
    rw [p1] at q1
    cases q1
    rw [p2] at q2
    cases q2
    refine ⟨_, _, _, p1, p2, by omega, fun i x y hx hy => ?_⟩
    have hi' : i < es.length := by rw [hl]; exact (List.getElem?_eq_some_iff.1 hx).1
    have hp := List.getElem?_eq_getElem hi'
    obtain ⟨r1, r2⟩ := he i _ x hp hx
    obtain ⟨s1, s2⟩ := q4 i _ y hp hy
    obtain ⟨t1, t2⟩ := p4 i _ y hp hy
    refine ⟨by rw [r1]; exact s1, ?_⟩
    rcases r2 with r2 | r2
    · rw [r2]; exact s2
    · exact (r2.rv (hs.restr ids) t2).mono (fun _ _ => rfl) (fun _ h => h) (fun _ _ _ h => nomatch h)
  · rw [put_ne _ _ hi] at hb
    exact hz.sim.blk id b hb
section
variable {P : Program} {N : Nat} {Q : XPost} {E : AEnv} {S : ASt} {n : Nat}
theorem vwp_to {c : Code} {Q : VPost} {e e' : List V} {s s' : Store} {ids : List Nat} (hN : ∀ w Sb G, WSim w Sb G s → Nxt w Sb G s w (fun b => Sb b ∨ Own (restr ids s) G b) G s') (hno : ∀ id, s id = none → s' id = none) (hl : e'.length = e.length)
    (he : ∀ (i : Nat) (v v' : V), e[i]? = some v → e'[i]? = some v' → v' = v ∨ v' = .any ∨ Pk (restr ids s) v v') (h : vwp P c Q e' s' n) : vwp P c Q e s n := fun rd md B a w Sb G h0 h1 h2 h3 h4 => by
  have hz := hN w Sb G h2
  have hf : Free s' G n := fun id hid => ⟨hno id (h3 id hid).1, (h3 id hid).2⟩
  have hon : On w Sb G s n w (fun b => Sb b ∨ Own (restr ids s) G b) G s' n := ⟨hz, hf, Nat.le_refl _, fun id _ hs => ⟨hno id hs, fun _ => rfl⟩⟩
  refine wpIn_mono (h rd md B a w _ G h0 ⟨by rw [h1.1, hl], fun i v' u q r => ?_⟩ hz.sim hf (h4.nxt hz)) ?_
  · have hi : i < e.length := by rw [← hl]; exact (List.getElem?_eq_some_iff.1 q).1
    have hv := h1.2 i _ u (List.getElem?_eq_getElem hi) r
    rcases he i _ v' (List.getElem?_eq_getElem hi) q with rfl | rfl | hp
    · exact hz.rv h2 hv
    · exact .any _
    · exact (hp.rv (h2.restr ids) hv).mono (fun _ _ => rfl) (fun _ h => h) (fun _ _ _ h => nomatch h)
  · rintro x a' w' ⟨hx, e2, s2, n2, Sb2, G2, hq, r1, r2, r3⟩
    exact ⟨hx, e2, s2, n2, Sb2, G2, hq, r1, hon.trans r2, r3⟩
inductive FzE (st : Store) (E : AEnv) : AEnv → Prop where
  | nil : FzE st E []
  | keep {k : Nat} {v : V} {B : AEnv} (h : FV (lk E k) v) (hr : FzE st E B) : FzE st E ((k, v) :: B)
  | pack {k : Nat} {v : V} {B : AEnv} (h : Pk st (lk E k) v) (hr : FzE st E B) : FzE st E ((k, v) :: B)
theorem FzE.at {st : Store} {E B : AEnv} (h : FzE st E B) (t : Nat) : lk B t = lk E t ∨ lk B t = .any ∨ Pk st (lk E t) (lk B t) := by
  induction h with
  | nil => exact .inr (.inl rfl)
  | @keep k v B h _ ih =>
    by_cases hk : k = t
    · subst hk
      have hl : lk ((k, v) :: B) k = v := by simp [lk]
      rw [hl]
      exact .inl h.symm
    · have hl : lk ((k, v) :: B) t = lk B t := by simp [lk, beq_no hk]
      rw [hl]
      exact ih
  | @pack k v B h _ ih =>
    by_cases hk : k = t
    · subst hk
      have hl : lk ((k, v) :: B) k = v := by simp [lk]
      rw [hl]
      exact .inr (.inr h)
    · have hl : lk ((k, v) :: B) t = lk B t := by simp [lk, beq_no hk]
      rw [hl]
      exact ih
theorem a_freeze {c : Code} {B : AEnv} (ids : List Nat) (M : Nat) {kt : TypeId} {es : List (V × V)} (es' : List (V × V)) (hM : slk S M = some (.map kt es)) (hMi : ids.contains M = false) (hl : es.length = es'.length)
    (he : ∀ (i : Nat) (p q : V × V), es[i]? = some p → es'[i]? = some q → q.1 = p.1 ∧ (q.2 = p.2 ∨ Pk (restr ids (slk S)) p.2 q.2)) (hB : FzE (restr ids (slk S)) E B) (hi : ids.all (fun i => (slk S i).isSome) = true)
    (h : awp P N c Q B ((M, some (.map kt es')) :: (ids.map (fun i => (i, some .void)) ++ S)) n) : awp P N c Q E S n := fun hc => by
  have hid : ∀ i ∈ ids, slk S i ≠ none := fun i hm q => by
    have := List.all_eq_true.1 hi i hm
    rw [q] at this
    cases this
  have hMi' : M ∉ ids := by simpa using hMi
  have hS : put (upd (slk S) (voids ids)) M (.map kt es') = slk ((M, some (.map kt es')) :: (ids.map (fun i => (i, some .void)) ++ S)) := by
    funext id
    by_cases hq : id = M
    · subst hq
      rw [put_same]
      simp [slk]
    · rw [put_ne _ _ hq, upd_voids]
      have : slk ((M, some (.map kt es')) :: (ids.map (fun i => (i, some .void)) ++ S)) id = slk (ids.map (fun i => (i, some .void)) ++ S) id := by simp [slk, beq_no (fun q => hq q.symm)]
      rw [this]
      by_cases hm : id ∈ ids
      · rw [if_pos hm, slk_app.1 (by simpa using hm)]
        clear hi hid hMi hMi' this he hB h
        induction ids with
        | nil => simp at hm
        | cons i r ih =>
          by_cases q : i = id
          · subst q; simp [slk]
          · have := ih (by simpa [Ne.symm q] using hm)
            simpa [slk, beq_no q] using this
      · rw [if_neg hm, slk_app.2 (by simpa using hm)]
  have h' := h hc
  rw [← hS] at h'
  refine vwp_to (ids := ids) (fun w Sb G hs => Nxt.frozenMap hs ids hM hMi' hl he) (fun id hs => ?_) (by rw [toL_length, toL_length]) (fun i v v' a b => ?_) h'
  · rw [put_ne _ _ (fun q => by subst q; rw [hM] at hs; cases hs), upd_voids, if_neg (fun hm => hid id hm hs), hs]
  · have hi' : i < N := by have := (List.getElem?_eq_some_iff.1 a).1; rwa [toL_length] at this
    rw [toL_at hi'] at a b
    cases a
    cases b
    exact hB.at i
end
def AllQ (X : ASt) : ASt → Prop
  | [] => True
  | p :: r => slk X p.1 = p.2 ∧ AllQ X r
theorem AllQ.at {X : ASt} : ∀ {C : ASt}, AllQ X C → ∀ id, id ∈ C.map (·.1) → slk C id = slk X id
  | [], _, id, h => by simp at h
  | p :: r, h, id, hid => by
    by_cases hp : p.1 = id
    · subst hp
      have hl : slk (p :: r) p.1 = p.2 := by simp [slk]
      rw [hl]
      exact h.1.symm
    · have hl : slk (p :: r) id = slk r id := by simp [slk, beq_no hp]
      rw [hl]
      exact AllQ.at h.2 id (by simpa [Ne.symm hp] using hid)
section
variable {N : Nat} {S S' : ASt} {n : Nat}
def NewB (N t : Nat) (S' : ASt) (ks : List Nat) : List Nat → ASt → Prop
  | k :: r, p :: C => (∃ e m g L xs ys, slk S' k = some (.cells e m g L xs) ∧ p.2 = some (.cells e m 0 0 ys) ∧ RnX N (nm t (slk S') ks) (slk S') (dropped N ks) xs ys) ∧ NewB N t S' ks r C
  | [], [] => True
  | _, _ => False
theorem NewB.at {N t : Nat} {S' : ASt} {ks : List Nat} : ∀ {l : List Nat} {C : ASt} {t0 : Nat}, NewB N t S' ks l C → C.map (·.1) = List.range' t0 l.length → ∀ (j k : Nat), l[j]? = some k → ∃ b0 b, slk S' k = some b0 ∧ slk C (t0 + j) = some b ∧ RnBk N t S' ks b0 b ∧ (hdr b = none ∨ hdr b = some (0, 0))
  | [], _, _, _, _, j, k, h => by simp at h
  | k0 :: r, [], _, h, _, _, _, _ => h.elim
  | k0 :: r, p :: C, t0, h, hk, j, k, hj => by
    simp only [List.map_cons, List.length_cons, List.range'_succ, List.cons.injEq] at hk
    cases j with
    | zero =>
      cases hj
      obtain ⟨⟨e, m, g, L, xs, ys, q1, q2, q3⟩, _⟩ := h
      exact ⟨_, .cells e m 0 0 ys, q1, by simp [slk, hk.1, q2], RnB.cells q3, .inr rfl⟩
    | succ j =>
      obtain ⟨b0, b, r1, r2, r3, r4⟩ := NewB.at h.2 hk.2 j k (by simpa using hj)
      refine ⟨b0, b, r1, ?_, r3, r4⟩
      have : slk (p :: C) (t0 + (j + 1)) = slk C (t0 + (j + 1)) := by simp [slk, beq_no (show p.1 ≠ t0 + (j + 1) by omega)]
      rw [this, ← r2]
      congr 1
      omega
theorem endP {E' C : AEnv} {cx CS cy : ASt} (CN : ASt) (t : Nat) (ks : List Nat) (hE : AllR N t S' ks E' C) (hB : AllB N t S' ks (cx ++ S) CS) (hnew : NewB N t S' ks ks CN) (hcy : AllQ (CS ++ CN) cy)
    (hk1 : CN.map (·.1) = List.range' t ks.length := by rfl) (hnd : ndB (cx.map (·.1)) = true := by rfl) (hky : (CS ++ CN).map (·.1) |>.Perm (cx.map (·.1)) := by decide) (hcc : ((CS ++ CN).map (·.1)).all (fun i => (cy.map (·.1)).contains i) = true := by rfl) (hcc2 : (cy.map (·.1)).all (fun i => ((CS ++ CN).map (·.1)).contains i) = true := by rfl)
    (hn : (Nat.ble (t + ks.length) N && ks.all (fun k => Nat.ble N k) && ndB ks) = true := by rfl) (hfree : ∀ id, t ≤ id → id < t + ks.length → slk (cx ++ S) id = some .hole ∧ slk S' id = some .hole) (hCS : (CS.map (·.1)).all (fun id => Nat.blt id t || Nat.ble (t + ks.length) id) = true := by rfl)
    (hS : SameS (cx.map (·.1)) S' S N := by repeat' (first | exact trivial | refine And.intro ?_ ?_ | rfl)) : EndA N S (cx ++ S) E' S' C cy := fun NN => by
  simp only [Bool.and_eq_true, Nat.ble_eq, List.all_eq_true] at hn
  obtain ⟨⟨h1, h2⟩, h3⟩ := hn
  have := ends_of (CN := CN) (ks := ks) (NN := NN) (t := t) rfl rfl hky (ndB_nd hnd) h1 hfree (ndB_nd h3) h2 hE hB hS hk1 (NewB.at hnew hk1) (fun id hid => by
    have := List.all_eq_true.1 hCS id hid
    simpa [Nat.blt_eq, Nat.ble_eq] using this)
  have hs : slk (CS ++ CN ++ S) = slk (cy ++ S) := by
    funext id
    by_cases hid : id ∈ cy.map (·.1)
    · have hid2 : id ∈ (CS ++ CN).map (·.1) := by have := List.all_eq_true.1 hcc2 id hid; simpa using this
      rw [slk_app.1 hid2, slk_app.1 hid, hcy.at id hid]
    · have hid2 : id ∉ (CS ++ CN).map (·.1) := fun q => hid (by have := List.all_eq_true.1 hcc id q; simpa using this)
      rw [slk_app.2 hid2, slk_app.2 hid]
  rw [hs] at this
  exact this
end
end Go.Vm
