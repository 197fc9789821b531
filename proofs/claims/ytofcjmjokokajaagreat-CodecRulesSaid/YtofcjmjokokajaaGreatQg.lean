/-
  The machine's walk: forgetting, and regions that are written out. No program is named here. The machine's ends: what a function leaves that keeps nothing. No program is named here. The machine's loops, with what a round leaves named anew. No program is named here.
-/
import Derived.Test.YtofcjmjokokajaaGreatQf
import Derived.KernelRfl
namespace Go.Vm
open Go.RowKit
def fgE (P : V → Prop) : List V → List V → Prop
  | [], [] => True
  | _ :: r, .any :: r2 => fgE P r r2
  | v :: r, v2 :: r2 => v = v2 ∧ P v2 ∧ fgE P r r2
  | _, _ => False
theorem fgE_spec {P : V → Prop} : ∀ {e e2 : List V}, fgE P e e2 → e2.length = e.length ∧ ∀ (i : Nat) (v : V), e2[i]? = some v → v = .any ∨ e[i]? = some v ∧ P v
  | [], [], _ => ⟨rfl, fun i v h => by simp at h⟩
  | x :: r, y :: r2, h => by
    have h' : (y = .any ∨ x = y ∧ P y) ∧ fgE P r r2 := by
      unfold fgE at h
      split at h
      · rename_i hh; cases hh
      · rename_i a b c h1 h2; cases h1; cases h2; exact ⟨.inl rfl, h⟩
      · rename_i h1 h2; cases h1; cases h2; exact ⟨.inr ⟨h.1, h.2.1⟩, h.2.2⟩
      · exact h.elim
    obtain ⟨h1, h2⟩ := fgE_spec h'.2
    refine ⟨by simp [h1], fun i v hv => ?_⟩
    cases i with
    | zero =>
      simp at hv
      subst hv
      rcases h'.1 with q | ⟨q1, q2⟩
      · exact .inl q
      · exact .inr ⟨by simp [q1], q2⟩
    | succ i => simpa using h2 i v (by simpa using hv)
  | [], _ :: _, h => by simp [fgE] at h
  | _ :: _, [], h => by simp [fgE] at h
def BVlt (n : Nat) : Blk → Prop
  | .cells _ _ _ _ xs => ∀ cs ∈ xs, ∀ v ∈ cs, Vlt n v ∧ v.one = true
  | .map _ es => ∀ p ∈ es, Vlt n p.1 ∧ Vlt n p.2
  | .void => True
  | .hole => True
section
variable {P : Program} {Q : VPost} {e e2 : List V} {s : Store} {n : Nat}
theorem vwp_env {c : Code} (he : fgE (fun _ => True) e e2) (h : vwp P c Q e2 s n) : vwp P c Q e s n := fun rd md B a w Sb G h0 h1 h2 h3 h4 =>
  h rd md B a w Sb G h0 ⟨by rw [h1.1, (fgE_spec he).1], fun i v u a b => by
    rcases (fgE_spec he).2 i v a with rfl | ⟨q, _⟩
    · exact .any _
    · exact h1.2 i v u q b⟩ h2 h3 h4
end
def isCall : Op → Bool
  | .call { callee := .value _, .. } => true
  | _ => false
def isW : Op → Bool
  | .store .. | .mapUpdate .. | .call { callee := .builtin .append, .. } => true
  | _ => false
theorem vop_keys {P : Program} {ρ : Operand → V} {s : Store} {n : Nat} {op : Op} {out : Out} (h : vop P ρ s n op = some out) : n ≤ out.2.2 ∧ ∀ p ∈ out.2.1, n ≤ p.1 ∧ p.1 < out.2.2 ∨ isW op = true ∧ s p.1 ≠ none := by
  have hnil : ∀ {v : V}, out = (v, [], n) → n ≤ out.2.2 ∧ ∀ p ∈ out.2.1, n ≤ p.1 ∧ p.1 < out.2.2 ∨ isW op = true ∧ s p.1 ≠ none := fun {v} hh => by subst hh; simp
  have hnew : ∀ {v : V} {b : Blk}, out = (v, [(n, b)], n + 1) → n ≤ out.2.2 ∧ ∀ p ∈ out.2.1, n ≤ p.1 ∧ p.1 < out.2.2 ∨ isW op = true ∧ s p.1 ≠ none := fun {v b} hh => by subst hh; simp
  have hall : ∀ {e : TypeId} {cs : List V}, valloc e cs n = some out → n ≤ out.2.2 ∧ ∀ p ∈ out.2.1, n ≤ p.1 ∧ p.1 < out.2.2 ∨ isW op = true ∧ s p.1 ≠ none := fun {e cs} hh => by
    unfold valloc at hh
    split at hh
    · cases hh; exact hnew rfl
    · cases hh
  cases op <;> simp only [vop] at h
  case move => cases h; exact hnil rfl
  case assign => cases h; exact hnil rfl
  case makeFunc => cases h; exact hnil rfl
  case pick =>
    split at h
    · cases h; exact hnil rfl
    · cases h
  case alloc =>
    split at h
    · split at h
      · split at h
        · exact hall h
        · cases h
      · cases h
    · cases h
  case box => exact hall h
  case build =>
    split at h
    · split at h
      · split at h
        · obtain ⟨_, _, h⟩ := Option.bind_eq_some_iff.1 h
          obtain ⟨_, _, rfl⟩ := Option.map_eq_some_iff.1 h; exact hnil rfl
        · cases h
      · split at h
        · split at h
          · obtain ⟨_, _, rfl⟩ := Option.map_eq_some_iff.1 h; exact hnil rfl
          · cases h
        · cases h
      · cases h
    · cases h
  case buildSlice =>
    split at h
    · split at h
      · split at h
        · split at h
          · obtain ⟨_, _, rfl⟩ := Option.map_eq_some_iff.1 h; exact hnew rfl
          · cases h
        · cases h
      · cases h
    · cases h
  case load =>
    split at h
    · obtain ⟨_, _, rfl⟩ := Option.map_eq_some_iff.1 h; exact hnil rfl
    · cases h
  case store t a x =>
    split at h
    · rename_i i hi
      obtain ⟨us, hus, rfl⟩ := Option.map_eq_some_iff.1 h
      refine ⟨Nat.le_refl _, fun p hp => .inr ⟨rfl, ?_⟩⟩
      unfold vstore at hus
      split at hus
      · split at hus
        · rename_i hst
          split at hus
          · obtain ⟨cs, _, rfl⟩ := Option.map_eq_some_iff.1 hus
            simp at hp
            subst hp
            rw [hst]
            simp
          · cases hus
        · cases hus
      · cases hus
    · cases h
  case nilCheck =>
    split at h
    · cases h; exact hnil rfl
    · cases h; exact hnil rfl
    · cases h
  case binOp => obtain ⟨_, _, rfl⟩ := Option.map_eq_some_iff.1 h; exact hnil rfl
  case unOp => obtain ⟨_, _, rfl⟩ := Option.map_eq_some_iff.1 h; exact hnil rfl
  case convert => obtain ⟨_, _, rfl⟩ := Option.map_eq_some_iff.1 h; exact hnil rfl
  case makeMap t r =>
    cases r with
    | some r => cases h
    | none =>
      simp only at h
      split at h
      · cases h; exact hnew rfl
      · cases h
  case makeSlice =>
    unfold vmake at h
    split at h
    · split at h
      · split at h
        · split at h
          · cases h; exact hnew rfl
          · cases h
        · cases h
      · cases h
    · cases h
  case slice t x lo hi mx =>
    cases mx with
    | some m => cases h
    | none =>
      simp only at h
      split at h
      · obtain ⟨_, _, rfl⟩ := Option.map_eq_some_iff.1 h; exact hnil rfl
      · obtain ⟨_, _, h⟩ := Option.bind_eq_some_iff.1 h
        obtain ⟨_, _, rfl⟩ := Option.map_eq_some_iff.1 h; exact hnil rfl
      · cases h
  case fieldAddr =>
    split at h
    · split at h
      · split at h
        · split at h
          · cases h
          · obtain ⟨_, _, rfl⟩ := Option.map_eq_some_iff.1 h; exact hnil rfl
        · cases h
      · cases h
    · cases h
  case field =>
    split at h
    · split at h
      · split at h
        · obtain ⟨_, _, rfl⟩ := Option.map_eq_some_iff.1 h; exact hnil rfl
        · cases h
      · cases h
    · cases h
  case indexAddr =>
    split at h
    · split at h
      · split at h
        · split at h
          · split at h
            · obtain ⟨_, _, rfl⟩ := Option.map_eq_some_iff.1 h; exact hnil rfl
            · cases h
          · split at h
            · split at h
              · cases h; exact hnil rfl
              · cases h
            · cases h
          · cases h
        · cases h
      · cases h
    · split at h
      · split at h
        · obtain ⟨_, _, rfl⟩ := Option.map_eq_some_iff.1 h; exact hnil rfl
        · cases h
      · cases h
    · cases h
  case index =>
    split at h
    · split at h
      · obtain ⟨_, _, rfl⟩ := Option.map_eq_some_iff.1 h; exact hnil rfl
      · cases h
    · split at h
      · split at h
        · obtain ⟨_, _, rfl⟩ := Option.map_eq_some_iff.1 h; exact hnil rfl
        · cases h
      · cases h
    · cases h
  case lookup => obtain ⟨_, _, rfl⟩ := Option.map_eq_some_iff.1 h; exact hnil rfl
  case mapUpdate t m k v =>
    obtain ⟨us, hus, rfl⟩ := Option.map_eq_some_iff.1 h
    refine ⟨Nat.le_refl _, fun p hp => .inr ⟨rfl, ?_⟩⟩
    unfold vupdate at hus
    split at hus
    · split at hus
      · cases hus
      · split at hus
        · split at hus
          · split at hus
            · rename_i hst
              split at hus
              · cases hus
                simp at hp
                subst hp
                rw [hst]; simp
              · cases hus
                simp at hp
                subst hp
                rw [hst]; simp
              · cases hus
            · cases hus
          · cases hus
        · cases hus
    · cases hus
  case extract =>
    split at h
    · obtain ⟨_, _, rfl⟩ := Option.map_eq_some_iff.1 h; exact hnil rfl
    · cases h
  case call c =>
    obtain ⟨callee, args, ts⟩ := c
    cases callee with
    | value f => cases h
    | invoke f m => cases h
    | builtin b =>
      simp only at h
      unfold vbuiltin at h
      split at h
      · split at h
        · obtain ⟨_, _, rfl⟩ := Option.map_eq_some_iff.1 h; exact hnil rfl
        · cases h
      · split at h
        · split at h
          · split at h
            · obtain ⟨ys, _, h⟩ := Option.bind_eq_some_iff.1 h
              unfold vappend at h
              split at h
              · split at h
                · cases h; exact hnil rfl
                · split at h
                  · cases h; exact hnew rfl
                  · cases h
              · split at h
                · rename_i hst
                  split at h
                  · split at h <;>
                      (cases h
                       refine ⟨Nat.le_refl _, fun p hp => .inr ⟨rfl, ?_⟩⟩
                       simp at hp
                       subst hp
                       rw [hst]; simp)
                  · cases h
                · cases h
              · cases h
            · cases h
          · cases h
        · cases h
      · obtain ⟨_, _, rfl⟩ := Option.map_eq_some_iff.1 h; exact hnil rfl
      · obtain ⟨_, _, rfl⟩ := Option.map_eq_some_iff.1 h; exact hnil rfl
      · cases h
  all_goals cases h
def CallK (P : Program) (m : Bool) (o : Oper) (e : List V) (s : Store) (n : Nat) (K : List V → Store → Nat → Prop) : Prop :=
  ∃ out, OS P (!m) o (veval e) s n out ∧ n ≤ out.2.2 ∧ (∀ p ∈ out.2.1, n ≤ p.1 ∧ p.1 < out.2.2 ∨ m = true ∧ s p.1 ≠ none) ∧ K (vput e o.dst out.1) (upd s out.2.1) out.2.2
def vrun (P : Program) (ops : Array Oper) (m : Bool) (K : List V → Store → Nat → Prop) : List Oper → List V → Store → Nat → Prop
  | [], e, s, n => K e s n
  | o :: r, e, s, n => match vwanted ops e o with
    | none => False
    | some false => vrun P ops m K r (vput e o.dst (.tuple [])) s n
    | some true => match isCall o.op with
      | true => CallK P m o e s n (vrun P ops m K r)
      | false => match vop P (veval e) s n o.op with
        | none => False
        | some out => vrun P ops m K r (vput e o.dst out.1) (upd s out.2.1) out.2.2
theorem vrun_list {P : Program} {ops : Array Oper} {m : Bool} {W : List Nat} {K : List V → Store → Nat → Prop} (hS : ∀ i, flW ops W i = false) (hA : ∀ x id, aW ops W x id = false) (hW : ∀ (i : Nat) (o : Oper), ops[i]? = some o → W.contains i = (m || isW o.op)) : ∀ (l : List Oper) (i : Nat) (e : List V) (s : Store) (n : Nat), (∀ j o, l[j]? = some o → ops[i + j]? = some o) → vrun P ops m K l e s n → vlist P ops W K (List.range' i l.length) e s n
  | [], i, e, s, n, _, h => h
  | o :: r, i, e, s, n, hl, h => by
    have ho : ops[i]? = some o := by simpa using hl 0 o rfl
    have hw' := hW i o ho
    simp only [List.length_cons, List.range'_succ, vlist]
    refine ⟨o, ho, ?_⟩
    have hfl : flatAt ops W i (flW ops W i) o.op (veval e) := fun q => by rw [hS i] at q; cases q
    have ih := fun e s n => vrun_list (P := P) (ops := ops) (W := W) (K := K) hS hA hW r (i + 1) e s n (fun j o' hj => by have := hl (j + 1) o' (by simpa using hj); rwa [show i + 1 + j = i + (j + 1) by omega])
    simp only [vrun] at h
    split at h
    · exact h.elim
    · rename_i hw
      exact .inl ⟨hw, ih _ _ _ h⟩
    · rename_i hw
      right
      split at h
      · rename_i hc
        obtain ⟨out, h1, h2, h3, h4⟩ := h
        have hm : isW o.op = false := by
          cases ho' : o.op <;> rw [ho'] at hc <;> simp [isCall] at hc
          rename_i c
          obtain ⟨callee, args, ts⟩ := c
          cases callee <;> simp at hc
          rfl
        rw [hm, Bool.or_false] at hw'
        rw [hw']
        exact ⟨hw, out, h1, h2, fun p hp => (h3 p hp).imp_right fun q => ⟨q.1, q.2, hA _ _⟩, hfl, ih _ _ _ h4⟩
      · split at h
        · exact h.elim
        · rename_i out hv
          obtain ⟨k1, k2⟩ := vop_keys hv
          refine ⟨hw, out, .inl (.op hv k1), k1, fun p hp => ?_, hfl, ih _ _ _ h⟩
          rcases k2 p hp with q | ⟨q1, q2⟩
          · exact .inl q
          · exact .inr ⟨by rw [hw', q1, Bool.or_true], q2, hA _ _⟩
def wset (ops : Array Oper) (m : Bool) : List Nat := (List.range ops.size).filter fun i => match ops[i]? with | some o => m || isW o.op | none => false
theorem wset_spec {ops : Array Oper} {m : Bool} (i : Nat) (o : Oper) (h : ops[i]? = some o) : (wset ops m).contains i = (m || isW o.op) := by
  have hlt := (Array.getElem?_eq_some_iff.1 h).1
  rw [Bool.eq_iff_iff]
  simp only [wset, List.contains_iff_mem, List.mem_filter, List.mem_range, h]
  exact ⟨fun q => q.2, fun q => ⟨hlt, q⟩⟩
theorem wset_fl {ops : Array Oper} {m : Bool} (i : Nat) : flW ops (wset ops m) i = false := by
  unfold flW
  rw [← Bool.not_eq_true]
  simp only [wset, List.contains_iff_mem, List.mem_filter, List.mem_range]
  omega
theorem wset_aW {ops : Array Oper} {m : Bool} (x id : Nat) : aW ops (wset ops m) x id = false := by
  unfold aW
  rw [← Bool.not_eq_true]
  simp only [wset, List.contains_iff_mem, List.mem_filter, List.mem_range]
  omega
theorem vwp_region_run {P : Program} {Q : VPost} {e : List V} {s : Store} {n : Nat} {id : Nat} {ops : Array Oper} (h : vrun P ops true (Q .normal) ops.toList e s n) : vwp P (.region id ops false) Q e s n := by
  refine vwp_region (wset ops true) ?_
  have := vrun_list wset_fl wset_aW wset_spec ops.toList 0 e s n (fun j o hj => by simpa using hj) h
  rw [← List.range_eq_range'] at this
  simpa using this
theorem vwp_draw_run {P : Program} (hm : P.follows .mixedOrders = true) {Q : VPost} {e : List V} {s : Store} {n : Nat} {id : Nat} {ops : Array Oper} (hB : regB ops (wset ops false) = true) (h : vrun P ops false (Q .normal) ops.toList e s n) : vwp P (.region id ops true) Q e s n := by
  refine vwp_region_draw hm (wset ops false) hB ?_
  have := vrun_list wset_fl wset_aW wset_spec ops.toList 0 e s n (fun j o hj => by simpa using hj) h
  rw [← List.range_eq_range'] at this
  simpa using this
theorem vop_wid {P : Program} {ρ : Operand → V} {s : Store} {n : Nat} {op : Op} {out : Out} (h : vop P ρ s n op = some out) : ∀ p ∈ out.2.1, n ≤ p.1 ∧ p.1 < out.2.2 ∨ isW op = true ∧ s p.1 ≠ none ∧ ∃ z ∈ op.operands, (ρ z).tid = some p.1 := by
  intro p hp
  rcases (vop_keys h).2 p hp with q | ⟨hw, q⟩
  · exact .inl q
  by_cases hnew : n ≤ p.1 ∧ p.1 < out.2.2
  · exact .inl hnew
  refine .inr ⟨hw, q, ?_⟩
  cases op with
  | store t a x =>
    simp only [vop] at h
    split at h
    · obtain ⟨us, hus, rfl⟩ := Option.map_eq_some_iff.1 h
      unfold vstore at hus
      split at hus
      · rename_i hax
        split at hus
        · split at hus
          · obtain ⟨cs, _, rfl⟩ := Option.map_eq_some_iff.1 hus
            simp at hp
            subst hp
            exact ⟨a, by simp [Op.operands], by rw [hax]; rfl⟩
          · cases hus
        · cases hus
      · cases hus
    · cases h
  | mapUpdate t m k v =>
    simp only [vop] at h
    obtain ⟨us, hus, rfl⟩ := Option.map_eq_some_iff.1 h
    unfold vupdate at hus
    split at hus
    · split at hus
      · cases hus
      · split at hus
        · split at hus
          · rename_i hm
            split at hus
            · split at hus
              · cases hus
                simp at hp
                subst hp
                exact ⟨m, by simp [Op.operands], by rw [hm]; rfl⟩
              · cases hus
                simp at hp
                subst hp
                exact ⟨m, by simp [Op.operands], by rw [hm]; rfl⟩
              · cases hus
            · cases hus
          · cases hus
        · cases hus
    · cases hus
  | call c =>
    obtain ⟨callee, args, ts⟩ := c
    cases callee with
    | value f => cases h
    | invoke f m => cases h
    | builtin b =>
      have hoper : ∀ v ∈ args.toList.map ρ, ∃ z ∈ (Op.call ⟨.builtin b, args, ts⟩).operands, ρ z = v := fun v hv => by
        obtain ⟨x, hx, rfl⟩ := List.mem_map.1 hv
        exact ⟨x, by simp [Op.operands, Call.operands]; simpa using hx, rfl⟩
      simp only [vop] at h
      generalize args.toList.map ρ = vs at h hoper
      unfold vbuiltin at h
      split at h
      · split at h
        · obtain ⟨_, _, rfl⟩ := Option.map_eq_some_iff.1 h; simp at hp
        · cases h
      · obtain ⟨z, hz1, hz2⟩ := hoper _ List.mem_cons_self
        split at h
        · split at h
          · split at h
            · obtain ⟨ys, _, h⟩ := Option.bind_eq_some_iff.1 h
              unfold vappend at h
              split at h
              · split at h
                · cases h; simp at hp
                · split at h
                  · cases h
                    simp at hp
                    subst hp
                    exact absurd ⟨Nat.le_refl _, Nat.lt_succ_self _⟩ hnew
                  · cases h
              · split at h
                · split at h
                  · split at h <;>
                      (cases h
                       simp at hp
                       subst hp
                       exact ⟨z, hz1, by rw [hz2]; rfl⟩)
                  · cases h
                · cases h
              · cases h
            · cases h
          · cases h
        · cases h
      · obtain ⟨_, _, rfl⟩ := Option.map_eq_some_iff.1 h; simp at hp
      · obtain ⟨_, _, rfl⟩ := Option.map_eq_some_iff.1 h; simp at hp
      · cases h
  | _ => simp [isW] at hw
def niA (A : List Nat) (id : Nat) : Bool := A.all fun a => !Nat.beq a id
theorem niA_not {A : List Nat} {id : Nat} (h : niA A id = true) : A.contains id = false := by
  rw [← Bool.not_eq_true]
  intro hc
  have := List.all_eq_true.1 h id (by simpa using hc)
  simp at this
def vrunA (P : Program) (ops : Array Oper) (F A : List Nat) (K : List V → Store → Nat → Prop) : Nat → List Oper → List V → Store → Nat → Prop
  | _, [], e, s, n => K e s n
  | i, o :: r, e, s, n => match vwanted ops e o with
    | none => False
    | some false => vrunA P ops F A K (i + 1) r (vput e o.dst (.tuple [])) s n
    | some true => (F.contains i = true → lfOp o.op = true → ∀ z ∈ o.op.operands, ∀ id, (veval e z).tid = some id → A.contains id = true) ∧ (isW o.op = true → ∀ z ∈ o.op.operands, ∀ id, (veval e z).tid = some id → niA A id = true) ∧ match isCall o.op with
      | true => CallK P false o e s n (vrunA P ops F A K (i + 1) r)
      | false => match vop P (veval e) s n o.op with
        | none => False
        | some out => vrunA P ops F A K (i + 1) r (vput e o.dst out.1) (upd s out.2.1) out.2.2
theorem vrunA_list {P : Program} {ops : Array Oper} {W F A : List Nat} {K : List V → Store → Nat → Prop} (hF : ∀ i, i < ops.size → flW ops W i = F.contains i) (hA : ∀ x id, x < ops.size → aW ops W x id = A.contains id) (hW : ∀ (i : Nat) (o : Oper), ops[i]? = some o → W.contains i = isW o.op) : ∀ (l : List Oper) (i : Nat) (e : List V) (s : Store) (n : Nat), (∀ j o, l[j]? = some o → ops[i + j]? = some o) → vrunA P ops F A K i l e s n → vlist P ops W K (List.range' i l.length) e s n
  | [], i, e, s, n, _, h => h
  | o :: r, i, e, s, n, hl, h => by
    have ho : ops[i]? = some o := by simpa using hl 0 o rfl
    have hlt := (Array.getElem?_eq_some_iff.1 ho).1
    have hw' := hW i o ho
    simp only [List.length_cons, List.range'_succ, vlist]
    refine ⟨o, ho, ?_⟩
    have ih := fun e s n => vrunA_list (P := P) (ops := ops) (W := W) (K := K) hF hA hW r (i + 1) e s n (fun j o' hj => by have := hl (j + 1) o' (by simpa using hj); rwa [show i + 1 + j = i + (j + 1) by omega])
    simp only [vrunA] at h
    split at h
    · exact h.elim
    · rename_i hw
      exact .inl ⟨hw, ih _ _ _ h⟩
    · rename_i hw
      right
      obtain ⟨hf, hn, h⟩ := h
      have hfl : flatAt ops W i (flW ops W i) o.op (veval e) := fun q1 q2 z hz id hid x hx _ _ => by rw [hA x id hx]; exact hf (by rw [← hF i hlt]; exact q1) q2 z hz id hid
      split at h
      · rename_i hc
        obtain ⟨out, h1, h2, h3, h4⟩ := h
        have hm : isW o.op = false := by
          cases ho' : o.op <;> rw [ho'] at hc <;> simp [isCall] at hc
          rename_i c
          obtain ⟨callee, args, ts⟩ := c
          cases callee <;> simp at hc
          rfl
        rw [hm] at hw'
        rw [hw']
        exact ⟨hw, out, h1, h2, fun p hp => (h3 p hp).imp_right (fun q => absurd q.1 (by decide)), hfl, ih _ _ _ h4⟩
      · split at h
        · exact h.elim
        · rename_i out hv
          refine ⟨hw, out, .inl (.op hv (vop_keys hv).1), (vop_keys hv).1, fun p hp => ?_, hfl, ih _ _ _ h⟩
          rcases vop_wid hv p hp with q | ⟨q1, q2, z, hz, hid⟩
          · exact .inl q
          · exact .inr ⟨by rw [hw', q1], q2, by rw [hA i _ hlt]; exact niA_not (hn q1 z hz _ hid)⟩
def wsC (ops : Array Oper) (W0 F : List Nat) (C : List (Nat × Nat)) : List Nat := W0 ++ ((F.filter fun x => Nat.blt x ops.size).map (fun x => ops.size + 1 + x) ++ (C.filter fun p => Nat.blt p.1 ops.size).map fun p => 2 * ops.size + 2 + (p.2 * ops.size + p.1))
section
variable {ops : Array Oper} {W0 F : List Nat} {C : List (Nat × Nat)}
theorem wsC_W {x : Nat} (hx : x < ops.size) : (wsC ops W0 F C).contains x = W0.contains x := by
  rw [Bool.eq_iff_iff]
  simp only [wsC, List.contains_iff_mem, List.mem_append, List.mem_map, List.mem_filter, Nat.blt_eq]
  constructor
  · rintro (h | ⟨y, _, hq⟩ | ⟨y, _, hq⟩)
    · exact h
    · omega
    · generalize y.2 * ops.size = z at hq; omega
  · exact .inl
variable (hW0 : ∀ x ∈ W0, x < ops.size)
include hW0
theorem wsC_F {i : Nat} (hi : i < ops.size) : flW ops (wsC ops W0 F C) i = F.contains i := by
  rw [Bool.eq_iff_iff]
  simp only [flW, wsC, List.contains_iff_mem, List.mem_append, List.mem_map, List.mem_filter, Nat.blt_eq]
  constructor
  · rintro (h | ⟨y, hy, hq⟩ | ⟨y, _, hq⟩)
    · have := hW0 _ h; omega
    · obtain rfl : y = i := by omega
      exact hy.1
    · generalize y.2 * ops.size = z at hq; omega
  · exact fun h => .inr (.inl ⟨i, ⟨h, hi⟩, rfl⟩)
theorem wsC_A {x id : Nat} (hx : x < ops.size) : aW ops (wsC ops W0 F C) x id = true ↔ (x, id) ∈ C := by
  simp only [aW, wsC, List.contains_iff_mem, List.mem_append, List.mem_map, List.mem_filter, Nat.blt_eq]
  constructor
  · rintro (h | ⟨y, hy, hq⟩ | ⟨y, hy, hq⟩)
    · have := hW0 _ h; generalize id * ops.size = z at this; omega
    · generalize id * ops.size = z at hq; omega
    · have h1 : y.2 * ops.size + y.1 = id * ops.size + x := by
        generalize y.2 * ops.size = z at hq ⊢
        generalize id * ops.size = z2 at hq ⊢
        omega
      have h2 : y.1 = x := by
        have := congrArg (· % ops.size) h1
        simp only [Nat.mul_add_mod_self_right, Nat.mod_eq_of_lt hx, Nat.mod_eq_of_lt hy.2] at this
        exact this
      have h3 : y.2 = id := by
        rw [h2] at h1
        exact Nat.eq_of_mul_eq_mul_right (by omega) (Nat.add_right_cancel h1)
      obtain ⟨y1, y2⟩ := y
      simp only at h2 h3
      subst h2 h3
      exact hy.1
  · exact fun h => .inr (.inr ⟨(x, id), ⟨h, hx⟩, rfl⟩)
theorem wsC_regB (C2 : List (Nat × Nat)) : regB ops (wsC ops W0 F C) = regB ops (wsC ops W0 F C2) := by
  have hind : ∀ x y, indep ops (wsC ops W0 F C) x y = indep ops (wsC ops W0 F C2) x y := fun x y => by
    unfold indep
    cases hx : ops[x]? with
    | none => rfl
    | some ox =>
      cases hy : ops[y]? with
      | none => rfl
      | some oy =>
        have h1 := (Array.getElem?_eq_some_iff.1 hx).1
        have h2 := (Array.getElem?_eq_some_iff.1 hy).1
        simp only [wsC_W h1, wsC_W h2, wsC_F hW0 h1, wsC_F hW0 h2]
  unfold regB
  simp only [hind]
end
def wsA (ops : Array Oper) (F A : List Nat) : List Nat := wsC ops (wset ops false) F (A.flatMap fun a => (List.range ops.size).map fun x => (x, a))
theorem wset_lt {ops : Array Oper} {m : Bool} : ∀ x ∈ wset ops m, x < ops.size := fun _ hx => List.mem_range.1 (List.mem_filter.1 hx).1
theorem vwp_draw_runA {P : Program} (hm : P.follows .mixedOrders = true) {Q : VPost} {e : List V} {s : Store} {n : Nat} {id : Nat} {ops : Array Oper} (F A : List Nat) (hB : regB ops (wsA ops F A) = true) (h : vrunA P ops F A (Q .normal) 0 ops.toList e s n) : vwp P (.region id ops true) Q e s n := by
  refine vwp_region_draw hm (wsA ops F A) hB ?_
  have := vrunA_list (W := wsA ops F A) (F := F) (A := A) (fun i hi => wsC_F wset_lt hi) (fun x id hx => by
    rw [Bool.eq_iff_iff]
    refine (wsC_A wset_lt hx).trans ?_
    simp only [List.mem_flatMap, List.mem_map, List.mem_range, Prod.mk.injEq, List.contains_iff_mem]
    constructor
    · rintro ⟨a, ha, y, _, _, rfl⟩; exact ha
    · exact fun h => ⟨id, h, x, hx, rfl, rfl⟩) (fun i o ho => by
    have hlt := (Array.getElem?_eq_some_iff.1 ho).1
    unfold wsA
    rw [wsC_W hlt, wset_spec (m := false) i o ho, Bool.false_or]) ops.toList 0 e s n (fun j o hj => by simpa using hj) h
  rw [← List.range_eq_range'] at this
  simpa using this
def vrunF (P : Program) (ops : Array Oper) (F : List Nat) (K : List V → Store → Nat → Prop) : Nat → List Oper → List V → Store → Nat → Prop
  | _, [], e, s, n => K e s n
  | i, o :: r, e, s, n => match vwanted ops e o with
    | none => False
    | some false => vrunF P ops F K (i + 1) r (vput e o.dst (.tuple [])) s n
    | some true => (F.contains i = true → lfOp o.op = true → ∀ z ∈ o.op.operands, (veval e z).tid = none) ∧ match vop P (veval e) s n o.op with
        | none => False
        | some out => vrunF P ops F K (i + 1) r (vput e o.dst out.1) (upd s out.2.1) out.2.2
theorem vrunF_A {P : Program} {ops : Array Oper} {F : List Nat} {K : List V → Store → Nat → Prop} : ∀ (l : List Oper) (i : Nat) (e : List V) (s : Store) (n : Nat), vrunF P ops F K i l e s n → vrunA P ops F [] K i l e s n
  | [], _, _, _, _, h => h
  | o :: r, i, e, s, n, h => by
    simp only [vrunF] at h
    simp only [vrunA]
    split at h
    · exact h.elim
    · rename_i hw
      exact vrunF_A r _ _ _ _ h
    · rename_i hw
      obtain ⟨hf, h⟩ := h
      refine ⟨fun q1 q2 z hz id hid => (by rw [hf q1 q2 z hz] at hid; cases hid), fun _ _ _ _ _ => rfl, ?_⟩
      split at h
      · exact h.elim
      · rename_i out hv
        have hc : isCall o.op = false := by
          cases ho' : o.op <;> rw [ho'] at hv <;> try rfl
          rename_i c
          obtain ⟨callee, args, ts⟩ := c
          cases callee <;> first | rfl | cases hv
        rw [hc]
        exact vrunF_A r _ _ _ _ h
def wflat (ops : Array Oper) (F : List Nat) : List Nat := wsA ops F []
theorem vwp_draw_runF {P : Program} (hm : P.follows .mixedOrders = true) {Q : VPost} {e : List V} {s : Store} {n : Nat} {id : Nat} {ops : Array Oper} (F : List Nat) (hB : regB ops (wflat ops F) = true) (h : vrunF P ops F (Q .normal) 0 ops.toList e s n) : vwp P (.region id ops true) Q e s n := vwp_draw_runA hm F [] hB (vrunF_A _ _ _ _ _ h)
end Go.Vm
namespace Go.Vm
open Go.RowKit
abbrev noG : Gh := fun _ _ => none
abbrev noS : Store := fun _ => none
inductive Pk (s : Store) : V → V → Prop where
  | keep {v} (h : Vlt 0 v) : Pk s v v
  | any {v} : Pk s v .any
  | nil {m} : Pk s .nil (.list m [])
  | row {id g i n m G L : Nat} {e : TypeId} {xs ys : List (List V)} (hs : s id = some (.cells e m G L xs)) (hg : L ≤ g ∧ g ≤ G) (hl : ys.length = n) (hm : ∀ ds ∈ ys, ds.length = m ∧ ∀ v ∈ ds, v.one = true)
      (h : ∀ (k j : Nat) (cs ds : List V) (v u : V), xs[i + k]? = some cs → ys[k]? = some ds → cs[j]? = some v → ds[j]? = some u → Pk s v u) : Pk s (.row id g i n) (.list m ys)
  | list {m : Nat} {xs ys : List (List V)} (hl : xs.length = ys.length) (hm : ∀ ds ∈ ys, ds.length = m ∧ ∀ v ∈ ds, v.one = true)
      (h : ∀ (k j : Nat) (cs ds : List V) (v u : V), xs[k]? = some cs → ys[k]? = some ds → cs[j]? = some v → ds[j]? = some u → Pk s v u) : Pk s (.list m xs) (.list m ys)
  | ptr {id g i o m G L : Nat} {e : TypeId} {xs : List (List V)} {cs ds : List V} (hs : s id = some (.cells e m G L xs)) (hg : L ≤ g ∧ g ≤ G) (hx : xs[i]? = some cs) (hl : ds.length + o = m) (ho : ∀ v ∈ ds, v.one = true)
      (h : ∀ (j : Nat) (v u : V), cs[o + j]? = some v → ds[j]? = some u → Pk s v u) : Pk s (.ptr id g i o) (.iptr ds)
  | iptr {cs ds : List V} (hl : cs.length = ds.length) (ho : ∀ v ∈ ds, v.one = true) (h : ∀ (j : Nat) (v u : V), cs[j]? = some v → ds[j]? = some u → Pk s v u) : Pk s (.iptr cs) (.iptr ds)
  | agg {cs ds : List V} (hl : cs.length = ds.length) (ho : ∀ v ∈ ds, v.one = true) (h : ∀ (j : Nat) (v u : V), cs[j]? = some v → ds[j]? = some u → Pk s v u) : Pk s (.agg cs) (.agg ds)
  | tuple {cs ds : List V} (hl : cs.length = ds.length) (h : ∀ (j : Nat) (v u : V), cs[j]? = some v → ds[j]? = some u → Pk s v u) : Pk s (.tuple cs) (.tuple ds)
  | func {fn : Fn} {cs ds : List V} (hl : cs.length = ds.length) (h : ∀ (j : Nat) (v u : V), cs[j]? = some v → ds[j]? = some u → Pk s v u) : Pk s (.func fn [] cs) (.func fn [] ds)
section
variable {w w' : World} {Sb Sb' : Nat → Prop} {G : Gh} {s : Store}
theorem Pk.rv (hs : WSim w Sb G s) {v v' : V} (hp : Pk s v v') : ∀ {u : Value}, Rv w Sb G v u → Rv w (fun b => Sb b ∨ Own s G b) noG v' u := by
  induction hp with
  | keep h => exact fun hv => (h.rv hv (G' := noG) (fun id k E hid => absurd hid (by omega))).mono (fun _ _ => rfl) (fun _ h => .inl h) (fun _ _ _ h => h)
  | any => exact fun _ => .any _
  | nil => exact fun hv => by cases hv; exact .list0 (Nat.zero_le _)
  | @row id g i n m G0 L e xs ys hst hg hl hm h ih =>
    intro u hv
    cases hv with
    | @row _ _ _ _ c E a hG hn hw hc hsome ha =>
      obtain ⟨hm0, hL, hcs, hT, hlen, _⟩ := hs.blk id _ hst
      obtain ⟨E', hE', hT⟩ := hT g hg.1 hg.2
      rw [hG] at hE'
      cases hE'
      have hTT := hT
      obtain ⟨cur, hwid, hheap, hsz, hlc, hcm, hlx, _⟩ := hT
      by_cases hn0 : n = 0
      · subst hn0
        have : ys = [] := List.eq_nil_of_length_eq_zero hl
        subst this
        exact .list0 (by omega)
      · rw [ha (.inr (by omega))]
        rw [← hl]
        have hget : ∀ k, k < ys.length → ∃ cs, xs[i + k]? = some cs ∧ cs.length = m := fun k hk => by
          have : i + k < xs.length := by omega
          exact ⟨_, List.getElem?_eq_getElem this, (hcs _ (List.getElem_mem this)).1⟩
        have hcell : ∀ (k : Nat) (ds : List V) (j : Nat) (v : V), ys[k]? = some ds → ds[j]? = some v → ∃ cs v0, xs[i + k]? = some cs ∧ cs[j]? = some v0 ∧ w.cell? ⟨E.blk, i * E.wid + k * m + j, none⟩ = some ((w.cell? ⟨E.blk, i * E.wid + k * m + j, none⟩).getD undef) ∧ Rv w Sb G v0 ((w.cell? ⟨E.blk, i * E.wid + k * m + j, none⟩).getD undef) := fun k ds j v h1 h2 => by
          have hk : k < ys.length := (List.getElem?_eq_some_iff.1 h1).1
          obtain ⟨cs, q1, q2⟩ := hget k hk
          have hj : j < cs.length := by
            have := (List.getElem?_eq_some_iff.1 h2).1
            rw [(hm ds (List.mem_of_getElem? h1)).1] at this
            omega
          obtain ⟨u, r1, r2⟩ := turn_cells hTT (show i + k < E.len by omega) q1 j _ (List.getElem?_eq_getElem hj)
          have hadd : (i + k) * E.wid + j = i * E.wid + k * m + j := by rw [hwid, Nat.add_mul]
          rw [hadd] at r1
          exact ⟨cs, _, q1, List.getElem?_eq_getElem hj, by rw [r1]; rfl, by rw [r1]; exact r2⟩
        refine .list (fun k j => (w.cell? ⟨E.blk, i * E.wid + k * m + j, none⟩).getD undef) (.inr ⟨id, g, E, (live_cells hst).2 hg, hG, rfl⟩) hm0 (by omega) (by omega) (fun k ds q => (hm ds (List.mem_of_getElem? q)).1) (fun k ds v q r => (hm ds (List.mem_of_getElem? q)).2 v r) (fun k ds j v q r => ?_) (fun k ds j v q r => ?_)
        · obtain ⟨_, _, _, _, t, _⟩ := hcell k ds j v q r
          exact t
        · obtain ⟨cs, v0, t1, t2, _, t3⟩ := hcell k ds j v q r
          exact ih k j cs ds v0 v t1 q t2 r t3
  | @list m xs ys hl hm h ih =>
    intro u hv
    cases hv with
    | list f hb hm' hc hcm hl' ho hcell hv =>
      rw [hl] at hc ⊢
      have hcs : ∀ (k : Nat) (ds : List V) (j : Nat) (v : V), ys[k]? = some ds → ds[j]? = some v → ∃ cs v0, xs[k]? = some cs ∧ cs[j]? = some v0 := fun k ds j v h1 h2 => by
        have hk : k < xs.length := by rw [hl]; exact (List.getElem?_eq_some_iff.1 h1).1
        have hj : j < xs[k].length := by
          rw [hl' k _ (List.getElem?_eq_getElem hk), ← (hm ds (List.mem_of_getElem? h1)).1]
          exact (List.getElem?_eq_some_iff.1 h2).1
        exact ⟨xs[k], _, List.getElem?_eq_getElem hk, List.getElem?_eq_getElem hj⟩
      refine .list f (.inl hb) hm' hc hcm (fun k ds q => (hm ds (List.mem_of_getElem? q)).1) (fun k ds v q r => (hm ds (List.mem_of_getElem? q)).2 v r) (fun k ds j v q r => ?_) (fun k ds j v q r => ?_)
      · obtain ⟨cs, v0, t1, t2⟩ := hcs k ds j v q r
        exact hcell k cs j v0 t1 t2
      · obtain ⟨cs, v0, t1, t2⟩ := hcs k ds j v q r
        exact ih k j cs ds v0 v t1 q t2 r (hv k cs j v0 t1 t2)
    | list0 hcm =>
      have : ys = [] := List.eq_nil_of_length_eq_zero (by rw [← hl]; rfl)
      subst this
      exact .list0 hcm
  | @ptr id g i o m G0 L e xs cs ds hst hg hx hl ho h ih =>
    intro u hv
    cases hv with
    | @ptr _ _ _ _ E hG hi hlt =>
      obtain ⟨hm0, hL, hcs, hT, hlen, _⟩ := hs.blk id _ hst
      obtain ⟨E', hE', hT⟩ := hT g hg.1 hg.2
      rw [hG] at hE'
      cases hE'
      have hTT := hT
      obtain ⟨cur, hwid, hheap, _⟩ := hT
      have hcl := (hcs cs (List.mem_of_getElem? hx)).1
      have hcell : ∀ (j : Nat) (v : V), ds[j]? = some v → ∃ v0, cs[o + j]? = some v0 ∧ w.cell? ⟨E.blk, i * E.wid + o + j, none⟩ = some ((w.cell? ⟨E.blk, i * E.wid + o + j, none⟩).getD undef) ∧ Rv w Sb G v0 ((w.cell? ⟨E.blk, i * E.wid + o + j, none⟩).getD undef) := fun j v hj => by
        have hj' : o + j < cs.length := by have := (List.getElem?_eq_some_iff.1 hj).1; omega
        obtain ⟨u, r1, r2⟩ := turn_cells hTT hi hx (o + j) _ (List.getElem?_eq_getElem hj')
        rw [show i * E.wid + (o + j) = i * E.wid + o + j by omega] at r1
        exact ⟨_, List.getElem?_eq_getElem hj', by rw [r1]; rfl, by rw [r1]; exact r2⟩
      refine .iptr (fun j => (w.cell? ⟨E.blk, i * E.wid + o + j, none⟩).getD undef) (.inr ⟨id, g, E, (live_cells hst).2 hg, hG, rfl⟩) (by omega) ho (fun j v q => ?_) (fun j v q => ?_)
      · obtain ⟨_, _, t, _⟩ := hcell j v q
        exact t
      · obtain ⟨v0, t1, _, t3⟩ := hcell j v q
        exact ih j v0 v t1 q t3
  | @iptr cs ds hl ho h ih =>
    intro u hv
    cases hv with
    | iptr f hb hn ho' hcell hv =>
      have hcs : ∀ (j : Nat) (v : V), ds[j]? = some v → ∃ v0, cs[j]? = some v0 := fun j v q => by
        have : j < cs.length := by rw [hl]; exact (List.getElem?_eq_some_iff.1 q).1
        exact ⟨_, List.getElem?_eq_getElem this⟩
      refine .iptr f (.inl hb) (by omega) ho (fun j v q => ?_) (fun j v q => ?_)
      · obtain ⟨v0, t⟩ := hcs j v q; exact hcell j v0 t
      · obtain ⟨v0, t⟩ := hcs j v q; exact ih j v0 v t q (hv j v0 t)
  | @agg cs ds hl ho h ih =>
    intro u hv
    cases hv with
    | agg h1 _ h2 =>
      refine .agg (h1.trans hl) ho fun j v u q r => ?_
      have hj : j < cs.length := by rw [hl]; exact (List.getElem?_eq_some_iff.1 q).1
      exact ih j _ v (List.getElem?_eq_getElem hj) q (h2 j _ u (List.getElem?_eq_getElem hj) r)
  | @tuple cs ds hl h ih =>
    intro u hv
    cases hv with
    | tuple h1 h2 =>
      refine .tuple (h1.trans hl) fun j v u q r => ?_
      have hj : j < cs.length := by rw [hl]; exact (List.getElem?_eq_some_iff.1 q).1
      exact ih j _ v (List.getElem?_eq_getElem hj) q (h2 j _ u (List.getElem?_eq_getElem hj) r)
  | @func fn cs ds hl h ih =>
    intro u hv
    cases hv with
    | func g1 g2 g3 g4 =>
      refine .func g1 (g2.trans hl) (fun i v u a => by simp at a) fun j v u q r => ?_
      have hj : j < cs.length := by rw [hl]; exact (List.getElem?_eq_some_iff.1 q).1
      exact ih j _ v (List.getElem?_eq_getElem hj) q (g4 j _ u (List.getElem?_eq_getElem hj) r)
theorem WSim.none (h : ∀ b, Sb b → b < w.heap.size) : WSim w Sb noG noS := ⟨h, fun _ _ h => (by cases h), fun _ _ _ h => False.elim h, fun _ _ _ _ _ _ h => False.elim h⟩
theorem not_own {b : Nat} (h : Own noS noG b) : False := by obtain ⟨_, _, _, h, _⟩ := h; exact False.elim h
theorem WSim.own_lt (hs : WSim w Sb G s) {b : Nat} (h : Own s G b) : b < w.heap.size := by
  obtain ⟨id, k, E, h1, h2, rfl⟩ := h
  obtain ⟨E', q1, q2⟩ := hs.ent h1
  rw [h2] at q1
  cases q1
  exact q2
theorem Nxt.frame (hs : WSim w Sb G s) (h1 : w'.os = w.os) (h2 : w'.tape = w.tape) (h3 : w'.output = w.output) (h4 : w.heap.size ≤ w'.heap.size) (hk : ∀ b, b < w.heap.size → w'.heap[b]? = w.heap[b]?) (hsub : ∀ b, Sb' b → b < w'.heap.size) (hsb : ∀ b, Sb b → Sb' b) (hn : ∀ b, Sb' b → Sb b ∨ w.heap.size ≤ b) : Nxt w Sb G s w' Sb' G s := by
  have hE : ∀ id k E, live s id k → G id k = some E → E.blk < w.heap.size := fun id k E hl hE => hs.own_lt ⟨id, k, E, hl, hE, rfl⟩
  refine ⟨⟨hsub, fun id b hb => (hs.blk id b hb).mono (fun k E q1 q2 => hk _ (hE id k E (by unfold live at q2 ⊢; rw [hb]; exact q2) q1)) (fun b hb => hk b (hs.sub b hb)) hsb (fun _ _ _ h => h) (fun _ => rfl), fun id k E hl hE' hS => ?_, hs.dis⟩, h1, h2, h3, h4, fun b hb _ => hk b hb, fun _ h => .inl h, hsb, fun _ _ _ h => h, fun b hb => (hn b hb).elim .inl fun q => .inr (.inr q)⟩
  rcases hn _ hS with q | q
  · exact hs.off id k E hl hE' q
  · have := hE id k E hl hE'; omega
end
def VPure (P : Program) (f : FuncId) (args : List V) (v : V) : Prop :=
  ∀ w Sb us, (∀ b, Sb b → b < w.heap.size) → Rvs w Sb noG args us → Calls P f us.toArray w fun e w' => ∃ u Sb', e = .returned u ∧ Nxt w Sb noG noS w' Sb' noG noS ∧ Rv w' Sb' noG v u
def RetP (P : Program) (rs : Array ResultVar) (v : V) : VPost := fun x e s _ => (x = .normal ∨ x = .ret) ∧ ∃ vs, vresults P s e rs.toList = some vs ∧ Pk s (vjoin vs) v
theorem vpure_body {P : Program} {f : FuncId} {fn : Func} {c : Code} {args : List V} {v : V} {n0 : Nat} (hf : P.funcs[f]? = some fn) (hb : fn.body = some c)
    (h : vwp P c (RetP P fn.results v) (args ++ List.replicate (fn.ntmps - args.length) (.tuple [])) noS n0) : VPure P f args v := by
  intro w Sb us hsub hargs
  have hs : WSim w Sb noG noS := .none hsub
  have hlen := hargs.1
  refine calls_vwp hf hb h ?_ hs (fun _ _ => ⟨rfl, fun _ => rfl⟩) ?_
  · have : us.toArray.toList ++ List.replicate (fn.ntmps - us.toArray.size) undef = us ++ List.replicate (fn.ntmps - args.length) undef := by simp [hlen]
    rw [this]
    exact hargs.append ⟨by simp, fun i v u a b => by
      rw [List.getElem?_replicate] at a b
      split at a
      · rename_i hi
        rw [if_pos hi] at b
        cases a
        cases b
        exact undef_rv
      · cases a⟩
  · rintro x e' s' n' Sb' G' w' tmps ⟨hx, vs, hvs, hcl⟩ r1 r2
    obtain ⟨u, q1, q2⟩ := results_rv (P := P) (a := ⟨tmps, []⟩) r2.nxt.sim r1 hvs
    have hu := hcl.rv r2.nxt.sim q2
    have hN : Nxt w Sb noG noS w' (fun b => Sb' b ∨ Own s' G' b) noG noS := by
      refine ⟨.none fun b hb => hb.elim (r2.nxt.sim.sub b) r2.nxt.sim.own_lt, r2.nxt.os, r2.nxt.tape, r2.nxt.output, r2.nxt.size, r2.nxt.keep, fun b hb => (not_own hb).elim, fun b hb => .inl (r2.nxt.sb b hb), fun _ _ _ h => h, fun b hb => ?_⟩
      rcases hb with hb | hb
      · exact r2.nxt.sbn b hb
      · exact .inr (r2.nxt.own b hb)
    exact ⟨hx, u, q1, u, _, rfl, hN, hu⟩
section
variable {P : Program} {f : FuncId} {args : List V} {v : V}
theorem VPure.call (h : VPure P f args v) (ha : ∀ a ∈ args, Vlt 0 a) (st : Store) (n : Nat) : VCall P f args st n (v, [], n) := by
  intro w Sb G us N hs hfr hN1 hN2 hN3 hargs
  refine (h w Sb us hs.sub ⟨hargs.1, fun i v u q r => (ha v (List.mem_of_getElem? q)).rv (hargs.2 i v u q r) (fun id k E hid => absurd hid (by omega))⟩).mono ?_
  rintro e w' ⟨u, Sb', rfl, hN, hv⟩
  refine ⟨u, Sb', G, rfl, Nxt.frame hs hN.os hN.tape hN.output hN.size (fun b hb => hN.keep b hb not_own) hN.sim.sub hN.sb (fun b hb => (hN.sbn b hb).elim .inl fun q => q.elim (fun q => (not_own q).elim) .inr), hv.mono (fun _ _ => rfl) (fun _ h => h) (fun _ _ _ h => by cases h), fun _ _ _ _ => rfl⟩
def V.flat : V → Bool
  | .int .. | .bool _ | .str _ | .nil | .nilptr | .nilmap | .nilfunc | .any => true
  | .tuple vs => vs.all fun | .int .. | .bool _ | .str _ | .nil | .nilptr | .nilmap | .nilfunc | .any => true | _ => false
  | .agg vs => vs.all fun | .int .. | .bool _ | .str _ | .nil | .nilptr | .nilmap | .nilfunc | .any => true | _ => false
  | _ => false
theorem flat_rv {w : World} {Sb Sb' : Nat → Prop} {G G' : Gh} {v : V} {u : Value} (hf : v.flat = true) (h : Rv w Sb G v u) : Rv w Sb' G' v u := by
  cases h <;> first | (simp [V.flat] at hf; done) | skip
  · exact .int _ _
  · exact .bool _
  · exact .str _
  · exact .nil
  · exact .nilptr
  · exact .nilmap
  · exact .nilfunc
  · rename_i cs us h1 ho h2
    refine .agg h1 ho fun i v u q r => ?_
    have := h2 i v u q r
    have hh := List.all_eq_true.1 hf v (List.mem_of_getElem? q)
    cases this <;> first | (simp at hh; done) | (constructor; done)
  · rename_i cs us h1 h2
    refine .tuple h1 fun i v u q r => ?_
    have := h2 i v u q r
    have hh := List.all_eq_true.1 hf v (List.mem_of_getElem? q)
    cases this <;> first | (simp at hh; done) | (constructor; done)
  · exact .any _
theorem VPure.callp {args' : List V} {st : Store} (h : VPure P f args' v) (hl : args.length = args'.length) (hp : ∀ (i : Nat) (a b : V), args[i]? = some a → args'[i]? = some b → Pk st a b) (hv : v.flat = true) (n : Nat) : VCall P f args st n (v, [], n) := by
  intro w Sb G us N hs hfr hN1 hN2 hN3 hargs
  refine (h w (fun b => Sb b ∨ Own st G b) us (fun b hb => hb.elim (hs.sub b) hs.own_lt) ⟨hargs.1.trans hl, fun i v u q r => ?_⟩).mono ?_
  · have hi : i < args.length := by rw [hl]; exact (List.getElem?_eq_some_iff.1 q).1
    exact (hp i _ v (List.getElem?_eq_getElem hi) q).rv hs (hargs.2 i _ u (List.getElem?_eq_getElem hi) r)
  rintro e w' ⟨u, Sb', rfl, hN, hu⟩
  have hk : ∀ b, b < w.heap.size → w'.heap[b]? = w.heap[b]? := fun b hb => hN.keep b hb not_own
  exact ⟨u, Sb, G, rfl, Nxt.frame hs hN.os hN.tape hN.output hN.size hk (fun b hb => Nat.lt_of_lt_of_le (hs.sub b hb) hN.size) (fun _ h => h) (fun _ h => .inl h), flat_rv hv hu, fun _ _ _ _ => rfl⟩
variable {o : Oper} {cargs : Array Operand} {ts : Array TypeId} {e : List V} {s : Store} {n : Nat} {m : Bool} {K : List V → Store → Nat → Prop}
theorem callK_pure (h : VPure P f args v) (ho : o.op = .call { callee := .value (.func f), args := cargs, argTypes := ts }) (hx : cargs.toList.map (veval e) = args) (hp : plainFunc P f = true) (ha : ∀ a ∈ args, Vlt 0 a) (hK : K (vput e o.dst v) s n) : CallK P m o e s n K := by
  subst hx
  refine ⟨(v, [], n), .inl (.call ho rfl hp (fun st2 _ => ?_) (Nat.le_refl _)), Nat.le_refl _, fun p hp => by simp at hp, hK⟩
  rw [List.nil_append, List.append_nil]
  exact h.call ha st2 n
theorem callK_flat (h : VPure P f args v) (ho : o.op = .call { callee := .value (.func f), args := cargs, argTypes := ts }) (hl : cargs.size = args.length) (hx : ∀ (i : Nat) (a b : V), (cargs.toList.map (veval e))[i]? = some a → args[i]? = some b → Pk s a b) (hp : plainFunc P f = true) (hv : v.flat = true) (hK : K (vput e o.dst v) s n) : CallK P true o e s n K := by
  refine ⟨(v, [], n), .inr ⟨rfl, .mk ho rfl hp ?_ (Nat.le_refl _)⟩, Nat.le_refl _, fun p hp => by simp at hp, hK⟩
  rw [List.nil_append, List.append_nil]
  exact h.callp (by simpa using hl) hx hv n
end
section
variable {n : Nat}
end
end Go.Vm
namespace Go.Vm
open Go.RowKit
def Ends (N : Nat) (s : Store) (e' : List V) (s' : Store) (e2 : List V) (s2 : Store) : Prop :=
  ∃ t ups t2, t2 ≤ N ∧ (∀ id, t ≤ id → id < t2 → s id = some .hole ∧ s' id = some .hole) ∧ Closes s t N s' (.tuple e') (.tuple e2, ups, t2) ∧ s2 = upd s ups
theorem upd_none : ∀ {us : List (Nat × Blk)} {s : Store} {id : Nat}, upd s us id = none → s id = none
  | [], s, id, h => h
  | p :: us, s, id, h => by
    have := upd_none (us := us) (s := put s p.1 p.2) h
    by_cases hi : id = p.1
    · subst hi; simp at this
    · rwa [put_ne _ _ hi] at this
section
variable {P : Program} {Q : VPost} {e : List V} {s : Store} {n : Nat}
theorem vwp_hole {c : Code} (h : vwp P c Q e (put s n .hole) (n + 1)) : vwp P c Q e s n := by
  intro rd md B a w Sb G hrd h1 h2 h3 h4
  have hlv : ∀ id k, live (put s n .hole) id k ↔ live s id k := fun id k => by
    by_cases hi : id = n
    · subst hi
      unfold live
      rw [put_same, (h3 id (Nat.le_refl _)).1]
    · unfold live
      rw [put_ne _ _ hi]
  have how : ∀ b, Own (put s n .hole) G b ↔ Own s G b := fun b => ⟨fun ⟨id, k, E, q1, q2⟩ => ⟨id, k, E, (hlv id k).1 q1, q2⟩, fun ⟨id, k, E, q1, q2⟩ => ⟨id, k, E, (hlv id k).2 q1, q2⟩⟩
  have hs : WSim w Sb G (put s n .hole) := ⟨h2.sub, fun id b hb => by
    by_cases hi : id = n
    · subst hi
      rw [put_same] at hb
      cases hb
      exact (h3 id (Nat.le_refl _)).2
    · rw [put_ne _ _ hi] at hb
      exact h2.blk id b hb, fun id k E q => h2.off id k E ((hlv id k).1 q), fun id k E id' k' E' q q' => h2.dis id k E id' k' E' ((hlv id k).1 q) ((hlv id' k').1 q')⟩
  have hf : Free (put s n .hole) G (n + 1) := fun id hid => ⟨(put_ne _ _ (by omega)).trans (h3 id (by omega)).1, (h3 id (by omega)).2⟩
  refine wpIn_mono (h rd md B a w Sb G hrd h1 hs hf (h4.re fun b q => q.imp_right (how b).1)) fun ex a2 w2 ⟨t0, e2, s2, n2, Sb2, G2, q, t1, t2, t3⟩ => ?_
  refine ⟨t0, e2, s2, n2, Sb2, G2, q, t1, ⟨⟨t2.nxt.sim, t2.nxt.os, t2.nxt.tape, t2.nxt.output, t2.nxt.size, fun b q1 q2 => t2.nxt.keep b q1 (fun q3 => q2 ((how b).1 q3)), fun b q1 => (t2.nxt.own b q1).imp_left (how b).1, t2.nxt.sb, t2.nxt.gh, fun b q1 => (t2.nxt.sbn b q1).imp_right fun q2 => q2.imp_left (how b).1⟩, t2.free, by have := t2.le; omega, fun id hid hs0 => t2.dead id (by omega) ((put_ne _ _ (by omega)).trans hs0)⟩, t3⟩
theorem vwp_loopc {c : Code} (I : Nat → List V → Store → Prop) (m0 : Nat) (e0 : List V) (he : fgE (fun _ => True) e e0) (h0 : I m0 e0 s)
    (round : ∀ m e s, I m e s → vwp P c (fun x e' s' n' => match x with | .normal => ∃ e2 s2, Ends n s e' s' e2 s2 ∧ ∃ m', I m' e2 s2 ∧ m' < m | x => Q x e' s' n') e s n) : vwp P (.loop c) Q e s n := by
  refine vwp_env he ?_
  clear he
  intro rd md B a w Sb G hrd h1 h2 h3 h4
  have key : ∀ m m1 e1 s1 a1 w1 Sb1 G1, I m1 e1 s1 → m1 < m → Rvs w1 Sb1 G1 e1 a1.tmps.toList → Nxt w Sb G s w1 Sb1 G1 s1 → Free s1 G1 n → (∀ id, id < n → s id = none → s1 id = none ∧ ∀ k, G1 id k = G id k) → Marks B w1 Sb1 G1 s1 a1.defers →
      Code.roundsIn (fo rd) md P c (VEnd Q B w Sb G s n) m a1 w1 := by
    intro m
    induction m with
    | zero => intro m1 e1 s1 a1 w1 Sb1 G1 _ h; omega
    | succ m ih =>
      intro m1 e1 s1 a1 w1 Sb1 G1 hI hm r1 hN hF hd r3
      rw [roundsIn_succ]
      have hout : ∀ (ex : Exit) (e2 : List V) (s2 : Store) (n2 : Nat) (w2 : World) (Sb2 : Nat → Prop) (G2 : Gh) (a2 : Act), Q ex e2 s2 n2 → Rvs w2 Sb2 G2 e2 a2.tmps.toList → On w1 Sb1 G1 s1 n w2 Sb2 G2 s2 n2 → Marks B w2 Sb2 G2 s2 a2.defers → ex ≠ .outgrown → VEnd Q B w Sb G s n ex a2 w2 := fun ex e2 s2 n2 w2 Sb2 G2 a2 q t1 t2 t3 t0 =>
        ⟨t0, e2, s2, n2, Sb2, G2, q, t1, ⟨hN.trans t2.nxt, t2.free, t2.le, fun id hid hs0 => by
          obtain ⟨q1, q2⟩ := hd id hid hs0
          obtain ⟨q3, q4⟩ := t2.dead id hid q1
          exact ⟨q3, fun k => (q4 k).trans (q2 k)⟩⟩, t3⟩
      refine wpIn_mono (round m1 e1 s1 hI rd md B a1 w1 Sb1 G1 hrd r1 hN.sim hF r3) fun ex a2 w2 ⟨t0, e2, s2, n2, Sb2, G2, q, t1, t2, t3⟩ => ?_
      cases ex with
      | normal =>
        obtain ⟨e3, s3, ⟨t, ups, tt, u2, u3, u4, rfl⟩, m2, q1, q2⟩ := q
        obtain ⟨G3, Sb3, c1, c2, c3, c4⟩ := close hN.sim hF (fun id a b => .inr (u3 id a b)) u2 t2 (v := .tuple e2) (u := .tuple a2.tmps) (.tuple (by simpa using t1.1) fun i v u a b => t1.2 i v u a (by simpa using b)) u4
        have hr : Rvs w2 Sb3 G3 e3 a2.tmps.toList := by
          cases c2 with
          | tuple x1 x2 => exact ⟨by simpa using x1, fun i v u a b => x2 i v u a (by simpa using b)⟩
        obtain ⟨ks, us, bs, z1, z2, z3, z4, z5, z6, z7, z8, z9⟩ := u4
        simp only at z1 z2
        refine ih m2 e3 _ a2 w2 Sb3 G3 q1 (by omega) hr (hN.trans c1) (fun id hid => ?_) (fun id hid hs0 => ?_) (t3.re c4)
        · have hu : upd s1 ups id = none := by
            rw [upd_ne]
            · exact (hF id hid).1
            · rintro p hp rfl
              rw [z1] at hp
              rcases List.mem_append.1 hp with hp | hp
              · have := z3 p hp; omega
              · have := numbered_keys p hp; omega
          refine ⟨hu, fun k => ?_⟩
          rw [c3 id k (.inr (by simp only; omega)) (hF id hid).1]
          exact (hF id hid).2 k
        · obtain ⟨p1, p2⟩ := hd id hid hs0
          have hno : ¬ (t ≤ id ∧ id < tt) := fun hh => by rw [(u3 id hh.1 hh.2).1] at p1; cases p1
          have hu : upd s1 ups id = none := by
            rw [upd_ne]
            · exact p1
            · rintro p hp rfl
              rw [z1] at hp
              rcases List.mem_append.1 hp with hp | hp
              · have hpl := z3 p hp
                rcases z8 p.1 hpl.1 (by omega) with ⟨_, y2⟩ | ⟨b0, b, y1, _⟩
                · have : upd s1 us p.1 ≠ none := by
                    intro hn
                    have hmem : ∀ {us : List (Nat × Blk)} {s : Store}, p ∈ us → upd s us p.1 ≠ none := by
                      intro us
                      induction us with
                      | nil => intro s h; cases h
                      | cons x us ih =>
                        intro s h
                        rcases List.mem_cons.1 h with rfl | h
                        · intro hh
                          have := upd_none (us := us) hh
                          simp at this
                        · exact ih h
                    exact hmem hp hn
                  rw [y2, p1] at this
                  exact this rfl
                · rw [(t2.dead p.1 hid p1).1] at y1
                  cases y1
              · have := numbered_keys p hp; omega
          refine ⟨hu, fun k => ?_⟩
          rw [c3 id k (by simp only; omega) p1]
          exact p2 k
      | exit id => exact hout _ e2 s2 n2 w2 Sb2 G2 a2 q t1 t2 t3 t0
      | goto l => exact hout _ e2 s2 n2 w2 Sb2 G2 a2 q t1 t2 t3 t0
      | ret => exact hout _ e2 s2 n2 w2 Sb2 G2 a2 q t1 t2 t3 t0
      | panic c => exact hout _ e2 s2 n2 w2 Sb2 G2 a2 q t1 t2 t3 t0
      | outgrown => exact hout _ e2 s2 n2 w2 Sb2 G2 a2 q t1 t2 t3 t0
  exact wpIn_loop_rounds _ (key (m0 + 1) m0 e0 s a w Sb G h0 (by omega) h1 (.refl h2) h3 (fun id _ hs => ⟨hs, fun _ => rfl⟩) h4)
end
theorem vwp_loops {P : Program} {Q : VPost} {e : List V} {s : Store} {n : Nat} {σ : Type} {c : Code} (E : σ → List V) (S : σ → Store) (ok : σ → Prop) (μ : σ → Nat) (x0 : σ) (he : fgE (fun _ => True) e (E x0)) (hs : s = S x0) (h0 : ok x0)
    (round : ∀ x, ok x → vwp P c (fun x' e' s' n' => match x' with | .normal => ∃ y, (ok y ∧ μ y < μ x) ∧ Ends n (S x) e' s' (E y) (S y) | x' => Q x' e' s' n') (E x) (S x) n) : vwp P (.loop c) Q e s n := by
  refine vwp_loopc (fun m e s => ∃ x, ok x ∧ m = μ x ∧ e = E x ∧ s = S x) (μ x0) _ he ⟨x0, h0, rfl, rfl, hs⟩ ?_
  rintro _ _ _ ⟨x, hx, rfl, rfl, rfl⟩
  refine vwp_mono (round x hx) fun ex e' s' n' h => ?_
  cases ex with
  | normal =>
    obtain ⟨y, ⟨y1, y2⟩, y3⟩ := h
    exact ⟨_, _, y3, _, ⟨y, y1, rfl, rfl, rfl⟩, y2⟩
  | _ => exact h
inductive Fit : V → Prop where
  | list {m : Nat} {xs : List (List V)} (hl : xs.length ≤ maxLen) (h : ∀ cs ∈ xs, ∀ v ∈ cs, Fit v) : Fit (.list m xs)
  | iptr {cs : List V} (h : ∀ v ∈ cs, Fit v) : Fit (.iptr cs)
  | agg {cs : List V} (h : ∀ v ∈ cs, Fit v) : Fit (.agg cs)
  | tuple {cs : List V} (h : ∀ v ∈ cs, Fit v) : Fit (.tuple cs)
  | leaf {v : V} (h : match v with | .list .. | .iptr _ | .agg _ | .tuple _ => False | _ => True) : Fit v
theorem Rv.fit {w : World} {Sb : Nat → Prop} {G : Gh} {v : V} {u : Value} (h : Rv w Sb G v u) : Fit v := by
  induction h with
  | list f hb hm hc hcm hl ho hcell hv ih =>
    refine .list (by omega) fun cs hcs v hv' => ?_
    obtain ⟨i, hi, rfl⟩ := List.getElem_of_mem hcs
    obtain ⟨j, hj, rfl⟩ := List.getElem_of_mem hv'
    exact ih i _ j _ (List.getElem?_eq_getElem hi) (List.getElem?_eq_getElem hj)
  | list0 hcm => exact .list (by simp) (by simp)
  | iptr f hb hn' ho hcell hv ih =>
    refine .iptr fun v hv' => ?_
    obtain ⟨j, hj, rfl⟩ := List.getElem_of_mem hv'
    exact ih j _ (List.getElem?_eq_getElem hj)
  | agg h1 ho h2 ih =>
    refine .agg fun v hv => ?_
    obtain ⟨j, hj, rfl⟩ := List.getElem_of_mem hv
    exact ih j _ _ (List.getElem?_eq_getElem hj) (Array.getElem?_eq_getElem (by rw [h1]; exact hj))
  | tuple h1 h2 ih =>
    refine .tuple fun v hv => ?_
    obtain ⟨j, hj, rfl⟩ := List.getElem_of_mem hv
    exact ih j _ _ (List.getElem?_eq_getElem hj) (Array.getElem?_eq_getElem (by rw [h1]; exact hj))
  | _ => exact .leaf trivial
theorem Fit.len {m : Nat} {xs : List (List V)} (h : Fit (.list m xs)) : xs.length ≤ maxLen := by
  cases h with
  | list hl _ => exact hl
  | leaf h => exact h.elim
theorem wrap_in {z : Int} (h1 : -9223372036854775808 ≤ z) (h2 : z ≤ 9223372036854775807) : IntKind.i64.wrap z = z := by
  rw [IntKind.wrap_i64]; omega
end Go.Vm
namespace Go.Vm
open Go.RowKit
theorem callK_any {P : Program} {f : FuncId} {args : List V} {o : Oper} {cargs : Array Operand} {ts : Array TypeId} {e : List V} {s : Store} {n : Nat} {K : List V → Store → Nat → Prop} {fo : Operand} {first captured : List V} {out : Out} (h : VCall P f args s n out) (ho : o.op = .call { callee := .value fo, args := cargs, argTypes := ts }) (hf : veval e fo = .func (.func f) first captured) (hx : first ++ cargs.toList.map (veval e) ++ captured = args) (hp : plainFunc P f = true) (hn : n ≤ out.2.2) (hk : ∀ p ∈ out.2.1, n ≤ p.1 ∧ p.1 < out.2.2 ∨ s p.1 ≠ none) (hK : K (vput e o.dst out.1) (upd s out.2.1) out.2.2) : CallK P true o e s n K := by
  subst hx
  exact ⟨out, .inr ⟨rfl, .mk ho hf hp h hn⟩, hn, fun p hp => (hk p hp).elim .inl fun q => .inr ⟨rfl, q⟩, hK⟩
end Go.Vm
