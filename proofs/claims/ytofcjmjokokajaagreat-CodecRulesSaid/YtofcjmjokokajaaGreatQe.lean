/-
  Regions of operations in whatever order their edges allow: the text's order tells the outcome. No program is named here. Regions: what the text's order yields, any order yields. No program is named here.
-/
import Derived.Test.YtofcjmjokokajaaGreatQd
namespace Go.Vm
open Go.RowKit
abbrev Rec := Nat → Option (Nat × Out)
def valOf (rec : Rec) (i : Nat) : V := match rec i with | none => .tuple [] | some r => r.2.1
def updOf (rec : Rec) (i : Nat) : List (Nat × Blk) := match rec i with | none => [] | some r => r.2.2.1
def inR (rec : Rec) (i id : Nat) : Prop := ∃ r, rec i = some r ∧ r.1 ≤ id ∧ id < r.2.2.2
def dstOf (ops : Array Oper) (i : Nat) : Option Tmp := (ops[i]?).bind (·.dst)
def aftE (ops : Array Oper) (rec : Rec) (i : Nat) (e : List V) : List V := vput e (dstOf ops i) (valOf rec i)
def aftS (rec : Rec) (i : Nat) (s : Store) : Store := upd s (updOf rec i)
def pureOp : Op → Bool
  | .move _ | .assign _ | .pick .. | .build .. | .binOp .. | .unOp .. | .makeFunc .. | .field .. | .index .. | .extract .. | .nilCheck _ => true
  | _ => false
def lfOp : Op → Bool
  | .load .. | .fieldAddr .. | .indexAddr .. | .slice .. | .lookup .. | .convert .. => true
  | .call { callee := .builtin .len, .. } | .call { callee := .builtin .max, .. } | .call { callee := .builtin .min, .. } => true
  | _ => false
theorem lfOp_vop {P : Program} {ρ : Operand → V} {st : Store} {n : Nat} {op : Op} {out : Out} (hp : lfOp op = true) (h : vop P ρ st n op = some out) : out.2.1 = [] ∧ out.2.2 = n := by
  cases op <;> simp only [lfOp, Bool.false_eq_true] at hp
  all_goals simp only [vop] at h
  case load =>
    split at h
    · obtain ⟨_, _, rfl⟩ := Option.map_eq_some_iff.1 h; exact ⟨rfl, rfl⟩
    · cases h
  case convert => obtain ⟨_, _, rfl⟩ := Option.map_eq_some_iff.1 h; exact ⟨rfl, rfl⟩
  case lookup => obtain ⟨_, _, rfl⟩ := Option.map_eq_some_iff.1 h; exact ⟨rfl, rfl⟩
  case fieldAddr =>
    split at h
    · split at h
      · split at h
        · split at h
          · cases h
          · obtain ⟨_, _, rfl⟩ := Option.map_eq_some_iff.1 h; exact ⟨rfl, rfl⟩
        · cases h
      · cases h
    · cases h
  case slice t x lo hi mx =>
    cases mx with
    | some m => cases h
    | none =>
      simp only at h
      split at h
      · obtain ⟨_, _, rfl⟩ := Option.map_eq_some_iff.1 h; exact ⟨rfl, rfl⟩
      · obtain ⟨_, _, h⟩ := Option.bind_eq_some_iff.1 h
        obtain ⟨_, _, rfl⟩ := Option.map_eq_some_iff.1 h; exact ⟨rfl, rfl⟩
      · cases h
  case indexAddr =>
    split at h
    · split at h
      · split at h
        · split at h
          · split at h
            · obtain ⟨_, _, rfl⟩ := Option.map_eq_some_iff.1 h; exact ⟨rfl, rfl⟩
            · cases h
          · split at h
            · split at h
              · cases h; exact ⟨rfl, rfl⟩
              · cases h
            · cases h
          · cases h
        · cases h
      · cases h
    · split at h
      · split at h
        · obtain ⟨_, _, rfl⟩ := Option.map_eq_some_iff.1 h; exact ⟨rfl, rfl⟩
        · cases h
      · cases h
    · cases h
  case call c =>
    obtain ⟨callee, args, ts⟩ := c
    cases callee with
    | value f => simp at hp
    | invoke f m => simp at hp
    | builtin b =>
      cases b <;> simp only [Bool.false_eq_true] at hp
      all_goals
        simp only [vbuiltin] at h
        split at h
        all_goals first
          | (obtain ⟨_, _, rfl⟩ := Option.map_eq_some_iff.1 h; exact ⟨rfl, rfl⟩)
          | (split at h
             · obtain ⟨_, _, rfl⟩ := Option.map_eq_some_iff.1 h; exact ⟨rfl, rfl⟩
             · cases h)
          | cases h
          | (rename_i hb _ _; cases hb)
def flW (ops : Array Oper) (W : List Nat) (i : Nat) : Bool := W.contains (ops.size + 1 + i)
def masks : List Oper → List Nat → List Nat
  | [], acc => acc
  | o :: r, acc => masks r (acc ++ [o.after.toList.foldl (fun s e => if Region.binds .any e then s ||| 2 ^ e.on ||| acc.getD e.on 0 else s) 0])
def unord (ops : Array Oper) (x y : Nat) : Bool := !(if x < y then ((masks ops.toList []).getD y 0).testBit x else ((masks ops.toList []).getD x 0).testBit y)
theorem unord_symm {ops : Array Oper} {x y : Nat} (h : x ≠ y) : unord ops x y = unord ops y x := by
  unfold unord
  by_cases hl : x < y
  · rw [if_pos hl, if_neg (by omega)]
  · rw [if_neg hl, if_pos (by omega)]
def aW (ops : Array Oper) (W : List Nat) (x id : Nat) : Bool := W.contains (2 * ops.size + 2 + (id * ops.size + x))
def flatAt (ops : Array Oper) (W : List Nat) (y : Nat) (fl : Bool) (op : Op) (ρ : Operand → V) : Prop := fl = true → lfOp op = true → ∀ z ∈ op.operands, ∀ id, (ρ z).tid = some id → ∀ x, x < ops.size → W.contains x = true → unord ops x y = true → aW ops W x id = true
def lf (fl : Bool) (op : Op) : Bool := pureOp op || (fl && lfOp op)
def Perf (P : Program) (ops : Array Oper) (W : List Nat) (rec : Rec) (i : Nat) (e : List V) (s : Store) : Prop :=
  ∃ o, ops[i]? = some o ∧ match rec i with
    | none => vwanted ops e o = some false
    | some r => vwanted ops e o = some true ∧ OS P (!W.contains i) o (veval e) s r.1 r.2 ∧ (∀ p ∈ r.2.2.1, r.1 ≤ p.1 ∧ p.1 < r.2.2.2 ∨ W.contains i = true ∧ s p.1 ≠ none ∧ aW ops W i p.1 = false) ∧ flatAt ops W i (flW ops W i) o.op (veval e)
def RunsR (P : Program) (ops : Array Oper) (W : List Nat) (rec : Rec) : List Nat → List V → Store → List V → Store → Prop
  | [], e, s, e', s' => e = e' ∧ s = s'
  | i :: r, e, s, e', s' => Perf P ops W rec i e s ∧ RunsR P ops W rec r (aftE ops rec i e) (aftS rec i s) e' s'
def indep (ops : Array Oper) (W : List Nat) (x y : Nat) : Bool :=
  match ops[x]?, ops[y]? with
  | some ox, some oy => ox.apart ops oy && (!W.contains x || lf (flW ops W y) oy.op) && (!W.contains y || lf (flW ops W x) ox.op)
  | _, _ => false
theorem upd_ne : ∀ {us : List (Nat × Blk)} {s : Store} {id : Nat}, (∀ p ∈ us, p.1 ≠ id) → upd s us id = s id
  | [], _, _, _ => rfl
  | p :: us, s, id, h => by
    simp only [upd]
    rw [upd_ne (fun q hq => h q (by simp [hq])), put_ne _ _ (Ne.symm (h p (by simp)))]
theorem upd_put : ∀ {us : List (Nat × Blk)} {s : Store} {i : Nat} {b : Blk}, (∀ p ∈ us, p.1 ≠ i) → upd (put s i b) us = put (upd s us) i b
  | [], _, _, _, _ => rfl
  | p :: us, s, i, b, h => by
    simp only [upd]
    rw [put_comm _ (Ne.symm (h p (by simp)))]
    exact upd_put (fun q hq => h q (by simp [hq]))
theorem upd_comm : ∀ {us vs : List (Nat × Blk)} {s : Store}, (∀ p ∈ us, ∀ q ∈ vs, p.1 ≠ q.1) → upd (upd s us) vs = upd (upd s vs) us
  | [], _, _, _ => rfl
  | p :: us, vs, s, h => by
    simp only [upd]
    rw [upd_comm (us := us) (vs := vs) (fun a ha b hb => h a (by simp [ha]) b hb), upd_put (fun q hq => Ne.symm (h p (by simp) q hq))]
section
variable {P : Program} {ops : Array Oper} {W : List Nat} {rec : Rec}
theorem eval_vput {e : List V} {dst : Option Tmp} {v : V} {x : Operand} (h : ∀ d, dst = some d → x ≠ .tmp d) : veval (vput e dst v) x = veval e x := by
  cases dst with
  | none => rfl
  | some d =>
    cases x with
    | tmp t =>
      have : d ≠ t := fun q => h d rfl (by rw [q])
      simp only [veval, vput, List.getD_eq_getElem?_getD, List.getElem?_set, this, if_false]
    | _ => rfl
theorem vput_comm (e : List V) {x y : Option Tmp} (v u : V) (h : ∀ d, x = some d → y ≠ some d) : vput (vput e x v) y u = vput (vput e y u) x v := by
  cases x with
  | none => rfl
  | some d =>
    cases y with
    | none => rfl
    | some f =>
      have : d ≠ f := fun q => h d rfl (by rw [q])
      simp only [vput]
      exact List.set_comm _ _ this
theorem wanted_vput {e : List V} {dst : Option Tmp} {v : V} {o : Oper} (h : ∀ d, dst = some d → d ∉ o.looksAt ops) : vwanted ops (vput e dst v) o = vwanted ops e o := by
  cases dst with
  | none => rfl
  | some d =>
    unfold vwanted
    cases hg : o.guard with
    | none => rfl
    | some gw =>
      obtain ⟨g, want⟩ := gw
      simp only
      cases ht : (ops[g]?).bind (·.dst) with
      | none => rfl
      | some t =>
        have hne : d ≠ t := fun q => h d rfl (by subst q; simp [Oper.looksAt, hg, ht])
        simp only [vput, List.getElem?_set, hne, if_false]
theorem looks_operand {o : Oper} {d : Tmp} (h : d ∉ o.looksAt ops) : ∀ x ∈ o.op.operands, x ≠ .tmp d := fun x hx q => h (by
  subst q
  exact List.mem_append_left _ (List.mem_filterMap.2 ⟨.tmp d, by simpa using hx, rfl⟩))
theorem pure_vop {ρ : Operand → V} {st st2 : Store} {n : Nat} {op : Op} {out : Out} (hp : pureOp op = true) (h : vop P ρ st n op = some out) : out.2.1 = [] ∧ vop P ρ st2 n op = some out := by
  cases op <;> simp only [pureOp, Bool.false_eq_true] at hp
  all_goals
    simp only [vop] at h ⊢
    refine ⟨?_, h⟩
  case move => cases h; rfl
  case assign => cases h; rfl
  case makeFunc => cases h; rfl
  case pick =>
    split at h
    · cases h; rfl
    · cases h
  case binOp => obtain ⟨_, _, rfl⟩ := Option.map_eq_some_iff.1 h; rfl
  case unOp => obtain ⟨_, _, rfl⟩ := Option.map_eq_some_iff.1 h; rfl
  case nilCheck =>
    split at h
    · cases h; rfl
    · cases h; rfl
    · cases h
  case extract =>
    split at h
    · obtain ⟨_, _, rfl⟩ := Option.map_eq_some_iff.1 h; rfl
    · cases h
  case build =>
    split at h
    · split at h
      · split at h
        · obtain ⟨_, _, h⟩ := Option.bind_eq_some_iff.1 h
          obtain ⟨_, _, rfl⟩ := Option.map_eq_some_iff.1 h; rfl
        · cases h
      · split at h
        · split at h
          · obtain ⟨_, _, rfl⟩ := Option.map_eq_some_iff.1 h; rfl
          · cases h
        · cases h
      · cases h
    · cases h
  case field =>
    split at h
    · split at h
      · split at h
        · obtain ⟨_, _, rfl⟩ := Option.map_eq_some_iff.1 h; rfl
        · cases h
      · cases h
    · cases h
  case index =>
    split at h
    · split at h
      · obtain ⟨_, _, rfl⟩ := Option.map_eq_some_iff.1 h; rfl
      · cases h
    · split at h
      · split at h
        · obtain ⟨_, _, rfl⟩ := Option.map_eq_some_iff.1 h; rfl
        · cases h
      · cases h
    · cases h
theorem OSL.move {o : Oper} {ρ ρ2 : Operand → V} {s s2 : Store} {n : Nat} {out : Out} (h : OSL P o ρ s n out) (hρ : ∀ x ∈ o.op.operands, ρ x = ρ2 x) (hs : ∀ x ∈ o.op.operands, Seen s s2 (ρ x)) : OSL P o ρ2 s2 n out := by
  cases h with
  | op h hn =>
    rw [vop_congr hρ] at h
    exact .op (vop_seen (fun x hx => by rw [← hρ x hx]; exact hs x hx) h) hn
  | @call f args ts fid first captured ho hf hp h hn =>
    have hfo : f ∈ o.op.operands := by rw [ho]; simp [Op.operands, Call.operands]
    have hargs : args.toList.map ρ = args.toList.map ρ2 := List.map_congr_left fun x hx => hρ x (by rw [ho]; simp [Op.operands, Call.operands]; right; simpa using hx)
    refine .call ho (by rw [← hρ f hfo]; exact hf) hp (fun st2 hst2 => ?_) hn
    rw [← hargs]
    refine h st2 (fun x hx id hid => ?_)
    rcases hs x hx id hid with q | q
    · exact .inl q
    · rcases hst2 x hx id (by rw [← hρ x hx]; exact hid) with r | r
      · rw [q] at r; exact .inl r
      · right; rw [r, q]
theorem OSL.pure {o : Oper} {ρ ρ2 : Operand → V} {s s2 : Store} {n : Nat} {out : Out} (h : OSL P o ρ s n out) (hρ : ∀ x ∈ o.op.operands, ρ x = ρ2 x) (hp : pureOp o.op = true) : OSL P o ρ2 s2 n out ∧ out.2.1 = [] := by
  cases h with
  | op h hn =>
    rw [vop_congr hρ] at h
    obtain ⟨h1, h2⟩ := pure_vop (st2 := s2) hp h
    exact ⟨.op h2 hn, h1⟩
  | call ho hf hp' h hn => rw [ho] at hp; simp [pureOp] at hp
theorem OSL.lf {fl : Bool} {o : Oper} {ρ ρ2 : Operand → V} {s s2 : Store} {n : Nat} {out : Out} (h : OSL P o ρ s n out) (hρ : ∀ x ∈ o.op.operands, ρ x = ρ2 x) (hp : lf fl o.op = true) (hA : fl = true → lfOp o.op = true → ∀ z ∈ o.op.operands, ∀ id, (ρ z).tid = some id → s id = none ∨ s2 id = s id) : OSL P o ρ2 s2 n out ∧ out.2.1 = [] := by
  unfold Vm.lf at hp
  simp only [Bool.or_eq_true, Bool.and_eq_true] at hp
  rcases hp with hp | ⟨q1, q2⟩
  · exact h.pure hρ hp
  · refine ⟨h.move hρ fun x hx id hid => ?_, ?_⟩
    · exact hA q1 q2 x hx id hid
    · cases h with
      | op h hn => exact (lfOp_vop q2 h).1
      | call ho hf hp' h hn => rw [ho] at q2; simp [lfOp] at q2
theorem lf_vop {fl : Bool} {ρ : Operand → V} {st : Store} {n : Nat} {op : Op} {out : Out} (hp : lf fl op = true) (h : vop P ρ st n op = some out) : out.2.2 = n := by
  unfold lf at hp
  simp only [Bool.or_eq_true, Bool.and_eq_true] at hp
  rcases hp with hp | ⟨_, hp⟩
  · cases op <;> simp only [pureOp, Bool.false_eq_true] at hp
    all_goals simp only [vop] at h
    case move => cases h; rfl
    case assign => cases h; rfl
    case makeFunc => cases h; rfl
    case pick =>
      split at h
      · cases h; rfl
      · cases h
    case binOp => obtain ⟨_, _, rfl⟩ := Option.map_eq_some_iff.1 h; rfl
    case unOp => obtain ⟨_, _, rfl⟩ := Option.map_eq_some_iff.1 h; rfl
    case nilCheck =>
      split at h
      · cases h; rfl
      · cases h; rfl
      · cases h
    case extract =>
      split at h
      · obtain ⟨_, _, rfl⟩ := Option.map_eq_some_iff.1 h; rfl
      · cases h
    case build =>
      split at h
      · split at h
        · split at h
          · obtain ⟨_, _, h⟩ := Option.bind_eq_some_iff.1 h
            obtain ⟨_, _, rfl⟩ := Option.map_eq_some_iff.1 h; rfl
          · cases h
        · split at h
          · split at h
            · obtain ⟨_, _, rfl⟩ := Option.map_eq_some_iff.1 h; rfl
            · cases h
          · cases h
        · cases h
      · cases h
    case field =>
      split at h
      · split at h
        · split at h
          · obtain ⟨_, _, rfl⟩ := Option.map_eq_some_iff.1 h; rfl
          · cases h
        · cases h
      · cases h
    case index =>
      split at h
      · split at h
        · obtain ⟨_, _, rfl⟩ := Option.map_eq_some_iff.1 h; rfl
        · cases h
      · split at h
        · split at h
          · obtain ⟨_, _, rfl⟩ := Option.map_eq_some_iff.1 h; rfl
          · cases h
        · cases h
      · cases h
  · exact (lfOp_vop hp h).2
theorem GC.move {o : Oper} {ρ ρ2 : Operand → V} {s : Store} {n : Nat} {out : Out} (h : GC P o ρ s n out) (hρ : ∀ x ∈ o.op.operands, ρ x = ρ2 x) : GC P o ρ2 s n out := by
  cases h with
  | @mk f args ts fid first captured ho hf hp h hn =>
    have hfo : f ∈ o.op.operands := by rw [ho]; simp [Op.operands, Call.operands]
    have hargs : args.toList.map ρ = args.toList.map ρ2 := List.map_congr_left fun x hx => hρ x (by rw [ho]; simp [Op.operands, Call.operands]; right; simpa using hx)
    exact .mk ho (by rw [← hρ f hfo]; exact hf) hp (by rw [← hargs]; exact h) hn
  | @mx f args ts fid first captured ho hf hp h hn =>
    have hfo : f ∈ o.op.operands := by rw [ho]; simp [Op.operands, Call.operands]
    have hargs : args.toList.map ρ = args.toList.map ρ2 := List.map_congr_left fun x hx => hρ x (by rw [ho]; simp [Op.operands, Call.operands]; right; simpa using hx)
    exact .mx ho (by rw [← hρ f hfo]; exact hf) hp (by rw [← hargs]; exact h) hn
theorem GC.notPure {fl : Bool} {o : Oper} {ρ : Operand → V} {s : Store} {n : Nat} {out : Out} (h : GC P o ρ s n out) : lf fl o.op = false := by
  cases h with
  | mk ho hf hp h hn => rw [ho]; simp [lf, pureOp, lfOp]
  | mx ho hf hp h hn => rw [ho]; simp [lf, pureOp, lfOp]
theorem OS.lf_n {loc fl : Bool} {o : Oper} {ρ : Operand → V} {s : Store} {n : Nat} {out : Out} (hp : lf fl o.op = true) (h : OS P loc o ρ s n out) : out.2.2 = n := by
  rcases h with h | ⟨_, h⟩
  · cases h with
    | op h hn => exact lf_vop hp h
    | call ho hf hp' h hn => rw [ho] at hp; simp [lf, pureOp, lfOp] at hp
  · rw [h.notPure] at hp; cases hp
theorem Perf.move {i : Nat} {o : Oper} {e e2 : List V} {s s2 : Store} (h : Perf P ops W rec i e s) (ho : ops[i]? = some o) (he : vwanted ops e2 o = vwanted ops e o) (hρ : ∀ x ∈ o.op.operands, veval e x = veval e2 x)
    (hs : s2 = s ∨ (lf (flW ops W i) o.op = true ∧ (rec i ≠ none → flW ops W i = true → lfOp o.op = true → ∀ z ∈ o.op.operands, ∀ id, (veval e z).tid = some id → s id = none ∨ s2 id = s id)) ∨ W.contains i = false ∧ ∀ x ∈ o.op.operands, Seen s s2 (veval e x)) : Perf P ops W rec i e2 s2 := by
  obtain ⟨o', ho', h⟩ := h
  rw [ho] at ho'
  cases ho'
  refine ⟨o, ho, ?_⟩
  cases hr : rec i with
  | none => rw [hr] at h; simp only at h ⊢; rw [he]; exact h
  | some r =>
    rw [hr] at h
    simp only at h ⊢
    obtain ⟨h1, h2, h3, hfl⟩ := h
    have hfl2 : flatAt ops W i (flW ops W i) o.op (veval e2) := fun q1 q2 z hz => by rw [← hρ z hz]; exact hfl q1 q2 z hz
    refine ⟨by rw [he]; exact h1, ?_⟩
    rcases hs with rfl | ⟨hp, hA⟩ | ⟨hw, hseen⟩
    · refine ⟨?_, h3, hfl2⟩
      rcases h2 with h2 | ⟨h2, h4⟩
      · exact .inl (h2.move hρ (fun x _ id _ => .inr rfl))
      · exact .inr ⟨h2, h4.move hρ⟩
    · rcases h2 with h2 | ⟨h2, h4⟩
      · obtain ⟨q1, q2⟩ := h2.lf (s2 := s2) hρ hp (hA (by rw [hr]; simp))
        exact ⟨.inl q1, by rw [q2]; simp, hfl2⟩
      · rw [h4.notPure] at hp; cases hp
    · rcases h2 with h2 | ⟨h2, h4⟩
      · refine ⟨.inl (h2.move hρ hseen), fun p hp => ?_, hfl2⟩
        rcases h3 p hp with q | ⟨q, _⟩
        · exact .inl q
        · rw [hw] at q; cases q
      · rw [hw] at h2; cases h2
theorem Perf.keys {i : Nat} {e : List V} {s : Store} (h : Perf P ops W rec i e s) : ∀ p ∈ updOf rec i, inR rec i p.1 ∨ W.contains i = true ∧ s p.1 ≠ none := by
  obtain ⟨o, ho, h⟩ := h
  unfold updOf
  cases hr : rec i with
  | none => simp
  | some r =>
    rw [hr] at h
    simp only at h ⊢
    intro p hp
    rcases h.2.2.1 p hp with q | q
    · exact .inl ⟨r, hr, q⟩
    · exact .inr ⟨q.1, q.2.1⟩
theorem Perf.keysA {i : Nat} {e : List V} {s : Store} (h : Perf P ops W rec i e s) : ∀ p ∈ updOf rec i, inR rec i p.1 ∨ W.contains i = true ∧ s p.1 ≠ none ∧ aW ops W i p.1 = false := by
  obtain ⟨o, ho, h⟩ := h
  unfold updOf
  cases hr : rec i with
  | none => simp
  | some r =>
    rw [hr] at h
    simp only at h ⊢
    intro p hp
    rcases h.2.2.1 p hp with q | q
    · exact .inl ⟨r, hr, q⟩
    · exact .inr q
theorem Perf.pure_upd {i : Nat} {o : Oper} {e : List V} {s : Store} (h : Perf P ops W rec i e s) (ho : ops[i]? = some o) (hp : lf (flW ops W i) o.op = true) : updOf rec i = [] := by
  obtain ⟨o', ho', h⟩ := h
  rw [ho] at ho'
  cases ho'
  unfold updOf
  cases hr : rec i with
  | none => rfl
  | some r =>
    rw [hr] at h
    simp only at h ⊢
    rcases h.2.1 with q | ⟨_, q⟩
    · exact (q.lf (s2 := s) (fun _ _ => rfl) hp (fun _ _ _ _ _ _ => .inr rfl)).2
    · rw [q.notPure] at hp; cases hp
theorem pull {y : Nat} {oy : Oper} (hoy : ops[y]? = some oy) (hdis : ∀ i j, i ≠ j → ∀ id, inR rec i id → ¬ inR rec j id) {R2 : List Nat} {Fe : List V} {Fs : Store} : ∀ (R1 : List Nat) (e : List V) (s : Store), RunsR P ops W rec (R1 ++ y :: R2) e s Fe Fs → (∀ x ∈ R1, indep ops W x y = true ∧ unord ops x y = true) → y ∉ R1 → R1.Nodup →
    (∀ x ∈ R1, ∀ id, inR rec x id → ∀ z ∈ oy.op.operands, (veval e z).tid ≠ some id) → (∀ x ∈ R1, ∀ id, inR rec x id → s id = none) → (∀ id, inR rec y id → s id = none) →
    Perf P ops W rec y e s ∧ RunsR P ops W rec (R1 ++ R2) (aftE ops rec y e) (aftS rec y s) Fe Fs := by
  intro R1
  induction R1 with
  | nil => intro e s h _ _ _ _ _ _; exact h
  | cons x R1 ih =>
    intro e s h hind hny hnd hstale hfr hfy
    obtain ⟨hxn, hnd⟩ := List.nodup_cons.1 hnd
    obtain ⟨hpx, hrest⟩ := h
    obtain ⟨hix, hun⟩ := hind x (by simp)
    have hxy : x ≠ y := fun q => hny (by simp [q])
    have hpx0 := hpx
    obtain ⟨ox, hox, _⟩ := hpx0
    unfold indep at hix
    rw [hox, hoy] at hix
    simp only [Bool.and_eq_true, Bool.or_eq_true, Bool.not_eq_true'] at hix
    obtain ⟨⟨hap, hwx⟩, hwy⟩ := hix
    obtain ⟨a1, a2, a3⟩ := Oper.apart_spec hap
    have hdx : dstOf ops x = ox.dst := by unfold dstOf; rw [hox]; rfl
    have hdy : dstOf ops y = oy.dst := by unfold dstOf; rw [hoy]; rfl
    have hkx := hpx.keys
    have heval : ∀ z ∈ oy.op.operands, veval (aftE ops rec x e) z = veval e z := fun z hz => by
      unfold aftE
      rw [hdx]
      exact eval_vput fun d hd => looks_operand (a1 d hd) z hz
    have hwant : vwanted ops (aftE ops rec x e) oy = vwanted ops e oy := by
      unfold aftE
      rw [hdx]
      exact wanted_vput a1
    have hs1 : ∀ id, s id = none → ¬ inR rec x id → (aftS rec x s) id = none := fun id hid hn => by
      unfold aftS
      rw [upd_ne]
      · exact hid
      · rintro p hp rfl
        rcases hkx p hp with q | ⟨_, q⟩
        · exact hn q
        · exact q hid
    have hIH := ih (aftE ops rec x e) (aftS rec x s) hrest (fun z hz => hind z (by simp [hz])) (fun q => hny (by simp [q])) hnd
      (fun z hz id hid q hq => by rw [heval q hq]; exact hstale z (by simp [hz]) id hid q hq)
      (fun z hz id hid => by
        have hzx : z ≠ x := fun q => hxn (q ▸ hz)
        exact hs1 id (hfr z (by simp [hz]) id hid) (hdis z x hzx id hid))
      (fun id hid => hs1 id (hfy id hid) (hdis y x (Ne.symm hxy) id hid))
    obtain ⟨hpy1, hrun1⟩ := hIH
    have hxl := (Array.getElem?_eq_some_iff.1 hox).1
    have hyl := (Array.getElem?_eq_some_iff.1 hoy).1
    have hAx : rec y ≠ none → flW ops W y = true → lfOp oy.op = true → ∀ z ∈ oy.op.operands, ∀ id, (veval (aftE ops rec x e) z).tid = some id → aftS rec x s id = none ∨ s id = aftS rec x s id := fun hne t1 t2 z hz id hid => by
      right
      unfold aftS
      rw [upd_ne]
      rintro p hp rfl
      rcases hpx.keysA p hp with q | ⟨q1, _, q⟩
      · rw [heval z hz] at hid
        exact hstale x (by simp) _ q z hz hid
      · obtain ⟨r, hr⟩ := Option.ne_none_iff_exists'.1 hne
        have hf1 : flatAt ops W y (flW ops W y) oy.op (veval (aftE ops rec x e)) := by
          obtain ⟨o', ho', h'⟩ := hpy1
          rw [hoy] at ho'
          cases ho'
          rw [hr] at h'
          exact h'.2.2.2
        have := hf1 t1 t2 z hz _ hid x hxl q1 hun
        rw [q] at this; cases this
    have hpy : Perf P ops W rec y e s := by
      refine hpy1.move hoy hwant.symm heval ?_
      rcases hwx with hwx | hpure
      · by_cases hpy' : lf (flW ops W y) oy.op = true
        · exact .inr (.inl ⟨hpy', hAx⟩)
        · rcases hwy with hwy | hpx'
          · refine .inr (.inr ⟨hwy, fun z hz id hid => ?_⟩)
            right
            unfold aftS
            rw [upd_ne]
            rintro p hp rfl
            rcases hkx p hp with q | ⟨q, _⟩
            · rw [heval z hz] at hid
              exact hstale x (by simp) _ q z hz hid
            · rw [hwx] at q; cases q
          · left
            unfold aftS
            rw [hpx.pure_upd hox hpx']
            rfl
      · exact .inr (.inl ⟨hpure, hAx⟩)
    have hky := hpy.keys
    have hAy : rec x ≠ none → flW ops W x = true → lfOp ox.op = true → ∀ z ∈ ox.op.operands, ∀ id, (veval e z).tid = some id → s id = none ∨ aftS rec y s id = s id := fun hne t1 t2 z hz id hid => by
      by_cases hkid : ∃ p ∈ updOf rec y, p.1 = id
      · obtain ⟨p, hp, rfl⟩ := hkid
        rcases hpy.keysA p hp with q | ⟨q1, _, q⟩
        · exact .inl (hfy _ q)
        · obtain ⟨r, hr⟩ := Option.ne_none_iff_exists'.1 hne
          have hf1 : flatAt ops W x (flW ops W x) ox.op (veval e) := by
            obtain ⟨o', ho', h'⟩ := hpx
            rw [hox] at ho'
            cases ho'
            rw [hr] at h'
            exact h'.2.2.2
          have := hf1 t1 t2 z hz _ hid y hyl q1 (by rw [unord_symm (Ne.symm hxy)]; exact hun)
          rw [q] at this; cases this
      · right
        unfold aftS
        exact upd_ne fun p hp q => hkid ⟨p, hp, q⟩
    have hpx2 : Perf P ops W rec x (aftE ops rec y e) (aftS rec y s) := by
      refine hpx.move hox ?_ (fun z hz => ?_) ?_
      · unfold aftE
        rw [hdy]
        exact wanted_vput a3
      · unfold aftE
        rw [hdy]
        exact (eval_vput fun d hd => looks_operand (a3 d hd) z hz).symm
      · rcases hwy with hwy | hpure
        · by_cases hpx' : lf (flW ops W x) ox.op = true
          · exact .inr (.inl ⟨hpx', hAy⟩)
          · rcases hwx with hwx | hpy'
            · refine .inr (.inr ⟨hwx, fun z hz id hid => ?_⟩)
              by_cases hkid : ∃ p ∈ updOf rec y, p.1 = id
              · obtain ⟨p, hp, rfl⟩ := hkid
                left
                rcases hky p hp with q | ⟨q, _⟩
                · exact hfy _ q
                · rw [hwy] at q; cases q
              · right
                unfold aftS
                exact upd_ne fun p hp q => hkid ⟨p, hp, q⟩
            · left
              unfold aftS
              rw [hpy.pure_upd hoy hpy']
              rfl
        · exact .inr (.inl ⟨hpure, hAy⟩)
    refine ⟨hpy, hpx2, ?_⟩
    have hE : aftE ops rec x (aftE ops rec y e) = aftE ops rec y (aftE ops rec x e) := by
      unfold aftE
      rw [hdx, hdy]
      exact vput_comm e _ _ fun d hd q => a2 d q hd
    have hS : aftS rec x (aftS rec y s) = aftS rec y (aftS rec x s) := by
      unfold aftS
      rcases hwx with hwx | hpure
      · rcases hwy with hwy | hpure
        · refine upd_comm fun p hp q hq hpq => ?_
          rcases hky p hp with r | ⟨r, _⟩
          · rcases hkx q hq with r2 | ⟨r2, _⟩
            · exact hdis x y hxy _ (hpq ▸ r2) r
            · rw [hwx] at r2; cases r2
          · rw [hwy] at r; cases r
        · rw [hpx.pure_upd hox hpure]; rfl
      · rw [hpy.pure_upd hoy hpure]; rfl
    rw [hE, hS]
    exact hrun1
end
end Go.Vm
namespace Go.Vm
open Go.RowKit
inductive Dep (ops : Array Oper) : Nat → Nat → Prop where
  | edge {i : Nat} {o : Oper} {e : Edge} (ho : ops[i]? = some o) (he : e ∈ o.after) (hb : Region.binds .any e = true) : Dep ops e.on i
  | trans {i x : Nat} {o : Oper} {e : Edge} (ho : ops[i]? = some o) (he : e ∈ o.after) (hb : Region.binds .any e = true) (h : Dep ops x e.on) : Dep ops x i
theorem masks_dep {ops : Array Oper} : ∀ (l : List Oper) (acc : List Nat), (∀ i x, (acc.getD i 0).testBit x = true → Dep ops x i) → (∀ k o, l[k]? = some o → ops[acc.length + k]? = some o) → ∀ i x, ((masks l acc).getD i 0).testBit x = true → Dep ops x i
  | [], acc, h, _ => h
  | o :: r, acc, h, hl => by
    have ho : ops[acc.length]? = some o := by simpa using hl 0 o rfl
    refine masks_dep r _ (fun i x hx => ?_) (fun k o' hk => by
      have := hl (k + 1) o' (by simpa using hk)
      rw [List.length_append]
      simpa [Nat.add_assoc, Nat.add_comm 1 k] using this)
    rcases Nat.lt_or_ge i acc.length with hi | hi
    · rw [List.getD_eq_getElem?_getD, List.getElem?_append_left hi, ← List.getD_eq_getElem?_getD] at hx
      exact h i x hx
    · by_cases hie : i = acc.length
      · subst hie
        simp only [List.getD_eq_getElem?_getD, List.getElem?_append_right (Nat.le_refl _), Nat.sub_self, List.getElem?_cons_zero, Option.getD_some] at hx
        have key : ∀ (es : List Edge) (s : Nat), (∀ e ∈ es, e ∈ o.after) → (s.testBit x = true → Dep ops x acc.length) →
            (es.foldl (fun s e => if Region.binds .any e then s ||| 2 ^ e.on ||| acc.getD e.on 0 else s) s).testBit x = true → Dep ops x acc.length := by
          intro es
          induction es with
          | nil => intro s _ hs hx; exact hs hx
          | cons e es ih =>
            intro s hes hs hx
            simp only [List.foldl_cons] at hx
            refine ih _ (fun e' he' => hes e' (by simp [he'])) (fun hb => ?_) hx
            split at hb
            · rename_i hbd
              rw [Nat.testBit_or, Nat.testBit_or, Bool.or_eq_true, Bool.or_eq_true] at hb
              rcases hb with (hb | hb) | hb
              · exact hs hb
              · rw [Nat.testBit_two_pow] at hb
                have : e.on = x := by simpa using hb
                subst this
                exact .edge ho (hes e (by simp)) hbd
              · exact .trans ho (hes e (by simp)) hbd (h _ _ hb)
            · exact hs hb
        exact key o.after.toList 0 (fun e he => by simpa using he) (fun hb => by simp at hb) (by simpa [List.getD_eq_getElem?_getD] using hx)
      · have : (acc ++ [o.after.toList.foldl (fun s e => if Region.binds .any e then s ||| 2 ^ e.on ||| acc.getD e.on 0 else s) 0]).getD i 0 = 0 := by
          rw [List.getD_eq_getElem?_getD, List.getElem?_eq_none (by simp; omega)]
          rfl
        rw [this] at hx
        simp at hx
def regB (ops : Array Oper) (W : List Nat) : Bool :=
  let ms := masks ops.toList []
  (List.range ops.size).all fun y => (match ops[y]? with | some o => o.after.all fun e => !Region.binds .any e || decide (e.on < y) | none => false) && (List.range y).all fun x => (ms.getD y 0).testBit x || indep ops W x y
theorem regB_spec {ops : Array Oper} {W : List Nat} (h : regB ops W = true) : (∀ y o, ops[y]? = some o → ∀ e ∈ o.after, Region.binds .any e = true → e.on < y) ∧ ∀ x y, x < y → y < ops.size → Dep ops x y ∨ (indep ops W x y = true ∧ unord ops x y = true) := by
  unfold regB at h
  simp only [List.all_eq_true, List.mem_range, Bool.and_eq_true, Bool.or_eq_true] at h
  refine ⟨fun y o ho e he hb => ?_, fun x y hxy hy => ?_⟩
  · have := (h y (Array.getElem?_eq_some_iff.1 ho).1).1
    rw [ho] at this
    simp only at this
    have := Array.all_eq_true_iff_forall_mem.1 this e he
    simpa [hb] using this
  · cases hb : ((masks ops.toList []).getD y 0).testBit x with
    | true =>
      left
      exact masks_dep ops.toList [] (fun i x hx => by simp at hx) (fun k o hk => by simpa using hk) y x hb
    | false =>
      rcases (h y hy).2 x hxy with q | q
      · rw [hb] at q; cases q
      · exact .inr ⟨q, by unfold unord; rw [if_pos hxy, hb]; rfl⟩
section
variable {P : Program} {ops : Array Oper} {W : List Nat} {rec : Rec} {Q : Exit → Act → World → Prop}
theorem rv_tid {w : World} {Sb : Nat → Prop} {G : Gh} {v : V} {u : Value} (h : Rv w Sb G v u) {id : Nat} (ht : v.tid = some id) : ∃ k E, G id k = some E := by
  cases h <;> simp [V.tid] at ht <;> subst ht <;> exact ⟨_, _, by assumption⟩
def Stays (rec : Rec) (R : List Nat) (s : Store) (G G' : Gh) : Prop := ∀ id k, (∀ x ∈ R, ¬ inR rec x id) → s id = none → G' id k = G id k
theorem any_order (rd : Option Nat) (md : Nat) (hB : regB ops W = true) (hdis : ∀ i j, i ≠ j → ∀ id, inR rec i id → ¬ inR rec j id) {N : Nat} (hN : ∀ i r, rec i = some r → r.1 ≤ N ∧ r.2.2.2 ≤ N) (hT : ∀ i r, rec i = some r → ∀ id, r.1 ≤ id → id < N → ∃ j, j < ops.size ∧ inR rec j id) (hM : ∀ i j r r', rec i = some r → rec j = some r' → i < j → r.2.2.2 ≤ r'.1) (hL : ∀ j r o, rec j = some r → ops[j]? = some o → lf (flW ops W j) o.op = true → r.2.2.2 ≤ r.1) {Fe : List V} {Fs : Store} : ∀ (m : Nat) (R : List Nat) (listed : Array Bool) (a : Act) (w : World) (Sb : Nat → Prop) (G : Gh) (e : List V) (s : Store),
    R.length = m → R.Pairwise (· < ·) → (∀ i, i ∈ R ↔ i < ops.size ∧ listed.getD i true = false) → listed.size = ops.size → (∀ k o, ops[k]? = some o → listed.getD k false = true → ∀ d ∈ o.after, Region.binds .any d = true → listed.getD d.on false = true) →
    RunsR P ops W rec R e s Fe Fs → Rvs w Sb G e a.tmps.toList → WSim w Sb G s → (∀ x ∈ R, ∀ id, inR rec x id → s id = none ∧ ∀ k, G id k = none) → (∀ id, N ≤ id → s id = none ∧ ∀ k, G id k = none) →
    (∀ a' w' Sb' G', Rvs w' Sb' G' Fe a'.tmps.toList → Nxt w Sb G s w' Sb' G' Fs → a'.defers = a.defers → Stays rec R s G G' → Q .normal a' w') → wpAnyIn (fo rd) md P .any ops Q m listed a w := by
  obtain ⟨hedge, hind⟩ := regB_spec hB
  intro m
  induction m with
  | zero =>
    intro R listed a w Sb G e s hl _ hR hls _ hrun he hs _ _ hQ
    have : R = [] := List.eq_nil_of_length_eq_zero hl
    subst this
    obtain ⟨rfl, rfl⟩ := hrun
    refine ⟨?_, hQ a w Sb G he (Nxt.refl hs) rfl (fun _ _ _ _ => rfl)⟩
    refine List.eq_nil_iff_forall_not_mem.2 fun i hi => ?_
    obtain ⟨h1, o, h2, _⟩ := mem_ready.1 hi
    have := (hR i).2 ⟨(Array.getElem?_eq_some_iff.1 h2).1, h1⟩
    cases this
  | succ m ih =>
    intro R listed a w Sb G e s hl hsort hR hls hdc hrun he hs hfr hfN hQ
    refine ⟨fun hr => ?_, fun i hi => ?_⟩
    · -- the first of what is left may come
      exfalso
      cases R with
      | nil => simp at hl
      | cons x R =>
        obtain ⟨hx1, hx2⟩ := (hR x).1 (by simp)
        have ho : ops[x]? = some ops[x] := by simp [hx1]
        have : x ∈ Region.ready .any ops listed := mem_ready.2 ⟨hx2, _, ho, fun d hd hb => by
          have hlt := hedge x _ ho d hd hb
          have hnx : d.on ∉ x :: R := fun hm => by
            rcases List.mem_cons.1 hm with q | q
            · omega
            · have := (List.pairwise_cons.1 hsort).1 _ q; omega
          cases hb' : listed.getD d.on false with
          | true => rfl
          | false =>
            exact absurd ((hR d.on).2 ⟨by omega, by
              have hlt2 : d.on < listed.size := by omega
              simp [hlt2] at hb' ⊢
              exact hb'⟩) hnx⟩
        rw [hr] at this
        cases this
    · obtain ⟨hi1, oi, hoi, hi2⟩ := mem_ready.1 hi
      have hiR : i ∈ R := (hR i).2 ⟨(Array.getElem?_eq_some_iff.1 hoi).1, hi1⟩
      obtain ⟨R1, R2, rfl⟩ := List.append_of_mem hiR
      have hsort' := List.pairwise_append.1 hsort
      have hlt1 : ∀ x ∈ R1, x < i := fun x hx => hsort'.2.2 x hx i (by simp)
      have hnd : (R1 ++ i :: R2).Nodup := hsort.imp (fun h => Nat.ne_of_lt h)
      have hdepL : ∀ x j, Dep ops x j → listed.getD j false = true → listed.getD x false = true := by
        intro x j hd
        induction hd with
        | edge ho hd hb => intro hj; exact hdc _ _ ho hj _ hd hb
        | trans ho hd hb _ ih => intro hj; exact ih (hdc _ _ ho hj _ hd hb)
      have hdepI : ∀ x, Dep ops x i → listed.getD x false = true := by
        intro x hd
        cases hd with
        | edge ho hd hb => rw [hoi] at ho; cases ho; exact hi2 _ hd hb
        | trans ho hd hb h => rw [hoi] at ho; cases ho; exact hdepL _ _ h (hi2 _ hd hb)
      have hun : ∀ x ∈ R1 ++ i :: R2, listed.getD x false = false := fun x hx => by
        obtain ⟨q1, q2⟩ := (hR x).1 hx
        have : x < listed.size := by omega
        simp [this] at q2 ⊢
        exact q2
      have hindR : ∀ x ∈ R1, indep ops W x i = true ∧ unord ops x i = true := fun x hx => by
        rcases hind x i (hlt1 x hx) (Array.getElem?_eq_some_iff.1 hoi).1 with q | q
        · have := hdepI x q
          rw [hun x (by simp [hx])] at this
          cases this
        · exact q
      have hiR1 : i ∉ R1 := fun q => by have := hlt1 i q; omega
      have hpull := pull hoi hdis R1 e s hrun hindR hiR1 (hnd.sublist (List.sublist_append_left _ _)) (fun x hx id hid z hz hq => by
          obtain ⟨k, E, hk⟩ := rv_tid (eval_rv he z) hq
          rw [(hfr x (by simp [hx]) id hid).2 k] at hk
          cases hk) (fun x hx id hid => (hfr x (by simp [hx]) id hid).1) (fun id hid => (hfr i (by simp) id hid).1)
      obtain ⟨hpi, hrun'⟩ := hpull
      have hkeys := hpi.keys
      have hmem : ∀ x, x ∈ R1 ++ R2 ↔ x ∈ R1 ++ i :: R2 ∧ x ≠ i := fun x => by
        have hni2 : i ∉ R2 := fun q => by
          have := (List.nodup_append.1 hnd).2.1
          exact (List.nodup_cons.1 this).1 q
        simp only [List.mem_append, List.mem_cons]
        constructor
        · rintro (q | q)
          · exact ⟨.inl q, fun h => hiR1 (h ▸ q)⟩
          · exact ⟨.inr (.inr q), fun h => hni2 (h ▸ q)⟩
        · rintro ⟨q | q | q, h⟩
          · exact .inl q
          · exact absurd q h
          · exact .inr q
      have hstep : ∀ (a' : Act) (w' : World) (Sb' : Nat → Prop) (G' : Gh), Rvs w' Sb' G' (aftE ops rec i e) a'.tmps.toList → Nxt w Sb G s w' Sb' G' (aftS rec i s) → a'.defers = a.defers → (∀ id k, ¬ inR rec i id → s id = none → G' id k = G id k) →
          wpAnyIn (fo rd) md P .any ops Q m (listed.setIfInBounds i true) a' w' := by
        intro a' w' Sb' G' he' hNx hd' hG'
        have hNn : ∀ id, N ≤ id → ¬ inR rec i id := fun id hid ⟨r, q1, q2, q3⟩ => by have := (hN i r q1).2; omega
        have hs'none : ∀ id, ¬ inR rec i id → s id = none → aftS rec i s id = none := fun id hn hid => by
          unfold aftS
          rw [upd_ne]
          · exact hid
          · rintro p hp rfl
            rcases hkeys p hp with q | ⟨_, q⟩
            · exact hn q
            · exact q hid
        refine ih (R1 ++ R2) (listed.setIfInBounds i true) a' w' Sb' G' _ _ (by simp at hl ⊢; omega) (hsort.sublist (List.Sublist.append_left (List.sublist_cons_self _ _) _)) (fun x => ?_) (by simpa using hls) (fun k o ho hk d hd hb => ?_) hrun' he' hNx.sim (fun x hx id hid => ?_) (fun id hid => ⟨hs'none id (hNn id hid) (hfN id hid).1, fun k => (hG' id k (hNn id hid) (hfN id hid).1).trans ((hfN id hid).2 k)⟩)
          (fun a2 w2 Sb2 G2 h1 h2 h3 h4 => hQ a2 w2 Sb2 G2 h1 (hNx.trans h2) (h3.trans hd') (fun id k hid hsid => ?_))
        · rw [hmem, hR]
          by_cases hxi : x = i
          · subst hxi
            simp only [ne_eq, not_true_eq_false, and_false, false_iff]
            rintro ⟨q1, q2⟩
            have : x < listed.size := by omega
            simp [this] at q2
          · rw [getD_set_ne true (Ne.symm hxi)]
            simp [hxi]
        · by_cases hki : k = i
          · subst hki
            rw [hoi] at ho
            cases ho
            exact getD_set_true (hi2 d hd hb)
          · rw [getD_set_ne false (Ne.symm hki)] at hk
            exact getD_set_true (hdc k o ho hk d hd hb)
        · obtain ⟨hx1, hx2⟩ := (hmem x).1 hx
          obtain ⟨q1, q2⟩ := hfr x hx1 id hid
          have hn := hdis x i hx2 id hid
          exact ⟨hs'none id hn q1, fun k => (hG' id k hn q1).trans (q2 k)⟩
        · have hn : ¬ inR rec i id := hid i (by simp)
          rw [h4 id k (fun x hx => hid x ((hmem x).1 hx).1) (hs'none id hn hsid)]
          exact hG' id k hn hsid
      obtain ⟨o', ho', hp⟩ := hpi
      rw [hoi] at ho'
      cases ho'
      unfold wpOpIn
      simp only [hoi]
      have hdi : dstOf ops i = oi.dst := by unfold dstOf; rw [hoi]; rfl
      cases hr : rec i with
      | none =>
        rw [hr] at hp
        simp only at hp
        rw [wanted_rv he hp]
        simp only [Bool.false_eq_true, if_false]
        refine ⟨fun f _ => fo_fn rd f, hstep _ w Sb G ?_ ?_ (by cases oi.dst <;> rfl) (fun _ _ _ _ => rfl)⟩
        · unfold aftE valOf
          rw [hr, hdi]
          exact put_rv he undef_rv oi.dst
        · unfold aftS updOf
          rw [hr]
          exact Nxt.refl hs
      | some r =>
        rw [hr] at hp
        simp only at hp
        obtain ⟨hp1, hp2, hp3⟩ := hp
        rw [wanted_rv he hp1]
        simp only [if_true]
        have hfree : (!W.contains i) = false → Free s G r.1 := fun hw id hid => by
          rcases Nat.lt_or_ge id N with q | q
          · obtain ⟨j, hj, hin⟩ := hT i r hr id hid q
            by_cases hjR : j ∈ R1 ++ i :: R2
            · exact hfr j hjR id hin
            · exfalso
              obtain ⟨r', hr', t1, t2⟩ := hin
              have hji : j ≠ i := fun e => hjR (by simp [e])
              have hlj : listed.getD j false = true := by
                have : ¬ (listed.getD j true = false) := fun e => hjR ((hR j).2 ⟨hj, e⟩)
                have hjs : j < listed.size := by omega
                simpa [hjs] using this
              rcases Nat.lt_or_ge j i with hlt | hge
              · have := hM j i r' r hr' hr hlt; omega
              · rcases hind i j (by omega) hj with hd | hd
                · have := hdepL i j hd hlj
                  rw [hun i (by simp)] at this
                  cases this
                · have hoj : ops[j]? = some ops[j] := by simp [hj]
                  have hd := hd.1
                  unfold indep at hd
                  rw [hoi, hoj] at hd
                  simp only [Bool.and_eq_true, Bool.or_eq_true] at hd
                  rcases hd.1.2 with z | z
                  · rw [hw] at z; cases z
                  · have := hL j r' _ hr' hoj z; omega
          · exact hfN id q
        refine operIn_fo rd md hp2.noDefer (hp2.wp hs he (fun id q1 q2 => hfr i (by simp) id ⟨r, hr, q1, q2⟩) (hN i r hr).1 (hN i r hr).2 hfN hfree fun a' w' Sb' G' h1 h2 h3 h4 => hstep a' w' Sb' G' ?_ ?_ h3 (fun id k hn hsid => h4 id k ?_ hsid))
        · unfold aftE valOf
          rw [hr, hdi]
          exact h1
        · unfold aftS updOf
          rw [hr]
          exact h2
        · rcases Nat.lt_or_ge id r.1 with q | q
          · exact .inl q
          · right
            rcases Nat.lt_or_ge id r.2.2.2 with q2 | q2
            · exact absurd ⟨r, hr, q, q2⟩ hn
            · exact q2
theorem text_order (rd : Option Nat) (md : Nat) (hdis : ∀ i j, i ≠ j → ∀ id, inR rec i id → ¬ inR rec j id) {N : Nat} (hN : ∀ i r, rec i = some r → r.1 ≤ N ∧ r.2.2.2 ≤ N) (hT : ∀ i r, rec i = some r → ∀ id, r.1 ≤ id → id < N → ∃ j, j < ops.size ∧ inR rec j id) (hM : ∀ i j r r', rec i = some r → rec j = some r' → i < j → r.2.2.2 ≤ r'.1) {Fe : List V} {Fs : Store} : ∀ (R : List Nat) (a : Act) (w : World) (Sb : Nat → Prop) (G : Gh) (e : List V) (s : Store), R.Pairwise (· < ·) → (∀ j, j < ops.size → j ∈ R ∨ ∀ x ∈ R, j < x) → RunsR P ops W rec R e s Fe Fs → Rvs w Sb G e a.tmps.toList → WSim w Sb G s →
    (∀ x ∈ R, ∀ id, inR rec x id → s id = none ∧ ∀ k, G id k = none) → (∀ id, N ≤ id → s id = none ∧ ∀ k, G id k = none) →
    (∀ a' w' Sb' G', Rvs w' Sb' G' Fe a'.tmps.toList → Nxt w Sb G s w' Sb' G' Fs → a'.defers = a.defers → Stays rec R s G G' → Q .normal a' w') → wpOpsIn (fo rd) md P ops Q R a w := by
  intro R
  induction R with
  | nil =>
    intro a w Sb G e s _ _ hrun he hs _ _ hQ
    obtain ⟨rfl, rfl⟩ := hrun
    exact hQ a w Sb G he (Nxt.refl hs) rfl (fun _ _ _ _ => rfl)
  | cons i R ih =>
    intro a w Sb G e s hsort hpast hrun he hs hfr hfN hQ
    obtain ⟨hpi, hrun'⟩ := hrun
    obtain ⟨hni0, hsort'⟩ := List.pairwise_cons.1 hsort
    have hni : i ∉ R := fun q => by have := hni0 i q; omega
    have hkeys := hpi.keys
    obtain ⟨oi, hoi, hp⟩ := hpi
    have hdi : dstOf ops i = oi.dst := by unfold dstOf; rw [hoi]; rfl
    have hstep : ∀ (a' : Act) (w' : World) (Sb' : Nat → Prop) (G' : Gh), Rvs w' Sb' G' (aftE ops rec i e) a'.tmps.toList → Nxt w Sb G s w' Sb' G' (aftS rec i s) → a'.defers = a.defers → (∀ id k, ¬ inR rec i id → s id = none → G' id k = G id k) → wpOpsIn (fo rd) md P ops Q R a' w' := by
      intro a' w' Sb' G' he' hNx hd' hG'
      have hNn : ∀ id, N ≤ id → ¬ inR rec i id := fun id hid ⟨r, q1, q2, q3⟩ => by have := (hN i r q1).2; omega
      have hs'none : ∀ id, ¬ inR rec i id → s id = none → aftS rec i s id = none := fun id hn hid => by
        unfold aftS
        rw [upd_ne]
        · exact hid
        · rintro p hp rfl
          rcases hkeys p hp with q | ⟨_, q⟩
          · exact hn q
          · exact q hid
      refine ih a' w' Sb' G' _ _ hsort' (fun j hj => (hpast j hj).elim (fun q => (List.mem_cons.1 q).elim (fun q => .inr fun x hx => q ▸ hni0 x hx) .inl) fun q => .inr fun x hx => q x (by simp [hx])) hrun' he' hNx.sim (fun x hx id hid => ?_) (fun id hid => ⟨hs'none id (hNn id hid) (hfN id hid).1, fun k => (hG' id k (hNn id hid) (hfN id hid).1).trans ((hfN id hid).2 k)⟩) (fun a2 w2 Sb2 G2 h1 h2 h3 h4 => hQ a2 w2 Sb2 G2 h1 (hNx.trans h2) (h3.trans hd') (fun id k hid hsid => ?_))
      · obtain ⟨q1, q2⟩ := hfr x (by simp [hx]) id hid
        have hn := hdis x i (fun q => hni (q ▸ hx)) id hid
        exact ⟨hs'none id hn q1, fun k => (hG' id k hn q1).trans (q2 k)⟩
      · have hn : ¬ inR rec i id := hid i (by simp)
        rw [h4 id k (fun x hx => hid x (by simp [hx])) (hs'none id hn hsid)]
        exact hG' id k hn hsid
    rw [wpOpsIn_cons]
    unfold wpOpIn
    simp only [hoi]
    cases hr : rec i with
    | none =>
      rw [hr] at hp
      simp only at hp
      rw [wanted_rv he hp]
      simp only [Bool.false_eq_true, if_false]
      refine ⟨fun f _ => fo_fn rd f, hstep _ w Sb G ?_ ?_ (by cases oi.dst <;> rfl) (fun _ _ _ _ => rfl)⟩
      · unfold aftE valOf
        rw [hr, hdi]
        exact put_rv he undef_rv oi.dst
      · unfold aftS updOf
        rw [hr]
        exact Nxt.refl hs
    | some r =>
      rw [hr] at hp
      simp only at hp
      obtain ⟨hp1, hp2, hp3⟩ := hp
      rw [wanted_rv he hp1]
      simp only [if_true]
      have hfree : Free s G r.1 := fun id hid => by
        rcases Nat.lt_or_ge id N with q | q
        · obtain ⟨j, hj, hin⟩ := hT i r hr id hid q
          rcases hpast j hj with hjR | hjR
          · exact hfr j hjR id hin
          · exfalso
            obtain ⟨r', hr', t1, t2⟩ := hin
            have := hM j i r' r hr' hr (hjR i (by simp)); omega
        · exact hfN id q
      refine operIn_fo rd md hp2.noDefer (hp2.wp hs he (fun id q1 q2 => hfr i (by simp) id ⟨r, hr, q1, q2⟩) (hN i r hr).1 (hN i r hr).2 hfN (fun _ => hfree) fun a' w' Sb' G' h1 h2 h3 h4 => hstep a' w' Sb' G' ?_ ?_ h3 (fun id k hn hsid => h4 id k ?_ hsid))
      · unfold aftE valOf
        rw [hr, hdi]
        exact h1
      · unfold aftS updOf
        rw [hr]
        exact h2
      · rcases Nat.lt_or_ge id r.1 with q | q
        · exact .inl q
        · right
          rcases Nat.lt_or_ge id r.2.2.2 with q2 | q2
          · exact absurd ⟨r, hr, q, q2⟩ hn
          · exact q2
end
end Go.Vm
