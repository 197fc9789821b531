/-
  Code of the machine: what holds behind it, told on plain values. No program is named here. The machine's loops and calls. No program is named here. The machine's calls: what a function leaves. No program is named here. The machine's functions. No program is named here.
-/
import Derived.Test.YtofcjmjokokajaaGreatQe
import Derived.LoopN
namespace Go.Vm
open Go.RowKit
def vlist (P : Program) (ops : Array Oper) (W : List Nat) (K : List V → Store → Nat → Prop) : List Nat → List V → Store → Nat → Prop
  | [], e, s, n => K e s n
  | i :: r, e, s, n => ∃ o, ops[i]? = some o ∧ ((vwanted ops e o = some false ∧ vlist P ops W K r (vput e o.dst (.tuple [])) s n) ∨
      (vwanted ops e o = some true ∧ ∃ out, OS P (!W.contains i) o (veval e) s n out ∧ n ≤ out.2.2 ∧ (∀ p ∈ out.2.1, n ≤ p.1 ∧ p.1 < out.2.2 ∨ W.contains i = true ∧ s p.1 ≠ none ∧ aW ops W i p.1 = false) ∧ flatAt ops W i (flW ops W i) o.op (veval e) ∧ vlist P ops W K r (vput e o.dst out.1) (upd s out.2.1) out.2.2))
section
variable {P : Program} {ops : Array Oper} {W : List Nat}
theorem RunsR.congr {rec rec' : Rec} : ∀ {l : List Nat} {e : List V} {s : Store} {Fe : List V} {Fs : Store}, (∀ i ∈ l, rec i = rec' i) → RunsR P ops W rec l e s Fe Fs → RunsR P ops W rec' l e s Fe Fs
  | [], e, s, Fe, Fs, _, h => h
  | i :: l, e, s, Fe, Fs, hr, h => by
    obtain ⟨h1, h2⟩ := h
    have hi := hr i (by simp)
    have he : aftE ops rec' i e = aftE ops rec i e := by unfold aftE valOf; rw [hi]
    have hs : aftS rec' i s = aftS rec i s := by unfold aftS updOf; rw [hi]
    refine ⟨?_, by rw [he, hs]; exact RunsR.congr (fun j hj => hr j (by simp [hj])) h2⟩
    unfold Perf at h1 ⊢
    rw [← hi]
    exact h1
theorem runs_none {rec : Rec} : ∀ {l : List Nat} {e : List V} {s : Store} {Fe : List V} {Fs : Store} {id : Nat}, RunsR P ops W rec l e s Fe Fs → s id = none → (∀ x ∈ l, ¬ inR rec x id) → Fs id = none
  | [], e, s, Fe, Fs, id, h, hs, _ => by obtain ⟨_, rfl⟩ := h; exact hs
  | i :: l, e, s, Fe, Fs, id, h, hs, hn => by
    obtain ⟨h1, h2⟩ := h
    refine runs_none h2 ?_ (fun x hx => hn x (by simp [hx]))
    unfold aftS
    rw [upd_ne]
    · exact hs
    · rintro p hp rfl
      rcases h1.keys p hp with q | ⟨_, q⟩
      · exact hn i (by simp) q
      · exact q hs
theorem vlist_rec {K : List V → Store → Nat → Prop} : ∀ (l : List Nat) (e : List V) (s : Store) (n : Nat), l.Pairwise (· < ·) → vlist P ops W K l e s n →
    ∃ (rec : Rec) (Fe : List V) (Fs : Store) (N : Nat), RunsR P ops W rec l e s Fe Fs ∧ K Fe Fs N ∧ n ≤ N ∧ (∀ i r, rec i = some r → n ≤ r.1 ∧ r.1 ≤ r.2.2.2 ∧ r.2.2.2 ≤ N) ∧ (∀ i j, i ≠ j → ∀ id, inR rec i id → ¬ inR rec j id) ∧ (∀ i, i ∉ l → rec i = none) ∧
      (∀ id, n ≤ id → id < N → ∃ j, j < ops.size ∧ inR rec j id) ∧ (∀ i j r r', rec i = some r → rec j = some r' → i < j → r.2.2.2 ≤ r'.1) ∧ (∀ j r o, rec j = some r → ops[j]? = some o → lf (flW ops W j) o.op = true → r.2.2.2 ≤ r.1) := by
  intro l
  induction l with
  | nil =>
    intro e s n _ h
    refine ⟨fun _ => none, e, s, n, ⟨rfl, rfl⟩, h, Nat.le_refl _, ?_, ?_, fun _ _ => rfl, fun id a b => by omega, ?_, ?_⟩
    · rintro i r h; cases h
    · rintro i j _ id ⟨r, h, _⟩; cases h
    · rintro i j r r' h; cases h
    · rintro j r o h; cases h
  | cons i l ih =>
    intro e s n hnd h
    obtain ⟨hil0, hnd⟩ := List.pairwise_cons.1 hnd
    have hil : i ∉ l := fun q => by have := hil0 i q; omega
    obtain ⟨o, ho, h⟩ := h
    have hilt := (Array.getElem?_eq_some_iff.1 ho).1
    have hdi : dstOf ops i = o.dst := by unfold dstOf; rw [ho]; rfl
    rcases h with ⟨hw, h⟩ | ⟨hw, out, hos, hn, hk, hfl, h⟩
    · obtain ⟨rec, Fe, Fs, N, h1, h2, h3, h4, h5, h6, h7, h8, h9⟩ := ih _ _ _ hnd h
      have hi := h6 i hil
      refine ⟨rec, Fe, Fs, N, ⟨⟨o, ho, by rw [hi]; exact hw⟩, ?_⟩, h2, h3, h4, h5, fun j hj => h6 j (fun q => hj (by simp [q])), h7, h8, h9⟩
      have he : aftE ops rec i e = vput e o.dst (.tuple []) := by unfold aftE valOf; rw [hi, hdi]
      have hs : aftS rec i s = s := by unfold aftS updOf; rw [hi]; rfl
      rw [he, hs]
      exact h1
    · obtain ⟨rec, Fe, Fs, N, h1, h2, h3, h4, h5, h6, h7, h8, h9⟩ := ih _ _ _ hnd h
      have hrec : ∀ j, j ≠ i → (fun j => if j = i then some (n, out) else rec j) j = rec j := fun j hj => by simp [hj]
      have hinr : ∀ j id, inR (fun j => if j = i then some (n, out) else rec j) j id → (j = i ∧ n ≤ id ∧ id < out.2.2) ∨ (j ≠ i ∧ inR rec j id) := fun j id ⟨r, q1, q2⟩ => by
        by_cases hji : j = i
        · subst hji
          simp at q1
          subst q1
          exact .inl ⟨rfl, q2⟩
        · simp [hji] at q1
          exact .inr ⟨hji, r, q1, q2⟩
      refine ⟨fun j => if j = i then some (n, out) else rec j, Fe, Fs, N, ⟨⟨o, ho, by simp only [if_true]; exact ⟨hw, hos, hk, hfl⟩⟩, ?_⟩, h2, by omega, fun j r hj => ?_, fun j k hjk id hj hk' => ?_, fun j hj => ?_, fun id a b => ?_, fun j k r r' hj hk' hjk => ?_, fun j r o' hj hoj hlf => ?_⟩
      · have he : aftE ops (fun j => if j = i then some (n, out) else rec j) i e = vput e o.dst out.1 := by unfold aftE valOf; simp only [if_true, hdi]
        have hs : aftS (fun j => if j = i then some (n, out) else rec j) i s = upd s out.2.1 := by unfold aftS updOf; simp only [if_true]
        rw [he, hs]
        exact RunsR.congr (fun j hj => (hrec j (fun q => hil (q ▸ hj))).symm) h1
      · by_cases hji : j = i
        · subst hji
          simp at hj
          subst hj
          exact ⟨Nat.le_refl _, hn, h3⟩
        · simp [hji] at hj
          have := h4 j r hj
          omega
      · rcases hinr j id hj with ⟨r, q⟩ | ⟨r, q⟩
        · rcases hinr k id hk' with ⟨r2, q2⟩ | ⟨r2, q2⟩
          · exact hjk (r.trans r2.symm)
          · obtain ⟨r0, t1, t2, t3⟩ := q2; have := h4 k r0 t1; omega
        · rcases hinr k id hk' with ⟨r2, q2⟩ | ⟨r2, q2⟩
          · obtain ⟨r0, t1, t2, t3⟩ := q; have := h4 j r0 t1; omega
          · exact h5 j k hjk id q q2
      · have hji : j ≠ i := fun q => hj (by simp [q])
        simp only [hji, if_false]
        exact h6 j (fun q => hj (by simp [q]))
      · rcases Nat.lt_or_ge id out.2.2 with q | q
        · exact ⟨i, hilt, (n, out), by simp, a, q⟩
        · obtain ⟨j, j1, r, j2, j3⟩ := h7 id q b
          by_cases hji : j = i
          · subst hji
            rw [h6 j hil] at j2
            cases j2
          · exact ⟨j, j1, r, by simp [hji, j2], j3⟩
      · by_cases hji : j = i
        · by_cases hki : k = i
          · omega
          · simp [hki] at hk'
            simp [hji] at hj
            subst hj
            exact (h4 k r' hk').1
        · simp [hji] at hj
          by_cases hki : k = i
          · subst hki
            exfalso
            have hjl : j ∈ l := by
              rcases Classical.em (j ∈ l) with q | q
              · exact q
              · rw [h6 j q] at hj; cases hj
            have := hil0 j hjl
            omega
          · simp [hki] at hk'
            exact h8 j k r r' hj hk' hjk
      · by_cases hji : j = i
        · subst hji
          simp at hj
          subst hj
          rw [ho] at hoj
          cases hoj
          exact Nat.le_of_eq (hos.lf_n hlf)
        · simp [hji] at hj
          exact h9 j r o' hj hoj hlf
end
structure On (w : World) (Sb : Nat → Prop) (G : Gh) (s : Store) (n : Nat) (w' : World) (Sb' : Nat → Prop) (G' : Gh) (s' : Store) (n' : Nat) : Prop where
  nxt : Nxt w Sb G s w' Sb' G' s'
  free : Free s' G' n'
  le : n ≤ n'
  dead : ∀ id, id < n → s id = none → s' id = none ∧ ∀ k, G' id k = G id k
section
variable {w w' w2 : World} {Sb Sb' Sb2 : Nat → Prop} {G G' G2 : Gh} {s s' s2 : Store} {n n' n2 : Nat}
theorem On.trans (h : On w Sb G s n w' Sb' G' s' n') (k : On w' Sb' G' s' n' w2 Sb2 G2 s2 n2) : On w Sb G s n w2 Sb2 G2 s2 n2 :=
  ⟨h.nxt.trans k.nxt, k.free, Nat.le_trans h.le k.le, fun id h1 h2 => by
    obtain ⟨q1, q2⟩ := h.dead id h1 h2
    obtain ⟨q3, q4⟩ := k.dead id (Nat.lt_of_lt_of_le h1 h.le) q1
    exact ⟨q3, fun j => (q4 j).trans (q2 j)⟩⟩
theorem On.refl (hs : WSim w Sb G s) (hf : Free s G n) : On w Sb G s n w Sb G s n := ⟨Nxt.refl hs, hf, Nat.le_refl _, fun _ _ h => ⟨h, fun _ => rfl⟩⟩
end
abbrev VPost := Exit → List V → Store → Nat → Prop
structure Marks (B : Nat) (w : World) (Sb : Nat → Prop) (G : Gh) (s : Store) (ds : List Deferred) : Prop where
  base : B ≤ w.heap.size
  nodup : ds.Nodup
  mark : ∀ d ∈ ds, ∃ D, d = { target := .collected D, args := #[] } ∧ B ≤ D ∧ D < w.heap.size ∧ ¬ Sb D ∧ ¬ Own s G D ∧ w.heap[D]? = some (.deferred (some []))
theorem Marks.nxt {B : Nat} {w w' : World} {Sb Sb' : Nat → Prop} {G G' : Gh} {s s' : Store} {ds : List Deferred} (h : Marks B w Sb G s ds) (k : Nxt w Sb G s w' Sb' G' s') : Marks B w' Sb' G' s' ds :=
  ⟨Nat.le_trans h.base k.size, h.nodup, fun d hd => by
    obtain ⟨D, q1, q2, q3, q4, q5, q6⟩ := h.mark d hd
    refine ⟨D, q1, q2, Nat.lt_of_lt_of_le q3 k.size, fun q => ?_, fun q => ?_, (k.keep D q3 q5).trans q6⟩
    · rcases k.sbn D q with q | q | q
      · exact q4 q
      · exact q5 q
      · omega
    · rcases k.own D q with q | q
      · exact q5 q
      · omega⟩
theorem Marks.re {B : Nat} {w : World} {Sb Sb' : Nat → Prop} {G G' : Gh} {s s' : Store} {ds : List Deferred} (h : Marks B w Sb G s ds) (k : ∀ b, Sb' b ∨ Own s' G' b → Sb b ∨ Own s G b) : Marks B w Sb' G' s' ds :=
  ⟨h.base, h.nodup, fun d hd => by
    obtain ⟨D, q1, q2, q3, q4, q5, q6⟩ := h.mark d hd
    exact ⟨D, q1, q2, q3, fun q => (k D (.inl q)).elim q4 q5, fun q => (k D (.inr q)).elim q4 q5, q6⟩⟩
def VEnd (Q : VPost) (B : Nat) (w : World) (Sb : Nat → Prop) (G : Gh) (s : Store) (n : Nat) : Exit → Act → World → Prop := fun x a' w' => x ≠ .outgrown ∧ ∃ e' s' n' Sb' G', Q x e' s' n' ∧ Rvs w' Sb' G' e' a'.tmps.toList ∧ On w Sb G s n w' Sb' G' s' n' ∧ Marks B w' Sb' G' s' a'.defers
def noRF : Code → Bool
  | .seq x y | .cond _ x y => noRF x && noRF y
  | .block _ c | .loop c => noRF c
  | .rangeFunc .. => false
  | _ => true
def vwp (P : Program) (c : Code) (Q : VPost) (e : List V) (s : Store) (n : Nat) : Prop :=
  ∀ rd md B a w Sb G, (rd = none ∨ noRF c = true) → Rvs w Sb G e a.tmps.toList → WSim w Sb G s → Free s G n → Marks B w Sb G s a.defers → c.wpIn (fo rd) md P (VEnd Q B w Sb G s n) a w
section
variable {P : Program} {Q Q' : VPost} {e : List V} {s : Store} {n : Nat}
theorem vwp_mono {c : Code} (h : vwp P c Q e s n) (hq : ∀ x e s n, Q x e s n → Q' x e s n) : vwp P c Q' e s n := fun rd md B a w Sb G h0 h1 h2 h3 h4 =>
  wpIn_mono (h rd md B a w Sb G h0 h1 h2 h3 h4) fun _ _ _ ⟨t, e', s', n', Sb', G', q, r⟩ => ⟨t, e', s', n', Sb', G', hq _ _ _ _ q, r⟩
theorem vwp_skip (h : Q .normal e s n) : vwp P .skip Q e s n := fun _ _ _ _ _ Sb G _ h1 h2 h3 h4 => wpIn_skip ⟨by simp, e, s, n, Sb, G, h, h1, .refl h2 h3, h4⟩
theorem vwp_label {l : Nat} (h : Q .normal e s n) : vwp P (.label l) Q e s n := fun _ _ _ _ _ Sb G _ h1 h2 h3 h4 => wpIn_label ⟨by simp, e, s, n, Sb, G, h, h1, .refl h2 h3, h4⟩
theorem vwp_exit {id : Nat} (h : Q (.exit id) e s n) : vwp P (.exit id) Q e s n := fun _ _ _ _ _ Sb G _ h1 h2 h3 h4 => wpIn_exit ⟨by simp, e, s, n, Sb, G, h, h1, .refl h2 h3, h4⟩
theorem vwp_ret (h : Q .ret e s n) : vwp P .ret Q e s n := fun _ _ _ _ _ Sb G _ h1 h2 h3 h4 => wpIn_ret ⟨by simp, e, s, n, Sb, G, h, h1, .refl h2 h3, h4⟩
def thenV (next : List V → Store → Nat → Prop) (Q : VPost) : VPost
  | .normal, e, s, n => next e s n
  | x, e, s, n => Q x e s n
theorem vwp_seq {x y : Code} (h : vwp P x (thenV (vwp P y Q) Q) e s n) : vwp P (.seq x y) Q e s n := fun rd md B a w Sb G h0 h1 h2 h3 h4 =>
  wpIn_seq (wpIn_mono (h rd md B a w Sb G (h0.imp_right fun q => (Bool.and_eq_true _ _ ▸ q : _ ∧ _).1) h1 h2 h3 h4) fun ex a' w' ⟨t0, e', s', n', Sb', G', q, r1, r2, r3⟩ => by
    cases ex with
    | normal => exact wpIn_mono (q rd md B a' w' Sb' G' (h0.imp_right fun q => (Bool.and_eq_true _ _ ▸ q : _ ∧ _).2) r1 r2.nxt.sim r2.free r3) fun ex2 a2 w2 ⟨t, e2, s2, n2, Sb2, G2, q', t1, t2, t3⟩ => ⟨t, e2, s2, n2, Sb2, G2, q', t1, r2.trans t2, t3⟩
    | exit id => exact ⟨t0, e', s', n', Sb', G', q, r1, r2, r3⟩
    | goto l => exact ⟨t0, e', s', n', Sb', G', q, r1, r2, r3⟩
    | ret => exact ⟨t0, e', s', n', Sb', G', q, r1, r2, r3⟩
    | panic c => exact ⟨t0, e', s', n', Sb', G', q, r1, r2, r3⟩
    | outgrown => exact ⟨t0, e', s', n', Sb', G', q, r1, r2, r3⟩)
theorem vwp_cond {c : Operand} {x y : Code} {t : Bool} (hc : veval e c = .bool t) (h : vwp P (if t then x else y) Q e s n) : vwp P (.cond c x y) Q e s n := fun rd md B a w Sb G h0 h1 h2 h3 h4 => by
  have hr := eval_rv h1 c
  rw [hc] at hr
  cases hb : a.eval c <;> rw [hb] at hr <;> try (cases hr; done)
  cases hr
  exact wpIn_cond hb (h rd md B a w Sb G (h0.imp_right fun q => by simp only [noRF, Bool.and_eq_true] at q; cases t <;> simp [q.1, q.2]) h1 h2 h3 h4)
def inBlockV (id : Nat) (Q : VPost) : VPost
  | .exit id', e, s, n => if id' = id then Q .normal e s n else Q (.exit id') e s n
  | x, e, s, n => Q x e s n
theorem vwp_block {id : Nat} {c : Code} (h : vwp P c (inBlockV id Q) e s n) : vwp P (.block id c) Q e s n := fun rd md B a w Sb G h0 h1 h2 h3 h4 =>
  wpIn_block (wpIn_mono (h rd md B a w Sb G h0 h1 h2 h3 h4) fun ex a' w' ⟨t0, e', s', n', Sb', G', q, r⟩ => by
    cases ex with
    | exit id' =>
      simp only [Exit.inBlock]
      simp only [inBlockV] at q
      split
      · rename_i hh; rw [if_pos hh] at q; exact ⟨by simp, e', s', n', Sb', G', q, r⟩
      · rename_i hh; rw [if_neg hh] at q; exact ⟨t0, e', s', n', Sb', G', q, r⟩
    | normal => exact ⟨t0, e', s', n', Sb', G', q, r⟩
    | goto l => exact ⟨t0, e', s', n', Sb', G', q, r⟩
    | ret => exact ⟨t0, e', s', n', Sb', G', q, r⟩
    | panic c => exact ⟨t0, e', s', n', Sb', G', q, r⟩
    | outgrown => exact ⟨t0, e', s', n', Sb', G', q, r⟩)
theorem vwp_region {id : Nat} {ops : Array Oper} (W : List Nat) (h : vlist P ops W (Q .normal) (List.range ops.size) e s n) : vwp P (.region id ops false) Q e s n := fun rd md B a w Sb G h0 h1 h2 h3 h4 => by
  obtain ⟨rec, Fe, Fs, N, r1, r2, r3, r40, r5, r6, rT, rM, rL⟩ := vlist_rec _ _ _ _ List.pairwise_lt_range h
  have rT2 : ∀ i r, rec i = some r → ∀ id, r.1 ≤ id → id < N → ∃ j, j < ops.size ∧ inR rec j id := fun i r hr id a b => rT id (by have := r40 i r hr; omega) b
  have r4 : ∀ i id, inR rec i id → n ≤ id ∧ id < N := fun i id ⟨r, t1, t2, t3⟩ => by have := r40 i r t1; omega
  have r7 : ∀ i r, rec i = some r → r.1 ≤ N ∧ r.2.2.2 ≤ N := fun i r hr => by have := r40 i r hr; omega
  refine wpIn_region (text_order rd md r5 r7 rT2 rM (List.range ops.size) a w Sb G e s List.pairwise_lt_range (fun j hj => .inl (List.mem_range.2 hj)) r1 h1 h2 (fun x _ id hid => h3 id (r4 x id hid).1) (fun id hid => h3 id (by omega)) fun a' w' Sb' G' q1 q2 q3 q4 => ⟨by simp, Fe, Fs, N, Sb', G', r2, q1, ⟨q2, fun id hid => ?_, r3, fun id hid hs => ?_⟩, q3 ▸ h4.nxt q2⟩)
  · have hn : ∀ x ∈ List.range ops.size, ¬ inR rec x id := fun x _ hx => by have := (r4 x id hx).2; omega
    have h5 := h3 id (by omega)
    refine ⟨runs_none r1 h5.1 hn, fun k => (q4 id k hn h5.1).trans (h5.2 k)⟩
  · have hn : ∀ x ∈ List.range ops.size, ¬ inR rec x id := fun x _ hx => by have := (r4 x id hx).1; omega
    exact ⟨runs_none r1 hs hn, fun k => q4 id k hn hs⟩
theorem vwp_region_draw (hm : P.follows .mixedOrders = true) {id : Nat} {ops : Array Oper} (W : List Nat) (hB : regB ops W = true) (h : vlist P ops W (Q .normal) (List.range ops.size) e s n) : vwp P (.region id ops true) Q e s n := fun rd md B a w Sb G h0 h1 h2 h3 h4 => by
  obtain ⟨rec, Fe, Fs, N, r1, r2, r3, r40, r5, r6, rT, rM, rL⟩ := vlist_rec _ _ _ _ List.pairwise_lt_range h
  have rT2 : ∀ i r, rec i = some r → ∀ id, r.1 ≤ id → id < N → ∃ j, j < ops.size ∧ inR rec j id := fun i r hr id a b => rT id (by have := r40 i r hr; omega) b
  have r4 : ∀ i id, inR rec i id → n ≤ id ∧ id < N := fun i id ⟨r, t1, t2, t3⟩ => by have := r40 i r t1; omega
  have r7 : ∀ i r, rec i = some r → r.1 ≤ N ∧ r.2.2.2 ≤ N := fun i r hr => by have := r40 i r hr; omega
  have hN : Nxt w Sb G s w.drew Sb G s := Nxt.same h2 rfl rfl rfl rfl
  have hsz : (List.range ops.size).length = ops.size := by simp
  refine wpIn_region_any hm ?_
  have := any_order (P := P) (Q := VEnd Q B w Sb G s n) rd md hB r5 r7 rT2 rM rL ops.size (List.range ops.size) (Array.replicate ops.size false) a w.drew Sb G e s hsz List.pairwise_lt_range (fun i => by
    simp only [List.mem_range]
    constructor
    · intro hi; exact ⟨hi, by simp [hi]⟩
    · exact fun hi => hi.1) (by simp) (fun k o _ hk => by
      exfalso
      by_cases hlt : k < ops.size
      · simp [hlt] at hk
      · simp [hlt] at hk) r1 (hN.rvs h2 h1) hN.sim (fun x _ id hid => h3 id (r4 x id hid).1) (fun id hid => h3 id (by omega)) (fun a' w' Sb' G' q1 q2 q3 q4 => ⟨by simp, Fe, Fs, N, Sb', G', r2, q1, ⟨hN.trans q2, fun id hid => by
        have hn : ∀ x ∈ List.range ops.size, ¬ inR rec x id := fun x _ hx => by have := (r4 x id hx).2; omega
        have h5 := h3 id (by omega)
        exact ⟨runs_none r1 h5.1 hn, fun k => (q4 id k hn h5.1).trans (h5.2 k)⟩, r3, fun id hid hs => by
        have hn : ∀ x ∈ List.range ops.size, ¬ inR rec x id := fun x _ hx => by have := (r4 x id hx).1; omega
        exact ⟨runs_none r1 hs hn, fun k => q4 id k hn hs⟩⟩, q3 ▸ h4.nxt (hN.trans q2)⟩)
  exact this
end
end Go.Vm
namespace Go.Vm
open Go.RowKit
section
variable {P : Program} {Q : VPost} {e : List V} {s : Store} {n : Nat}
end
inductive Vlt (n : Nat) : V → Prop where
  | int (k z) : Vlt n (.int k z)
  | bool (b) : Vlt n (.bool b)
  | str (s) : Vlt n (.str s)
  | nil : Vlt n .nil
  | list {m xs} (h : ∀ cs ∈ xs, ∀ v ∈ cs, Vlt n v) : Vlt n (.list m xs)
  | row {id g i k} (h : id < n) : Vlt n (.row id g i k)
  | nilptr : Vlt n .nilptr
  | ptr {id g i o} (h : id < n) : Vlt n (.ptr id g i o)
  | iptr {cs} (h : ∀ v ∈ cs, Vlt n v) : Vlt n (.iptr cs)
  | nilmap : Vlt n .nilmap
  | map {id} (h : id < n) : Vlt n (.map id)
  | nilfunc : Vlt n .nilfunc
  | func {fn f c} (hf : ∀ v ∈ f, Vlt n v) (hc : ∀ v ∈ c, Vlt n v) : Vlt n (.func fn f c)
  | agg {cs} (h : ∀ v ∈ cs, Vlt n v) : Vlt n (.agg cs)
  | tuple {cs} (h : ∀ v ∈ cs, Vlt n v) : Vlt n (.tuple cs)
  | any : Vlt n .any
section
variable {w : World} {Sb : Nat → Prop} {G G' : Gh} {n : Nat}
theorem Vlt.rv {v : V} {u : Value} (h : Rv w Sb G v u) (hn : Vlt n v) (hG : ∀ id k E, id < n → G id k = some E → G' id k = some E) : Rv w Sb G' v u := by
  induction h with
  | int k n => exact .int k n
  | bool b => exact .bool b
  | str s => exact .str s
  | nil => exact .nil
  | list f hb hm hc hcm hl ho hcell hv ih =>
    cases hn with
    | list h => exact .list f hb hm hc hcm hl ho hcell fun i cs j v h1 h2 => ih i cs j v h1 h2 (h cs (List.mem_of_getElem? h1) v (List.mem_of_getElem? h2))
  | list0 hcm => exact .list0 hcm
  | row h1 hn' hw hc hs ha =>
    cases hn with
    | row h => exact .row (hG _ _ _ h h1) hn' hw hc hs ha
  | nilptr => exact .nilptr
  | ptr h1 hi ho =>
    cases hn with
    | ptr h => exact .ptr (hG _ _ _ h h1) hi ho
  | iptr f hb hn' ho hcell hv ih =>
    cases hn with
    | iptr h => exact .iptr f hb hn' ho hcell fun j v h1 => ih j v h1 (h v (List.mem_of_getElem? h1))
  | nilmap => exact .nilmap
  | map h1 =>
    cases hn with
    | map h => exact .map (hG _ _ _ h h1)
  | nilfunc => exact .nilfunc
  | func h1 h2 hf hc ih1 ih2 =>
    cases hn with
    | func q1 q2 => exact .func h1 h2 (fun i v u a b => ih1 i v u a b (q1 v (List.mem_of_getElem? a))) (fun i v u a b => ih2 i v u a b (q2 v (List.mem_of_getElem? a)))
  | agg h1 ho h2 ih =>
    cases hn with
    | agg q => exact .agg h1 ho fun i v u a b => ih i v u a b (q v (List.mem_of_getElem? a))
  | tuple h1 h2 ih =>
    cases hn with
    | tuple q => exact .tuple h1 fun i v u a b => ih i v u a b (q v (List.mem_of_getElem? a))
  | any u => exact .any u
theorem Rv.lt {v : V} {u : Value} (h : Rv w Sb G v u) (hG : ∀ id k, n ≤ id → G id k = none) : Vlt n v := by
  have hlt : ∀ {id k E}, G id k = some E → id < n := fun {id k E} hE => by
    rcases Nat.lt_or_ge id n with q | q
    · exact q
    · rw [hG id k q] at hE; cases hE
  induction h with
  | int k n => exact .int k n
  | bool b => exact .bool b
  | str s => exact .str s
  | nil => exact .nil
  | list f hb hm hc hcm hl ho hcell hv ih =>
    refine .list fun cs hcs v hv' => ?_
    obtain ⟨i, hi, rfl⟩ := List.getElem_of_mem hcs
    obtain ⟨j, hj, rfl⟩ := List.getElem_of_mem hv'
    exact ih i _ j _ (List.getElem?_eq_getElem hi) (List.getElem?_eq_getElem hj)
  | list0 hcm => exact .list (by simp)
  | row h1 => exact .row (hlt h1)
  | nilptr => exact .nilptr
  | ptr h1 => exact .ptr (hlt h1)
  | iptr f hb hn' ho hcell hv ih =>
    refine .iptr fun v hv' => ?_
    obtain ⟨j, hj, rfl⟩ := List.getElem_of_mem hv'
    exact ih j _ (List.getElem?_eq_getElem hj)
  | nilmap => exact .nilmap
  | map h1 => exact .map (hlt h1)
  | nilfunc => exact .nilfunc
  | func h1 h2 hf hc ih1 ih2 =>
    refine .func (fun v hv => ?_) (fun v hv => ?_)
    · obtain ⟨j, hj, rfl⟩ := List.getElem_of_mem hv
      exact ih1 j _ _ (List.getElem?_eq_getElem hj) (Array.getElem?_eq_getElem (by rw [h1]; exact hj))
    · obtain ⟨j, hj, rfl⟩ := List.getElem_of_mem hv
      exact ih2 j _ _ (List.getElem?_eq_getElem hj) (Array.getElem?_eq_getElem (by rw [h2]; exact hj))
  | agg h1 ho h2 ih =>
    refine .agg fun v hv => ?_
    obtain ⟨j, hj, rfl⟩ := List.getElem_of_mem hv
    exact ih j _ _ (List.getElem?_eq_getElem hj) (Array.getElem?_eq_getElem (by rw [h1]; exact hj))
  | tuple h1 h2 ih =>
    refine .tuple fun v hv => ?_
    obtain ⟨j, hj, rfl⟩ := List.getElem_of_mem hv
    exact ih j _ _ (List.getElem?_eq_getElem hj) (Array.getElem?_eq_getElem (by rw [h1]; exact hj))
  | any u => exact .any
end
inductive Rn (n : Nat) (f : Nat → Nat → Option (Nat × Nat)) (s : Store) (D : Nat → Prop) : V → V → Prop where
  | keep {v} (h : Vlt n v) : Rn n f s D v v
  | row {id g i k id' g'} (h : f id g = some (id', g')) : Rn n f s D (.row id g i k) (.row id' g' i k)
  | ptr {id g i o id' g'} (h : f id g = some (id', g')) : Rn n f s D (.ptr id g i o) (.ptr id' g' i o)
  | map {id id'} (h : f id 0 = some (id', 0)) : Rn n f s D (.map id) (.map id')
  | agg {cs ds} (hl : cs.length = ds.length) (ho : ∀ v ∈ ds, v.one = true) (h : ∀ (i : Nat) (v u : V), cs[i]? = some v → ds[i]? = some u → Rn n f s D v u) : Rn n f s D (.agg cs) (.agg ds)
  | tuple {cs ds} (hl : cs.length = ds.length) (h : ∀ (i : Nat) (v u : V), cs[i]? = some v → ds[i]? = some u → Rn n f s D v u) : Rn n f s D (.tuple cs) (.tuple ds)
  | any {v} : Rn n f s D v .any
  | nil {m} : Rn n f s D .nil (.list m [])
  | pack {id g i k m G L : Nat} {e : TypeId} {xs ys : List (List V)} (hD : D id) (hs : s id = some (.cells e m G L xs)) (hg : L ≤ g ∧ g ≤ G) (hl : ys.length = k) (hm : ∀ ds ∈ ys, ds.length = m ∧ ∀ v ∈ ds, v.one = true)
      (h : ∀ (k j : Nat) (cs ds : List V) (v u : V), xs[i + k]? = some cs → ys[k]? = some ds → cs[j]? = some v → ds[j]? = some u → Rn n f s D v u) : Rn n f s D (.row id g i k) (.list m ys)
theorem row_list {w : World} {Sb Sb2 : Nat → Prop} {G G2 : Gh} {s : Store} (hs : WSim w Sb G s) {id g i n m G0 L : Nat} {e : TypeId} {xs ys : List (List V)} (hst : s id = some (.cells e m G0 L xs)) (hg : L ≤ g ∧ g ≤ G0) (hl : ys.length = n) (hm : ∀ ds ∈ ys, ds.length = m ∧ ∀ v ∈ ds, v.one = true) (hb : ∀ E, G id g = some E → Sb2 E.blk)
    (ih : ∀ (k j : Nat) (cs ds : List V) (v u : V), xs[i + k]? = some cs → ys[k]? = some ds → cs[j]? = some v → ds[j]? = some u → ∀ {x : Value}, Rv w Sb G v x → Rv w Sb2 G2 u x) {u : Value} (hv : Rv w Sb G (.row id g i n) u) : Rv w Sb2 G2 (.list m ys) u := by
  cases hv with
  | @row _ _ _ _ c E a hG hn hw hc hsome ha =>
    obtain ⟨hm0, hL, hcs, hT, hlen, _⟩ := hs.blk id _ hst
    obtain ⟨E', hE', hT⟩ := hT g hg.1 hg.2
    rw [hG] at hE'
    cases hE'
    have hTT := hT
    obtain ⟨cur, hwid, hheap, hsz, hlc, hcm, hlx, hcl⟩ := hT
    by_cases hn0 : n = 0
    · subst hn0
      have : ys = [] := List.eq_nil_of_length_eq_zero hl
      subst this
      exact .list0 (by omega)
    · rw [ha (.inr (by omega))]
      rw [← hl]
      have hget : ∀ k, k < ys.length → ∃ cs, xs[i + k]? = some cs ∧ cs.length = m := fun k hk => by
        have : i + k < xs.length := by omega
        exact ⟨_, List.getElem?_eq_getElem this, (hcs _ (List.getElem_mem this)).1⟩
      have hcell : ∀ (k : Nat) (ds : List V) (j : Nat) (v : V), ys[k]? = some ds → ds[j]? = some v → ∃ cs v0, xs[i + k]? = some cs ∧ cs[j]? = some v0 ∧ w.cell? ⟨E.blk, i * E.wid + k * m + j, none⟩ = some ((w.cell? ⟨E.blk, i * E.wid + k * m + j, none⟩).getD undef) ∧ Rv w Sb G v0 ((w.cell? ⟨E.blk, i * E.wid + k * m + j, none⟩).getD undef) := fun k ds j v h1 h2 => by
        have hk : k < ys.length := (List.getElem?_eq_some_iff.1 h1).1
        obtain ⟨cs, q1, q2⟩ := hget k hk
        have hj : j < cs.length := by
          have := (List.getElem?_eq_some_iff.1 h2).1
          rw [(hm ds (List.mem_of_getElem? h1)).1] at this
          omega
        obtain ⟨u, r1, r2⟩ := turn_cells hTT (show i + k < E.len by omega) q1 j _ (List.getElem?_eq_getElem hj)
        have hadd : (i + k) * E.wid + j = i * E.wid + k * m + j := by rw [hwid, Nat.add_mul]
        rw [hadd] at r1
        exact ⟨cs, _, q1, List.getElem?_eq_getElem hj, by rw [r1]; rfl, by rw [r1]; exact r2⟩
      refine .list (fun k j => (w.cell? ⟨E.blk, i * E.wid + k * m + j, none⟩).getD undef) (hb E hG) hm0 (by omega) (by omega) (fun k ds q => (hm ds (List.mem_of_getElem? q)).1) (fun k ds v q r => (hm ds (List.mem_of_getElem? q)).2 v r) (fun k ds j v q r => ?_) (fun k ds j v q r => ?_)
      · obtain ⟨_, _, _, _, t, _⟩ := hcell k ds j v q r
        exact t
      · obtain ⟨cs, v0, t1, t2, _, t3⟩ := hcell k ds j v q r
        exact ih k j cs ds v0 v t1 q t2 r t3
theorem Rn.rv {w : World} {Sb Sb2 : Nat → Prop} {G G2 : Gh} {n : Nat} {f : Nat → Nat → Option (Nat × Nat)} {s : Store} {D : Nat → Prop} (hsim : WSim w Sb G s) (hSb : ∀ b, Sb b → Sb2 b) (hD : ∀ id k E, D id → live s id k → G id k = some E → Sb2 E.blk) (h1 : ∀ id k E, id < n → G id k = some E → G2 id k = some E) (h2 : ∀ id g id' g' E, f id g = some (id', g') → G id g = some E → G2 id' g' = some E) {v v' : V} (hr : Rn n f s D v v') : ∀ {u : Value}, Rv w Sb G v u → Rv w Sb2 G2 v' u := by
  induction hr with
  | keep h => intro u hv; exact (h.rv hv h1).mono (fun _ _ => rfl) hSb (fun _ _ _ h => h)
  | row h =>
    intro u hv
    cases hv with
    | row g1 g2 g3 g4 g5 g6 => exact .row (h2 _ _ _ _ _ h g1) g2 g3 g4 g5 g6
  | ptr h =>
    intro u hv
    cases hv with
    | ptr g1 g2 g3 => exact .ptr (h2 _ _ _ _ _ h g1) g2 g3
  | map h =>
    intro u hv
    cases hv with
    | map g1 => exact .map (h2 _ _ _ _ _ h g1)
  | agg hl ho h ih =>
    intro u hv
    cases hv with
    | agg g1 g2 g3 =>
      refine .agg (g1.trans hl) ho fun i v u a b => ?_
      have hv0 := List.getElem?_eq_getElem (show i < _ by rw [hl]; exact (List.getElem?_eq_some_iff.1 a).1)
      exact ih i _ v hv0 a (g3 i _ u hv0 b)
  | tuple hl h ih =>
    intro u hv
    cases hv with
    | tuple g1 g3 =>
      refine .tuple (g1.trans hl) fun i v u a b => ?_
      have hv0 := List.getElem?_eq_getElem (show i < _ by rw [hl]; exact (List.getElem?_eq_some_iff.1 a).1)
      exact ih i _ v hv0 a (g3 i _ u hv0 b)
  | any => intro u _; exact .any u
  | nil => intro u hv; cases hv; exact .list0 (Nat.zero_le _)
  | pack hDi hs hg hl hm h ih =>
    intro u hv
    exact row_list hsim hs hg hl hm (fun E hE => hD _ _ E hDi ((live_cells hs).2 hg) hE) (fun k j cs ds v u q1 q2 q3 q4 => ih k j cs ds v u q1 q2 q3 q4) hv
def RnX (n : Nat) (f : Nat → Nat → Option (Nat × Nat)) (s : Store) (D : Nat → Prop) (xs ys : List (List V)) : Prop :=
  xs.length = ys.length ∧ ∀ (i : Nat) (cs ds : List V), xs[i]? = some cs → ys[i]? = some ds → cs.length = ds.length ∧ (∀ v ∈ ds, v.one = true) ∧ ∀ (j : Nat) (v u : V), cs[j]? = some v → ds[j]? = some u → Rn n f s D v u
theorem RnX.keep {n : Nat} {f : Nat → Nat → Option (Nat × Nat)} {s : Store} {D : Nat → Prop} {xs : List (List V)} (h : ∀ cs ∈ xs, ∀ v ∈ cs, Vlt n v ∧ v.one = true) : RnX n f s D xs xs :=
  ⟨rfl, fun i cs ds h1 h2 => by
    rw [h1] at h2
    cases h2
    have hm := List.mem_of_getElem? h1
    refine ⟨rfl, fun v hv => (h cs hm v hv).2, fun j v u a b => ?_⟩
    rw [a] at b
    cases b
    exact .keep (h cs hm v (List.mem_of_getElem? a)).1⟩
section
variable {w : World} {Sb Sb2 : Nat → Prop} {G G2 : Gh} {n : Nat} {f : Nat → Nat → Option (Nat × Nat)} {s : Store} {D : Nat → Prop}
theorem TurnOk.rn (hsim : WSim w Sb G s) (hSb : ∀ b, Sb b → Sb2 b) (hD : ∀ id k E, D id → live s id k → G id k = some E → Sb2 E.blk) (h1 : ∀ id k E, id < n → G id k = some E → G2 id k = some E) (h2 : ∀ id g id' g' E, f id g = some (id', g') → G id g = some E → G2 id' g' = some E) {e : TypeId} {m : Nat} {xs ys : List (List V)} {E : Ent} (h : TurnOk w Sb G e m xs E) (hx : RnX n f s D xs ys) : TurnOk w Sb2 G2 e m ys E := by
  obtain ⟨cur, q1, q2, q3, q4, q5, q6, q7⟩ := h
  refine ⟨cur, q1, q2, q3, q4, q5, by rw [← hx.1]; exact q6, fun i ds j u hi a b => ?_⟩
  have hil : i < xs.length := by omega
  have hcs := List.getElem?_eq_getElem hil
  obtain ⟨r1, r2, r3⟩ := hx.2 i _ ds hcs a
  have hjl : j < (xs[i]).length := by rw [r1]; exact (List.getElem?_eq_some_iff.1 b).1
  have hv := List.getElem?_eq_getElem hjl
  obtain ⟨x, s1, s2⟩ := q7 i _ j _ hi hcs hv
  exact ⟨x, s1, (r3 j _ u hv b).rv hsim hSb hD h1 h2 s2⟩
theorem BlkOk.rn (hsim : WSim w Sb G s) (hSb : ∀ b, Sb b → Sb2 b) (hD : ∀ id k E, D id → live s id k → G id k = some E → Sb2 E.blk) (h1 : ∀ id k E, id < n → G id k = some E → G2 id k = some E) (h2 : ∀ id g id' g' E, f id g = some (id', g') → G id g = some E → G2 id' g' = some E) {i i2 : Nat} {e : TypeId} {m g L g2 L2 : Nat} {xs ys : List (List V)} (h : BlkOk w Sb G i (.cells e m g L xs)) (hx : RnX n f s D xs ys) (hL : L2 ≤ g2)
    (hG : ∀ k, L2 ≤ k → k ≤ g2 → ∃ k0, L ≤ k0 ∧ k0 ≤ g ∧ G2 i2 k = G i k0 ∧ (k = g2 → k0 = g)) (hnone : ∀ k, g2 < k → G2 i2 k = none) : BlkOk w Sb2 G2 i2 (.cells e m g2 L2 ys) := by
  obtain ⟨q1, q2, q3, q4, q5, q6⟩ := h
  refine ⟨q1, hL, fun ds hds => ?_, fun k a b => ?_, fun E hE => ?_, hnone⟩
  · obtain ⟨k, hk, rfl⟩ := List.getElem_of_mem hds
    have hkx : k < xs.length := by rw [hx.1]; exact hk
    obtain ⟨r1, r2, _⟩ := hx.2 k _ _ (List.getElem?_eq_getElem hkx) (List.getElem?_eq_getElem hk)
    exact ⟨by rw [← r1]; exact (q3 _ (List.getElem_mem hkx)).1, r2⟩
  · obtain ⟨k0, r1, r2, r3, _⟩ := hG k a b
    obtain ⟨E, s1, s2⟩ := q4 k0 r1 r2
    exact ⟨E, r3.trans s1, s2.rn hsim hSb hD h1 h2 hx⟩
  · obtain ⟨k0, r1, r2, r3, r4⟩ := hG g2 hL (Nat.le_refl _)
    rw [r3, r4 rfl] at hE
    rw [← hx.1]
    exact q5 E hE
theorem BlkOk.lt (hG : ∀ id k, n ≤ id → G id k = none) {i : Nat} {b : Blk} (h : BlkOk w Sb G i b) : match b with
    | .cells _ _ _ _ xs => ∀ cs ∈ xs, ∀ v ∈ cs, Vlt n v ∧ v.one = true
    | .map _ es => ∀ p ∈ es, Vlt n p.1 ∧ Vlt n p.2
    | .void => True
    | .hole => True := by
  cases b with
  | cells e m g L xs =>
    obtain ⟨q1, q2, q3, q4, q5, q6⟩ := h
    intro cs hcs v hv
    obtain ⟨E, hE, cur, r1, r2, r3, r4, r5, r6, r7⟩ := q4 g q2 (Nat.le_refl _)
    obtain ⟨k, hk, rfl⟩ := List.getElem_of_mem hcs
    obtain ⟨j, hj, rfl⟩ := List.getElem_of_mem hv
    obtain ⟨u, s1, s2⟩ := r7 k _ j _ (by rw [q5 E hE]; exact hk) (List.getElem?_eq_getElem hk) (List.getElem?_eq_getElem hj)
    exact ⟨s2.lt hG, (q3 _ hcs).2 _ hv⟩
  | map kt es =>
    obtain ⟨E, ms, cl, q1, q2, q3, q4⟩ := h
    intro p hp
    obtain ⟨k, hk, rfl⟩ := List.getElem_of_mem hp
    have := q4 k _ _ (List.getElem?_eq_getElem hk) (Array.getElem?_eq_getElem (by rw [q3]; exact hk))
    exact ⟨this.1.lt hG, this.2.lt hG⟩
  | void => trivial
  | hole => trivial
end
end Go.Vm
namespace Go.Vm
open Go.RowKit
def nm (n : Nat) (s : Store) (ks : List Nat) (id g : Nat) : Option (Nat × Nat) :=
  match ks.idxOf? id, s id with
  | some j, some (.cells _ _ G _ _) => if g = G then some (n + j, 0) else none
  | some j, some (.map _ _) => if g = 0 then some (n + j, 0) else none
  | _, _ => none
inductive RnB (n : Nat) (f : Nat → Nat → Option (Nat × Nat)) (s : Store) (D : Nat → Prop) : Blk → Blk → Prop where
  | cells {e m g L g2 L2 xs ys} (hx : RnX n f s D xs ys) : RnB n f s D (.cells e m g L xs) (.cells e m g2 L2 ys)
  | map {kt es es'} (hl : es.length = es'.length) (h : ∀ (i : Nat) (p q : V × V), es[i]? = some p → es'[i]? = some q → Rn n f s D p.1 q.1 ∧ Rn n f s D p.2 q.2) : RnB n f s D (.map kt es) (.map kt es')
  | void : RnB n f s D .void .void
  | hole : RnB n f s D .hole .hole
def hdr : Blk → Option (Nat × Nat) | .cells _ _ g L _ => some (g, L) | .map _ _ => none | .void => none | .hole => none
def numbered : Nat → List Blk → List (Nat × Blk)
  | _, [] => []
  | n, b :: bs => (n, b) :: numbered (n + 1) bs
theorem numbered_keys : ∀ {bs : List Blk} {n : Nat}, ∀ p ∈ numbered n bs, n ≤ p.1 ∧ p.1 < n + bs.length
  | [], n, p, h => by simp [numbered] at h
  | b :: bs, n, p, h => by
    simp only [numbered, List.mem_cons] at h
    rcases h with rfl | h
    · simp
    · have := numbered_keys (bs := bs) (n := n + 1) p h
      simp
      omega
theorem upd_append : ∀ {us vs : List (Nat × Blk)} {s : Store}, upd s (us ++ vs) = upd (upd s us) vs
  | [], _, _ => rfl
  | p :: us, vs, s => by simp only [List.cons_append, upd]; exact upd_append
theorem upd_numbered : ∀ {bs : List Blk} {n j : Nat} {s : Store} {b : Blk}, bs[j]? = some b → upd s (numbered n bs) (n + j) = some b
  | [], n, j, s, b, h => by simp at h
  | c :: bs, n, j, s, b, h => by
    simp only [numbered, upd]
    cases j with
    | zero =>
      simp at h
      subst h
      rw [upd_ne]
      · simp
      · intro p hp
        have := numbered_keys p hp
        omega
    | succ j =>
      rw [show n + (j + 1) = (n + 1) + j by omega]
      exact upd_numbered (by simpa using h)
def Closes (st : Store) (n N : Nat) (s' : Store) (v : V) (out : Out) : Prop :=
  ∃ (ks : List Nat) (us : List (Nat × Blk)) (bs : List Blk), out.2.1 = us ++ numbered n bs ∧ out.2.2 = n + bs.length ∧ (∀ p ∈ us, p.1 < N ∧ (p.1 < n ∨ n + bs.length ≤ p.1)) ∧ ks.Nodup ∧ (∀ k ∈ ks, N ≤ k) ∧ bs.length = ks.length ∧ Rn N (nm n s' ks) s' (fun id => N ≤ id ∧ id ∉ ks) v out.1 ∧
    (∀ id, id < N → (id < n ∨ n + bs.length ≤ id) → (s' id = st id ∧ upd st us id = st id) ∨ ∃ b0 b, s' id = some b0 ∧ upd st us id = some b ∧ RnB N (nm n s' ks) s' (fun id => N ≤ id ∧ id ∉ ks) b0 b ∧ hdr b = hdr b0) ∧
    (∀ (j k : Nat) (b : Blk), ks[j]? = some k → bs[j]? = some b → ∃ b0, s' k = some b0 ∧ RnB N (nm n s' ks) s' (fun id => N ≤ id ∧ id ∉ ks) b0 b ∧ (hdr b = none ∨ hdr b = some (0, 0)))
section
variable {w w' : World} {Sb Sb' : Nat → Prop} {G G' : Gh} {st s' : Store} {n N n' : Nat}
theorem close (hs : WSim w Sb G st) (hf : Free st G N) {out : Out} (hr : ∀ id, n ≤ id → id < out.2.2 → (st id = none ∧ ∀ k, G id k = none) ∨ st id = some .hole ∧ s' id = some .hole) (hnN : out.2.2 ≤ N) (ho : On w Sb G st N w' Sb' G' s' n') {v : V} {u : Value} (hv : Rv w' Sb' G' v u) (hc : Closes st n N s' v out) :
    ∃ G2 Sb2, Nxt w Sb G st w' Sb2 G2 (upd st out.2.1) ∧ Rv w' Sb2 G2 out.1 u ∧ (∀ id k, (id < n ∨ out.2.2 ≤ id) → st id = none → G2 id k = G id k) ∧ ∀ b, Sb2 b ∨ Own (upd st out.2.1) G2 b → Sb' b ∨ Own s' G' b := by
  obtain ⟨ks, us, bs, h1, h2, h3, h4, h5, h6, h7, h8, h9⟩ := hc
  rw [h2] at hr hnN
  have hsim := ho.nxt.sim
  let D : Nat → Prop := fun id => N ≤ id ∧ id ∉ ks
  let Sb2 : Nat → Prop := fun b => Sb' b ∨ ∃ id k E, D id ∧ live s' id k ∧ G' id k = some E ∧ E.blk = b
  have hSb : ∀ b, Sb' b → Sb2 b := fun b h => .inl h
  have hD : ∀ id k E, D id → live s' id k → G' id k = some E → Sb2 E.blk := fun id k E h1 h2 h3 => .inr ⟨id, k, E, h1, h2, h3, rfl⟩
  let cg : Nat → Nat := fun i => match s' i with | some (.cells _ _ g _ _) => g | _ => 0
  let G2 : Gh := fun id k => if n ≤ id ∧ id < n + bs.length then (match ks[id - n]? with | some i => if k = 0 then G' i (cg i) else none | none => none) else if id < N then G' id k else none
  have g2lt : ∀ id k, id < N → (id < n ∨ n + bs.length ≤ id) → G2 id k = G' id k := fun id k h q => by simp only [G2]; rw [if_neg (by omega), if_pos h]
  have g2new : ∀ j i, ks[j]? = some i → G2 (n + j) 0 = G' i (cg i) := fun j i h => by
    have hj := (List.getElem?_eq_some_iff.1 h).1
    simp only [G2]
    rw [if_pos (by omega), show n + j - n = j by omega, h]
    simp
  have g2none : ∀ id k, n ≤ id → id < n + bs.length → 0 < k → G2 id k = none := fun id k h h' hk => by
    simp only [G2]
    rw [if_pos (by omega)]
    split
    · rw [if_neg (by omega)]
    · rfl
  have g2end : ∀ id k, N ≤ id → G2 id k = none := fun id k h => by
    simp only [G2]
    rw [if_neg (by omega), if_neg (by omega)]
  have hdeadT : ∀ id k, n ≤ id → id < n + bs.length → G' id k = none := fun id k h h' => by
    rcases hr id h h' with ⟨q1, q2⟩ | ⟨_, q2⟩
    · rw [(ho.dead id (by omega) q1).2 k]
      exact q2 k
    · exact hsim.blk id _ q2 k
  have hA : ∀ id k E, id < N → G' id k = some E → G2 id k = some E := fun id k E h hE => by
    by_cases ht : n ≤ id ∧ id < n + bs.length
    · rw [hdeadT id k ht.1 ht.2] at hE; cases hE
    · rw [g2lt id k h (by omega)]; exact hE
  have hidx : ∀ {id j : Nat}, ks.idxOf? id = some j → ks[j]? = some id := fun {id j} hj => by
    obtain ⟨q1, q2, _⟩ := List.findIdx?_eq_some_iff_getElem.1 hj
    rw [List.getElem?_eq_getElem q1]
    simpa using q2
  have hB : ∀ id g id' g' E, nm n s' ks id g = some (id', g') → G' id g = some E → G2 id' g' = some E := fun id g id' g' E h hE => by
    unfold nm at h
    split at h
    · rename_i j e m gg L xs hj hs'
      split at h
      · rename_i hg
        cases h
        rw [g2new j id (hidx hj)]
        have : cg id = gg := by simp only [cg, hs']
        rw [this, ← hg]
        exact hE
      · cases h
    · rename_i j kt es hj hs'
      split at h
      · rename_i hg
        cases h
        rw [g2new j id (hidx hj)]
        have : cg id = 0 := by simp only [cg, hs']
        rw [this, ← hg]
        exact hE
      · cases h
    · cases h
  have hbound : ∀ id k, N ≤ id → G id k = none := fun id k h => (hf id h).2 k
  have hst2 : ∀ id, (id < n ∨ n + bs.length ≤ id) → upd st out.2.1 id = upd st us id := fun id h => by
    rw [h1, upd_append, upd_ne]
    intro p hp
    have := numbered_keys p hp
    omega
  have hst3 : ∀ j b, bs[j]? = some b → upd st out.2.1 (n + j) = some b := fun j b h => by
    rw [h1, upd_append]
    exact upd_numbered h
  have hst4 : ∀ id, N ≤ id → upd st out.2.1 id = none := fun id h => by
    rw [hst2 id (by omega), upd_ne]
    · exact (hf id (by omega)).1
    · intro p hp
      have := h3 p hp
      omega
  let src : Nat → Nat := fun id => if n ≤ id ∧ id < n + bs.length then ks.getD (id - n) 0 else id
  have hkeep : ∀ id b, upd st out.2.1 id = some b → BlkOk w' Sb2 G2 id b ∧ ∀ k E, live (fun _ => some b) id k → G2 id k = some E → ∃ k0, live s' (src id) k0 ∧ G' (src id) k0 = some E := by
    intro id b hb
    by_cases ht : n ≤ id ∧ id < n + bs.length
    · obtain ⟨j, rfl⟩ : ∃ j, id = n + j := ⟨id - n, by omega⟩
      have hj : j < bs.length := by omega
      have hbj := List.getElem?_eq_getElem hj
      have hkj := List.getElem?_eq_getElem (show j < ks.length by omega)
      rw [hst3 j _ hbj] at hb
      obtain ⟨b0, q1, q2, q3⟩ := h9 j _ _ hkj hbj
      have hb' : bs[j] = b := Option.some.inj hb
      rw [hb'] at q2 q3
      have hsrc : src (n + j) = ks[j] := by
        simp only [src]
        rw [if_pos ht, show n + j - n = j by omega, List.getD_eq_getElem?_getD, hkj]
        rfl
      rw [hsrc]
      have hok := hsim.blk _ b0 q1
      have hn := g2new j _ hkj
      cases q2 with
      | @cells e m g L g2 L2 xs ys hx =>
        simp only [hdr, reduceCtorEq, Option.some.injEq, Prod.mk.injEq, false_or] at q3
        obtain ⟨rfl, rfl⟩ := q3
        have hcg : cg ks[j] = g := by simp only [cg, q1]
        rw [hcg] at hn
        refine ⟨hok.rn hsim hSb hD hA hB hx (Nat.le_refl _) (fun k a b => ⟨g, hok.2.1, Nat.le_refl _, by rw [show k = 0 by omega]; exact hn, fun _ => rfl⟩) (fun k hk => g2none _ k (by omega) ht.2 hk), fun k E hl hE => ?_⟩
        simp only [live] at hl
        have : k = 0 := by omega
        subst this
        rw [hn] at hE
        exact ⟨g, (live_cells q1).2 ⟨hok.2.1, Nat.le_refl _⟩, hE⟩
      | @map kt es es' hl hr =>
        have hcg : cg ks[j] = 0 := by simp only [cg, q1]
        rw [hcg] at hn
        refine ⟨?_, fun k E hlk hE => ?_⟩
        · obtain ⟨E, ms, cl, r1, r2, r3, r4⟩ := hok
          refine ⟨E, ms, cl, hn.trans r1, r2, r3.trans hl, fun i x y a b => ?_⟩
          have ha := List.getElem?_eq_getElem (show i < es.length by rw [hl]; exact (List.getElem?_eq_some_iff.1 a).1)
          obtain ⟨t1, t2⟩ := hr i _ x ha a
          exact ⟨t1.rv hsim hSb hD hA hB (r4 i _ y ha b).1, t2.rv hsim hSb hD hA hB (r4 i _ y ha b).2⟩
        · simp only [live] at hlk
          subst hlk
          rw [hn] at hE
          exact ⟨0, (live_map q1).2 rfl, hE⟩
      | void => exact ⟨trivial, fun k E hl _ => False.elim hl⟩
      | hole =>
        refine ⟨fun k => ?_, fun k E hl _ => False.elim hl⟩
        rcases Nat.eq_zero_or_pos k with rfl | hk
        · rw [hn]; exact hok _
        · exact g2none _ k (by omega) (by omega) hk
    · have hsrc : src id = id := by simp only [src, if_neg ht]
      have hto : id < n ∨ n + bs.length ≤ id := by omega
      have hid : id < N := by
        rcases Nat.lt_or_ge id N with q | q
        · exact q
        · rw [hst4 id q] at hb; cases hb
      rw [hsrc]
      rw [hst2 id hto] at hb
      have hgid : ∀ k, G2 id k = G' id k := fun k => g2lt id k hid hto
      rcases h8 id hid hto with ⟨q1, q2⟩ | ⟨b0, b', q1, q2, q3, q4⟩
      · rw [q2] at hb
        have hb' : s' id = some b := q1.trans hb
        have hok := hsim.blk id b hb'
        have hlt := (hs.blk id b hb).lt hbound
        refine ⟨?_, fun k E hl hE => ⟨k, by unfold live at hl ⊢; rw [hb']; exact hl, by rw [← hgid k]; exact hE⟩⟩
        cases b with
        | cells e m g L xs => exact hok.rn hsim hSb hD hA hB (RnX.keep hlt) hok.2.1 (fun k a b => ⟨k, a, b, hgid k, fun h => h⟩) (fun k hk => (hgid k).trans (hok.2.2.2.2.2 k hk))
        | map kt es =>
          obtain ⟨E, ms, cl, r1, r2, r3, r4⟩ := hok
          refine ⟨E, ms, cl, (hgid 0).trans r1, r2, r3, fun i x y a b => ?_⟩
          have hm := hlt x (List.mem_of_getElem? a)
          exact ⟨(hm.1.rv (r4 i x y a b).1 hA).mono (fun _ _ => rfl) hSb (fun _ _ _ h => h), (hm.2.rv (r4 i x y a b).2 hA).mono (fun _ _ => rfl) hSb (fun _ _ _ h => h)⟩
        | void => trivial
        | hole => exact fun k => (hgid k).trans (hok k)
      · rw [q2] at hb
        cases hb
        have hok := hsim.blk id b0 q1
        cases q3 with
        | @cells e m g L g2 L2 xs ys hx =>
          simp only [hdr, Option.some.injEq, Prod.mk.injEq] at q4
          obtain ⟨rfl, rfl⟩ := q4
          exact ⟨hok.rn hsim hSb hD hA hB hx hok.2.1 (fun k a b => ⟨k, a, b, hgid k, fun h => h⟩) (fun k hk => (hgid k).trans (hok.2.2.2.2.2 k hk)), fun k E hl hE => ⟨k, by unfold live at hl ⊢; rw [q1]; exact hl, by rw [← hgid k]; exact hE⟩⟩
        | @map kt es es' hl hr =>
          refine ⟨?_, fun k E hlk hE => ⟨k, by unfold live at hlk ⊢; rw [q1]; exact hlk, by rw [← hgid k]; exact hE⟩⟩
          obtain ⟨E, ms, cl, r1, r2, r3, r4⟩ := hok
          refine ⟨E, ms, cl, (hgid 0).trans r1, r2, r3.trans hl, fun i x y a b => ?_⟩
          have ha := List.getElem?_eq_getElem (show i < es.length by rw [hl]; exact (List.getElem?_eq_some_iff.1 a).1)
          obtain ⟨t1, t2⟩ := hr i _ x ha a
          exact ⟨t1.rv hsim hSb hD hA hB (r4 i _ y ha b).1, t2.rv hsim hSb hD hA hB (r4 i _ y ha b).2⟩
        | void => exact ⟨trivial, fun k E hl _ => False.elim hl⟩
        | hole => exact ⟨fun k => (hgid k).trans (hok k), fun k E hl _ => False.elim hl⟩
  have hlive : ∀ id k E, live (upd st out.2.1) id k → G2 id k = some E → ∃ k0, live s' (src id) k0 ∧ G' (src id) k0 = some E := fun id k E hl hE => by
    obtain ⟨b, hb⟩ := live_some hl
    refine (hkeep id b hb).2 k E ?_ hE
    unfold live at hl ⊢
    rw [hb] at hl
    exact hl
  have hdom : ∀ id k, live (upd st out.2.1) id k → id < N := fun id k hl => by
    obtain ⟨b, hb⟩ := live_some hl
    rcases Nat.lt_or_ge id N with q | q
    · exact q
    · rw [hst4 id q] at hb; cases hb
  have hsrcinj : ∀ a b, a < N → b < N → src a = src b → a = b := fun a b ha hb hab => by
    simp only [src] at hab
    have hk : ∀ c, n ≤ c ∧ c < n + bs.length → ∃ x, ks[c - n]? = some x ∧ ks.getD (c - n) 0 = x ∧ N ≤ x := fun c h => by
      have := List.getElem?_eq_getElem (show c - n < ks.length by omega)
      exact ⟨_, this, by rw [List.getD_eq_getElem?_getD, this]; rfl, h5 _ (List.getElem_mem _)⟩
    by_cases h1 : n ≤ a ∧ a < n + bs.length
    · obtain ⟨x, q1, q2, q3⟩ := hk a h1
      by_cases h2 : n ≤ b ∧ b < n + bs.length
      · rw [if_pos h1, if_pos h2] at hab
        obtain ⟨y, r1, r2, r3⟩ := hk b h2
        rw [q2, r2] at hab
        subst hab
        have := (List.getElem?_inj (show a - n < ks.length by omega) h4).1 (q1.trans r1.symm)
        omega
      · rw [if_pos h1, if_neg h2] at hab
        omega
    · by_cases h2 : n ≤ b ∧ b < n + bs.length
      · rw [if_neg h1, if_pos h2] at hab
        obtain ⟨x, _, q2, q3⟩ := hk b h2
        omega
      · rw [if_neg h1, if_neg h2] at hab; exact hab
  refine ⟨G2, Sb2, ⟨⟨fun b hb => hb.elim (hsim.sub b) (fun ⟨id, k, E, q1, q2, q3, q4⟩ => by
    obtain ⟨E', r1, r2⟩ := hsim.ent q2
    rw [q3] at r1; cases r1; rw [← q4]; exact r2), fun id b hb => (hkeep id b hb).1, fun id k E hl hE => ?_, fun id k E id' k' E' hl hl' hE hE' hbb => ?_⟩, ho.nxt.os, ho.nxt.tape, ho.nxt.output, ho.nxt.size, ho.nxt.keep, fun b hb => ?_, fun b hb => .inl (ho.nxt.sb b hb), fun id k E hE => ?_, fun b hb => hb.elim (ho.nxt.sbn b) (fun ⟨id, k, E, q1, q2, q3, q4⟩ => .inr (ho.nxt.own b ⟨id, k, E, q2, q3, q4⟩))⟩, h7.rv hsim hSb hD hA hB hv, fun id k hid hst => ?_, fun b hb => hb.elim (fun q => q.elim .inl fun ⟨id, k, E, q1, q2, q3, q4⟩ => .inr ⟨id, k, E, q2, q3, q4⟩) fun ⟨id, k, E, q1, q2, q3⟩ => (hlive id k E q1 q2).elim fun k0 r => .inr ⟨_, _, E, r.1, r.2, q3⟩⟩
  · obtain ⟨k0, r1, r2⟩ := hlive id k E hl hE
    rintro (q | ⟨id1, k1, E1, q1, q2, q3, q4⟩)
    · exact hsim.off _ _ _ r1 r2 q
    · have hs1 := hsim.dis _ _ _ _ _ _ q2 r1 q3 r2 q4
      have hlt := hdom id k hl
      rw [hs1] at q1
      simp only [src] at q1
      split at q1
      · rename_i hh
        have hx := List.getElem?_eq_getElem (show id - n < ks.length by omega)
        have : ks.getD (id - n) 0 ∈ ks := by rw [List.getD_eq_getElem?_getD, hx]; exact List.getElem_mem _
        exact q1.2 this
      · have := q1.1; omega
  · obtain ⟨k0, r1, r2⟩ := hlive id k E hl hE
    obtain ⟨k1, r3, r4⟩ := hlive id' k' E' hl' hE'
    exact hsrcinj id id' (hdom id k hl) (hdom id' k' hl') (hsim.dis _ _ _ _ _ _ r1 r3 r2 r4 hbb)
  · obtain ⟨id, k, E, q1, q2, q3⟩ := hb
    obtain ⟨k0, r1, r2⟩ := hlive id k E q1 q2
    exact ho.nxt.own b ⟨_, _, E, r1, r2, q3⟩
  · have hid : id < N := by
      rcases Nat.lt_or_ge id N with q | q
      · exact q
      · rw [hbound id k q] at hE; cases hE
    exact hA id k E hid (ho.nxt.gh id k E hE)
  · rcases Nat.lt_or_ge id N with q | q
    · rw [g2lt id k q (by omega)]
      exact (ho.dead id q hst).2 k
    · rw [g2end id k q]
      exact (hbound id k q).symm
end
end Go.Vm
namespace Go.Vm
open Go.RowKit
def vresult (P : Program) (s : Store) (e : List V) : ResultVar → Option V
  | .tmp t => some (e.getD t (.tuple []))
  | .cell a t => match tinfo P t with | some i => vload s i.agg i.size (e.getD a (.tuple [])) | none => none
def vresults (P : Program) (s : Store) (e : List V) : List ResultVar → Option (List V)
  | [] => some []
  | r :: rs => match vresult P s e r, vresults P s e rs with | some v, some vs => some (v :: vs) | _, _ => none
def vjoin : List V → V
  | [v] => v
  | vs => .tuple vs
section
variable {P : Program} {w : World} {Sb : Nat → Prop} {G : Gh} {s : Store}
theorem results_run (hs : WSim w Sb G s) {e : List V} {tmps : Array Value} (he : Rvs w Sb G e tmps.toList) : ∀ {rs : List ResultVar} {vs : List V}, vresults P s e rs = some vs →
    ∃ us, (rs.mapM (fun r => match r with | .tmp t => pure (tmps.getD t undef) | .cell a t => do loadVar t (← asAddr (tmps.getD a undef))) : Sem (List Value)).run P w = .ok us w ∧ Rvs w Sb G vs us
  | [], vs, h => by
    simp only [vresults] at h
    cases h
    exact ⟨[], by simp, .nil⟩
  | r :: rs, vs, h => by
    simp only [vresults] at h
    split at h
    · rename_i v vs' h1 h2
      cases h
      obtain ⟨us, q1, q2⟩ := results_run hs he h2
      have hslot : ∀ t, Rv w Sb G (e.getD t (.tuple [])) (tmps.getD t undef) := fun t => eval_rv (a := ⟨tmps, []⟩) he (.tmp t)
      cases r with
      | tmp t =>
        simp only [vresult] at h1
        cases h1
        exact ⟨tmps.getD t undef :: us, by simp only [List.mapM_cons, Sem.run_bind, Sem.run_pure, Result.andThen_ok, q1], .cons (hslot t) q2⟩
      | cell a t =>
        simp only [vresult] at h1
        split at h1
        · rename_i i hi
          obtain ⟨u, r1, r2⟩ := vload_rv (P := P) hs hi (hslot a) h1
          refine ⟨u :: us, ?_, .cons r2 q2⟩
          have hp : ∃ ad, tmps.getD a undef = .pointer (some ad) := by
            have hr := hslot a
            generalize e.getD a (.tuple []) = x at *
            generalize tmps.getD a undef = y at *
            unfold vload at h1
            split at h1
            · cases hr; exact ⟨_, rfl⟩
            · cases hr; exact ⟨_, rfl⟩
            · cases h1
          obtain ⟨ad, hp⟩ := hp
          rw [hp] at r1
          simp only [Instr.loadAt, Instr.sureAddr, Sem.run_bind, Sem.run_pure, Result.andThen_ok] at r1
          have has : (asAddr (tmps.getD a undef)).run P w = .ok ad w := by rw [hp]; rfl
          simp only [List.mapM_cons, Sem.run_bind, has, Sem.run_pure, Result.andThen_ok, r1, q1]
        · cases h1
    · cases h
theorem results_rv (hs : WSim w Sb G s) {e : List V} {a : Act} (he : Rvs w Sb G e a.tmps.toList) {fn : Func} {vs : List V} (h : vresults P s e fn.results.toList = some vs) : ∃ u, (results fn a.tmps).run P w = .ok u w ∧ Rv w Sb G (vjoin vs) u := by
  obtain ⟨us, q1, q2⟩ := results_run hs he h
  have hrun : (fn.results.mapM (fun r => match r with | .tmp t => pure (a.tmps.getD t undef) | .cell x t => do loadVar t (← asAddr (a.tmps.getD x undef))) : Sem (Array Value)).run P w = .ok us.toArray w := by
    rw [Array.mapM_eq_mapM_toList, map_eq_pure_bind, Sem.run_bind, q1]
    rfl
  unfold results
  rw [Sem.run_bind]
  refine ⟨if h : us.toArray.size = 1 then us.toArray[0] else .tuple us.toArray, ?_, ?_⟩
  · exact (congrArg (fun r => Result.andThen r _) (show _ = _ from hrun)).trans rfl
  · unfold vjoin
    split
    · rename_i v
      obtain ⟨u, us', rfl, h1, h2⟩ := q2.head
      have := h2.none
      subst this
      exact h1
    · rename_i vs' hne
      rw [dif_neg]
      · exact .tuple q2.1 fun i v u a b => q2.2 i v u a (by simpa using b)
      · intro h1
        have hl : vs.length = 1 := by rw [← q2.1]; simpa using h1
        match vs, hl with
        | [v], _ => exact hne v rfl
end
theorem On.turn {w w' : World} {Sb Sb' : Nat → Prop} {G G' : Gh} {s s' : Store} {n n' D : Nat} (h : On w Sb G s n w' Sb' G' s' n') (hD : w.heap.size ≤ D) (hS : ¬ Sb' D) (hO : ¬ Own s' G' D) (o : Obj) :
    On w Sb G s n (w'.putObj D o) Sb' G' s' n' ∧ ∀ b, Sb' b → (w'.putObj D o).heap[b]? = w'.heap[b]? := by
  have hb : ∀ b, Sb' b → (w'.putObj D o).heap[b]? = w'.heap[b]? := fun b q => World.putObj_heap_other fun e => hS (e ▸ q)
  have hl : ∀ id k E, live s' id k → G' id k = some E → (w'.putObj D o).heap[E.blk]? = w'.heap[E.blk]? := fun id k E q1 q2 => World.putObj_heap_other fun e => hO ⟨id, k, E, q1, q2, e⟩
  have hsim : WSim (w'.putObj D o) Sb' G' s' := by
    refine ⟨fun b q => by rw [World.putObj_size]; exact h.nxt.sim.sub b q, fun id b q => (h.nxt.sim.blk id b q).mono (fun k E q1 q2 => hl id k E (by unfold live at q2 ⊢; rw [q]; exact q2) q1) hb (fun _ h => h) (fun _ _ _ h => h) (fun _ => rfl), h.nxt.sim.off, h.nxt.sim.dis⟩
  refine ⟨⟨⟨hsim, h.nxt.os, h.nxt.tape, h.nxt.output, by rw [World.putObj_size]; exact h.nxt.size, fun b q1 q2 => ?_, h.nxt.own, h.nxt.sb, h.nxt.gh, h.nxt.sbn⟩, h.free, h.le, h.dead⟩, hb⟩
  rw [World.putObj_heap_other (by omega)]
  exact h.nxt.keep b q1 q2
theorem leaves_marks {P : Program} {fn : Func} {tmps : Array Value} {R : Ending → World → Prop} {m : Nat} {w : World} {Sb Sb' : Nat → Prop} {G G' : Gh} {s s' : Store} {n n' : Nat} {e : List V} : ∀ (ds : List Deferred) (w' : World), Marks w.heap.size w' Sb' G' s' ds → On w Sb G s n w' Sb' G' s' n' → Rvs w' Sb' G' e tmps.toList →
    (∀ w'', Rvs w'' Sb' G' e tmps.toList → On w Sb G s n w'' Sb' G' s' n' → ∃ v, (results fn tmps).run P w'' = .ok v w'' ∧ R (.returned v) w'') → LeavesInM Fence.wide m P fn tmps R ds .returning w'
  | [], w', _, ho, he, h => by
    simp only [LeavesInM, LeavesIn]
    exact h w' he ho
  | d :: ds, w', hm, ho, he, h => by
    obtain ⟨D, rfl, q2, q3, q4, q5, q6⟩ := hm.mark d (by simp)
    obtain ⟨t1, t2⟩ := ho.turn q2 q4 q5 (.deferred none)
    have hnd := List.nodup_cons.1 hm.nodup
    refine ⟨by simp, .inl ⟨D, _, rfl, run_takeDeferred q6, leaves_marks ds _ ⟨by rw [World.putObj_size]; exact hm.base, hnd.2, fun d hd => ?_⟩ t1 (he.mono t2 (fun _ h => h) (fun _ _ _ h => h)) h⟩⟩
    obtain ⟨D2, rfl, r2, r3, r4, r5, r6⟩ := hm.mark d (by simp [hd])
    refine ⟨D2, rfl, r2, by rw [World.putObj_size]; exact r3, r4, r5, ?_⟩
    rw [World.putObj_heap_other (show D2 ≠ D from fun e => hnd.1 (by subst e; exact hd))]
    exact r6
theorem calls_vwp {P : Program} {f : FuncId} {fn : Func} {c : Code} {args : Array Value} {w : World} {R : Ending → World → Prop} {Q : VPost} {Sb : Nat → Prop} {G : Gh} {e : List V} {s : Store} {n : Nat} (hf : P.funcs[f]? = some fn) (hb : fn.body = some c)
    (h : vwp P c Q e s n) (he : Rvs w Sb G e (args.toList ++ List.replicate (fn.ntmps - args.size) undef)) (hs : WSim w Sb G s) (hfr : Free s G n)
    (hQ : ∀ x e' s' n' Sb' G' w' tmps, Q x e' s' n' → Rvs w' Sb' G' e' tmps.toList → On w Sb G s n w' Sb' G' s' n' → (x = .normal ∨ x = .ret) ∧ ∃ v, (results fn tmps).run P w' = .ok v w' ∧ R (.returned v) w') : Calls P f args w R := by
  refine callsIn_wide.1 (callsIn_of_wp_marks (n := 1) hf hb trivial (wpIn_mono (h none 1 w.heap.size { tmps := args ++ Array.replicate (fn.ntmps - args.size) undef, defers := [] } w Sb G (.inl rfl) (by simpa using he) hs hfr ⟨Nat.le_refl _, List.nodup_nil, fun d hd => by cases hd⟩) ?_))
  rintro x ⟨tmps, ds⟩ w' ⟨t0, e', s', n', Sb', G', q, r1, r2, r3⟩
  have hl : (x = .normal ∨ x = .ret) → LeavesInM Fence.wide 1 P fn tmps R ds .returning w' := fun _ => leaves_marks ds w' r3 r2 r1 fun w'' k1 k2 => (hQ x e' s' n' Sb' G' w'' tmps q k1 k2).2
  have hx := (hQ x e' s' n' Sb' G' w' tmps q r1 r2).1
  rcases hx with rfl | rfl
  · exact hl (.inl rfl)
  · exact hl (.inr rfl)
end Go.Vm
