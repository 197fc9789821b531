/-
  A round's end, told on states that are lists of pairs; loops. No program is named here. Loops and functions, walked on states that are lists of pairs. No program is named here. The walk's steps. No program is named here. Rows that are nil while they are empty. No program is named here.
-/
import Derived.Test.YtofcjmjokokajaaGreatQj
namespace Go.Vm
open Go.RowKit
abbrev dropped (N : Nat) (ks : List Nat) : Nat → Prop := fun id => N ≤ id ∧ id ∉ ks
section
variable {N : Nat} {f : Nat → Nat → Option (Nat × Nat)} {s : Store} {D : Nat → Prop}
theorem rn_int {k : IntKind} {a b : Int} (h : a = b) : Rn N f s D (.int k a) (.int k b) := h ▸ .keep (.int _ _)
theorem rn_bool {a b : Bool} (h : a = b) : Rn N f s D (.bool a) (.bool b) := h ▸ .keep (.bool _)
theorem rn_list {α : Type} {r : Rp α} {m : Nat} {xs ys : List α} (h : xs = ys) : Rn N f s D (.list m (xs.map r.cells)) (.list m (ys.map r.cells)) := h ▸ .keep (r.lt N xs m)
theorem rn_row {id g i k g' i' k' : Nat} (hid : Nat.blt id N = true) (h : g = g' ∧ i = i' ∧ k = k') : Rn N f s D (.row id g i k) (.row id g' i' k') := by
  obtain ⟨rfl, rfl, rfl⟩ := h
  exact .keep (.row (by simpa [Nat.blt_eq] using hid))
theorem rn_ptr {id g i k : Nat} (hid : Nat.blt id N = true) : Rn N f s D (.ptr id g i k) (.ptr id g i k) := .keep (.ptr (by simpa [Nat.blt_eq] using hid))
theorem rn_map {id : Nat} (hid : Nat.blt id N = true) : Rn N f s D (.map id) (.map id) := .keep (.map (by simpa [Nat.blt_eq] using hid))
theorem rn_agg {α : Type} {r : Rp α} {x y : α} (h : x = y) : Rn N f s D (.agg (r.cells x)) (.agg (r.cells y)) := h ▸ .keep (r.agg N x)
def RnC (N : Nat) (f : Nat → Nat → Option (Nat × Nat)) (s : Store) (D : Nat → Prop) (cs ds : List V) : Prop := cs.length = ds.length ∧ (∀ v ∈ ds, v.one = true) ∧ ∀ (j : Nat) (v u : V), cs[j]? = some v → ds[j]? = some u → Rn N f s D v u
theorem RnC.nil : RnC N f s D [] [] := ⟨rfl, by simp, fun j v u h => by simp at h⟩
theorem RnC.cons {v u : V} {cs ds : List V} (h : Rn N f s D v u) (hu : u.one = true) (hr : RnC N f s D cs ds) : RnC N f s D (v :: cs) (u :: ds) := ⟨by simp [hr.1], fun x hx => by
  rcases List.mem_cons.1 hx with rfl | hx
  · exact hu
  · exact hr.2.1 x hx, fun j a b h1 h2 => by
  cases j with
  | zero => cases h1; cases h2; exact h
  | succ j => exact hr.2.2 j a b (by simpa using h1) (by simpa using h2)⟩
theorem RnX.cons {cs ds : List V} {xs ys : List (List V)} (h : RnC N f s D cs ds) (hr : RnX N f s D xs ys) : RnX N f s D (cs :: xs) (ds :: ys) := ⟨by simp [hr.1], fun i a b h1 h2 => by
  cases i with
  | zero => cases h1; cases h2; exact h
  | succ i => exact hr.2 i a b (by simpa using h1) (by simpa using h2)⟩
theorem RnX.nil : RnX N f s D [] [] := ⟨rfl, fun i a b h => by simp at h⟩
theorem RnX.append {xs ys xs' ys' : List (List V)} (h : RnX N f s D xs ys) (h' : RnX N f s D xs' ys') : RnX N f s D (xs ++ xs') (ys ++ ys') := ⟨by simp [h.1, h'.1], fun i a b h1 h2 => by
  rcases Nat.lt_or_ge i xs.length with hi | hi
  · rw [List.getElem?_append_left hi] at h1
    rw [List.getElem?_append_left (by rw [← h.1]; exact hi)] at h2
    exact h.2 i a b h1 h2
  · rw [List.getElem?_append_right hi] at h1
    rw [List.getElem?_append_right (by rw [← h.1]; exact hi), ← h.1] at h2
    exact h'.2 _ a b h1 h2⟩
theorem RnX.of_eq {α : Type} {r : Rp α} {xs : List (List V)} {ys : List α} (h : xs = ys.map r.cells) : RnX N f s D xs (ys.map r.cells) := by
  subst h
  exact RnX.keep (r.cl N ys)
end
def RnBk (N t : Nat) (S' : ASt) (ks : List Nat) (b0 b : Blk) : Prop := RnB N (nm t (slk S') ks) (slk S') (dropped N ks) b0 b
def RnV (N t : Nat) (S' : ASt) (ks : List Nat) (v u : V) : Prop := Rn N (nm t (slk S') ks) (slk S') (dropped N ks) v u
def AllR (N t : Nat) (S' : ASt) (ks : List Nat) (E' : AEnv) : AEnv → Prop
  | [] => True
  | p :: r => RnV N t S' ks (lk E' p.1) p.2 ∧ AllR N t S' ks E' r
def OldB (N t : Nat) (S' : ASt) (ks : List Nat) (Sx : ASt) (id : Nat) : Option Blk → Prop
  | none => slk S' id = none ∧ slk Sx id = none
  | some b => id < N ∧ ∃ b0, slk S' id = some b0 ∧ RnBk N t S' ks b0 b ∧ hdr b = hdr b0
def AllB (N t : Nat) (S' : ASt) (ks : List Nat) (Sx : ASt) : ASt → Prop
  | [] => True
  | p :: r => OldB N t S' ks Sx p.1 p.2 ∧ AllB N t S' ks Sx r
theorem AllR.at {N t : Nat} {S' : ASt} {ks : List Nat} {E' : AEnv} : ∀ {C : AEnv}, AllR N t S' ks E' C → ∀ k, RnV N t S' ks (lk E' k) (lk C k)
  | [], _, _ => .any
  | p :: r, h, k => by
    by_cases hp : p.1 = k
    · subst hp
      have hl : lk (p :: r) p.1 = p.2 := by simp [lk]
      rw [hl]
      exact h.1
    · have hl : lk (p :: r) k = lk r k := by simp [lk, beq_no hp]
      rw [hl]
      exact AllR.at h.2 k
theorem AllB.at {N t : Nat} {S' Sx : ASt} {ks : List Nat} : ∀ {C : ASt}, AllB N t S' ks Sx C → ∀ id, id ∈ C.map (·.1) → OldB N t S' ks Sx id (slk C id)
  | [], _, id, h => by simp at h
  | p :: r, h, id, hid => by
    by_cases hp : p.1 = id
    · subst hp
      have hl : slk (p :: r) p.1 = p.2 := by simp [slk]
      rw [hl]
      exact h.1
    · have hl : slk (p :: r) id = slk r id := by simp [slk, beq_no hp]
      rw [hl]
      exact AllB.at h.2 id (by simpa [Ne.symm hp] using hid)
theorem OldB.none_of {N t : Nat} {S' Sx : ASt} {ks : List Nat} {id : Nat} {ob : Option Blk} (h : OldB N t S' ks Sx id ob) (ho : ob = none) : slk Sx id = none := by subst ho; exact h.2
section
variable {n N : Nat} {keys : List Nat} {S Sx CS S' : ASt} {E' C : AEnv}
theorem ends_of {NN t : Nat} {ks : List Nat} {CN : ASt} {cx : ASt} (hx : Sx = cx ++ S) (hkx : cx.map (·.1) = keys) (hky : (CS ++ CN).map (·.1) |>.Perm keys) (hnd : keys.Nodup) (hN : t + ks.length ≤ N) (hfree : ∀ id, t ≤ id → id < t + ks.length → slk Sx id = some .hole ∧ slk S' id = some .hole)
    (hks : ks.Nodup) (hkN : ∀ k ∈ ks, N ≤ k) (hE : AllR N t S' ks E' C) (hB : AllB N t S' ks Sx CS) (hS : SameS keys S' S N)
    (hCN : CN.map (·.1) = List.range' t ks.length) (hnew : ∀ (j k : Nat), ks[j]? = some k → ∃ b0 b, slk S' k = some b0 ∧ slk CN (t + j) = some b ∧ RnBk N t S' ks b0 b ∧ (hdr b = none ∨ hdr b = some (0, 0))) (hCS : ∀ id ∈ CS.map (·.1), id < t ∨ t + ks.length ≤ id) :
    Ends N (slk Sx) (toL NN E') (slk S') (toL NN C) (slk (CS ++ CN ++ S)) := by
  have hcsnd : (CS.map (·.1)).Nodup := by
    have := hky.nodup_iff.2 hnd
    rw [List.map_append] at this
    exact (List.nodup_append.1 this).1
  have hin : ∀ id, id ∈ keys ↔ id ∈ CS.map (·.1) ∨ t ≤ id ∧ id < t + ks.length := fun id => by
    rw [← hky.mem_iff, List.map_append, List.mem_append, hCN, List.mem_range'_1]
  have hupC : ∀ id, upd (slk Sx) (upsA CS) id = if id ∈ CS.map (·.1) then slk CS id else slk Sx id := fun id => upsA_at (fun id h1 h2 => (hB.at id h2).none_of h1) hcsnd
  have hSx : ∀ id, id ∉ keys → slk Sx id = slk S id := fun id hid => by
    rw [hx]
    exact slk_app.2 (by rw [hkx]; exact hid)
  let bs : List Blk := (List.range ks.length).map fun j => (slk CN (t + j)).getD (.map 0 [])
  have hbl : bs.length = ks.length := by simp [bs]
  have hbs : ∀ j, j < ks.length → ∃ b, bs[j]? = some b ∧ slk CN (t + j) = some b := fun j hj => by
    obtain ⟨b0, b, _, q2, _⟩ := hnew j _ (List.getElem?_eq_getElem hj)
    exact ⟨b, by simp [bs, hj, q2], q2⟩
  refine ⟨t, upsA CS ++ numbered t bs, t + ks.length, hN, hfree, ⟨ks, upsA CS, bs, rfl, by simp only [hbl], fun p hp => ?_, hks, hkN, hbl, .tuple (by rw [toL_length, toL_length]) fun i v u a b => ?_, fun id hid hto => ?_, fun j k b hj hb => ?_⟩, ?_⟩
  · have hm : p.1 ∈ CS.map (·.1) := List.mem_map.2 ⟨_, upsA_mem hp, rfl⟩
    have := hB.at p.1 hm
    rw [slk_of_mem hcsnd (upsA_mem hp)] at this
    rw [hbl]
    exact ⟨this.1, hCS p.1 hm⟩
  · have hi : i < NN := by have := (List.getElem?_eq_some_iff.1 a).1; rwa [toL_length] at this
    rw [toL_at hi] at a b
    cases a
    cases b
    exact hE.at i
  · rw [hbl] at hto
    rw [hupC id]
    by_cases hm : id ∈ CS.map (·.1)
    · rw [if_pos hm]
      have := hB.at id hm
      cases hc : slk CS id with
      | none =>
        rw [hc] at this
        exact .inl ⟨this.1.trans this.2.symm, this.2.symm⟩
      | some b =>
        rw [hc] at this
        obtain ⟨_, b0, q1, q2, q3⟩ := this
        exact .inr ⟨b0, b, q1, rfl, q2, q3⟩
    · rw [if_neg hm]
      have hk : id ∉ keys := fun q => ((hin id).1 q).elim hm (fun q => by omega)
      exact .inl ⟨(hS.at id hid hk).trans (hSx id hk).symm, rfl⟩
  · obtain ⟨b0, b', q1, q2, q3, q4⟩ := hnew j k hj
    obtain ⟨b2, r1, r2⟩ := hbs j (List.getElem?_eq_some_iff.1 hj).1
    rw [r1] at hb
    cases hb
    rw [q2] at r2
    cases r2
    exact ⟨b0, q1, q3, q4⟩
  · funext id
    rw [upd_append]
    by_cases ht : t ≤ id ∧ id < t + ks.length
    · obtain ⟨j, rfl⟩ : ∃ j, id = t + j := ⟨id - t, by omega⟩
      obtain ⟨b, r1, r2⟩ := hbs j (by omega)
      rw [upd_numbered r1, List.append_assoc, slk_app.2 (fun q => by have := hCS _ q; omega), slk_app.1 (by rw [hCN, List.mem_range'_1]; exact ht), r2]
    · rw [upd_ne (fun p hp => by have := numbered_keys p hp; omega), hupC id]
      by_cases hm : id ∈ CS.map (·.1)
      · rw [if_pos hm, List.append_assoc, slk_app.1 hm]
      · have hk : id ∉ keys := fun q => ((hin id).1 q).elim hm ht
        rw [if_neg hm, List.append_assoc, slk_app.2 hm, slk_app.2 (by rw [hCN, List.mem_range'_1]; exact ht)]
        exact (hSx id hk).symm
def ndB : List Nat → Bool
  | [] => true
  | a :: r => !r.contains a && ndB r
theorem ndB_nd : ∀ {l : List Nat}, ndB l = true → l.Nodup
  | [], _ => List.nodup_nil
  | a :: r, h => by
    simp only [ndB, Bool.and_eq_true, Bool.not_eq_true'] at h
    exact List.nodup_cons.2 ⟨by simpa using h.1, ndB_nd h.2⟩
theorem map_snoc {α : Type} {f : α → List V} {xs : List α} {y : α} {cs : List V} (h : cs = f y) : xs.map f ++ [cs] = (xs ++ [y]).map f := by rw [List.map_append, h]; rfl
theorem map_snocs {α : Type} {f : α → List V} {xs ys : List α} {zs : List (List V)} (h : zs = ys.map f) : xs.map f ++ zs = (xs ++ ys).map f := by rw [List.map_append, h]
theorem map_setc {α : Type} {f : α → List V} {xs : List α} {y : α} {cs : List V} {i : Nat} (h : cs = f y) : (xs.map f).set i cs = (xs.set i y).map f := by rw [List.map_set, h]
theorem map_inc {α : Type} {f : α → List V} {xs zs : List α} {y : α} {cs : List V} (h : cs = f y) : xs.map f ++ (cs :: zs.map f) = (xs ++ y :: zs).map f := by rw [List.map_append, h]; rfl
def EndA (N : Nat) (S Sx : ASt) (E' : AEnv) (S' : ASt) (C : AEnv) (CS : ASt) : Prop := ∀ NN, Ends N (slk Sx) (toL NN E') (slk S') (toL NN C) (slk (CS ++ S))
theorem end0 {cx : ASt} (hE : AllR N N S' [] E' C) (hB : AllB N N S' [] (cx ++ S) CS) (hkx : cx.map (·.1) = keys := by rfl) (hky : CS.map (·.1) = keys := by rfl) (hnd : ndB (cx.map (·.1)) = true := by rfl) (hS : SameS keys S' S N := by repeat' (first | exact trivial | refine And.intro ?_ ?_ | rfl)) : EndA N S (cx ++ S) E' S' C CS := fun NN => by
  have := ends_of (CN := []) (ks := []) (NN := NN) (t := N) rfl hkx (by simpa using hky ▸ List.Perm.refl _) (by subst hkx; exact ndB_nd hnd) (Nat.le_refl _) (fun id a b => by simp at b; omega) (by simp) (by simp) hE hB hS rfl (fun j k h => by simp at h) (fun id _ => (Nat.lt_or_ge id N).elim .inl fun q => .inr (by simpa using q))
  simpa using this
end
end Go.Vm
namespace Go.Vm
open Go.RowKit
def NextQ {σ : Type} (N : Nat) (S : ASt) (B : AEnv) (chg : σ → AEnv) (cx : σ → ASt) (ok : σ → Prop) (μ : σ → Nat) (x : σ) : APost := fun E' S' _ => ∃ y, (ok y ∧ μ y < μ x) ∧ EndA N S (cx x ++ S) E' S' (chg y ++ B) (cx y)
def holes : Nat → Nat → ASt
  | _, 0 => []
  | n, K + 1 => (n + K, some .hole) :: holes n K
theorem holes_ge : ∀ {K n id : Nat}, n + K ≤ id → id ∉ (holes n K).map (·.1)
  | 0, _, _, _, h => by simp [holes] at h
  | K + 1, n, id, hid, h => by
    simp only [holes, List.map_cons, List.mem_cons] at h
    rcases h with h | h
    · omega
    · exact holes_ge (by omega) h
section
variable {P : Program} {N : Nat} {Q : XPost} {E : AEnv} {S : ASt} {n : Nat}
theorem vwp_holes {c : Code} {Q : VPost} {e : List V} : ∀ (K : Nat), vwp P c Q e (slk (holes n K ++ S)) (n + K) → vwp P c Q e (slk S) n
  | 0, h => h
  | K + 1, h => vwp_holes K (vwp_hole (by
      have hs : put (slk (holes n K ++ S)) (n + K) .hole = slk (holes n (K + 1) ++ S) := by
        funext id
        simp only [holes, List.cons_append, slk, put]
        by_cases hi : id = n + K
        · subst hi; simp
        · rw [if_neg hi, beq_no (fun q => hi q.symm)]; rfl
      rw [hs]
      exact h))
theorem a_loop {c : Code} {σ : Type} (K : Nat) {B : AEnv} (kept : List Nat) (chg : σ → AEnv) (cx : σ → ASt) (ok : σ → Prop) (μ : σ → Nat) (x0 : σ) (h0 : ok x0)
    (round : ∀ x, ok x → awp P N c (thenA (NextQ (n + K) S B chg cx ok μ x) Q) (chg x ++ B) (cx x ++ S) (n + K))
    (hB : KeepE E kept B := by repeat' (first | exact KeepE.nil | exact FV.int | exact FV.list | exact FV.row | exact FV.bool | exact FV.agg | exact FV.nil | exact FV.ptr | exact FV.iptr | exact FV.str | exact FV.map | exact FV.tuple | exact FV.func | exact FV.nrow | apply KeepE.cons)) (hE : AllE E (chg x0) := by repeat' (first | exact trivial | refine And.intro rfl ?_)) (hS : SameS [] (cx x0 ++ S) (holes n K ++ S) (n + K) := by repeat' (first | exact trivial | refine And.intro ?_ ?_ | rfl)) (hk : (cx x0).all (fun p => Nat.blt p.1 (n + K)) = true := by rfl) : awp P N (.loop c) Q E S n := fun hc => by
  have hall : ∀ t, lk (chg x0 ++ B) t = .any ∨ lk E t = lk (chg x0 ++ B) t := by
    have : AllE E (chg x0 ++ B) := by
      have hb := hB.all
      revert hE
      generalize chg x0 = C
      intro hE
      induction C with
      | nil => exact hb
      | cons p r ih => exact ⟨hE.1, ih hE.2⟩
    exact this.at
  have hs : slk (holes n K ++ S) = slk (cx x0 ++ S) := by
    funext id
    rcases Nat.lt_or_ge id (n + K) with q | q
    · exact (hS.at id q (by simp)).symm
    · have h1 : id ∉ (cx x0).map (·.1) := fun h => by
        obtain ⟨p, hp, rfl⟩ := List.mem_map.1 h
        have := List.all_eq_true.1 hk p hp
        simp only [Nat.blt_eq] at this
        omega
      rw [slk_app.2 h1, slk_app.2 (holes_ge q)]
  refine vwp_holes K ?_
  refine vwp_loops (fun x => toL N (chg x ++ B)) (fun x => slk (cx x ++ S)) ok μ x0 (Sub.fg fun t _ => hall t) hs h0 fun x hx => ?_
  refine vwp_mono (round x hx hc) ?_
  rintro ex _ _ n' ⟨E', S', rfl, rfl, hq⟩
  cases ex with
  | normal =>
    obtain ⟨y, hy, he⟩ := hq
    exact ⟨y, hy, he N⟩
  | exit id => exact ⟨E', S', rfl, rfl, hq⟩
  | goto l => exact ⟨E', S', rfl, rfl, hq⟩
  | ret => exact ⟨E', S', rfl, rfl, hq⟩
  | panic c => exact ⟨E', S', rfl, rfl, hq⟩
  | outgrown => exact ⟨E', S', rfl, rfl, hq⟩
theorem a_next {σ : Type} {chg : σ → AEnv} {cx : σ → ASt} {ok : σ → Prop} {μ : σ → Nat} {x : σ} {B E' : AEnv} {S' : ASt} {N0 : Nat} (y : σ) (h : ok y) (hμ : μ y < μ x) (he : EndA N0 S (cx x ++ S) E' S' (chg y ++ B) (cx y)) : NextQ N0 S B chg cx ok μ x E' S' n := ⟨y, ⟨h, hμ⟩, he⟩
theorem vwp_len {c : Code} {Q : VPost} {e : List V} {s : Store} {i m : Nat} {xs : List (List V)} (hi : e[i]? = some (.list m xs)) (h : xs.length ≤ 9223372036854775807 → vwp P c Q e s n) : vwp P c Q e s n := fun rd md B a w Sb G h0 h1 h2 h3 h4 => by
  obtain ⟨u, _, hu⟩ := h1.at hi
  exact h (by have := hu.fit.len; simpa [maxLen] using this) rd md B a w Sb G h0 h1 h2 h3 h4
theorem a_len {c : Code} {α : Type} {f : α → List V} (i : Nat) {m : Nat} {xs : List α} (hl : lk E i = .list m (xs.map f)) (hi : Nat.blt i N = true) (h : xs.length ≤ 9223372036854775807 → awp P N c Q E S n) : awp P N c Q E S n := fun hc =>
  vwp_len (i := i) (m := m) (xs := xs.map f) (by rw [toL_at (by simpa [Nat.blt_eq] using hi), hl]) fun q => h (by simpa using q) hc
end
def argE : Nat → List V → AEnv
  | _, [] => []
  | i, v :: r => (i, v) :: argE (i + 1) r
theorem argE_at : ∀ {args : List V} {i t : Nat}, lk (argE i args) t = if i ≤ t then (args[t - i]?).getD .any else .any
  | [], i, t => by simp [argE, lk]
  | v :: r, i, t => by
    by_cases h : i = t
    · subst h; simp [argE, lk]
    · have ih := argE_at (args := r) (i := i + 1) (t := t)
      simp only [argE, lk, beq_no h, cond_false]
      rw [ih]
      by_cases hi : i ≤ t
      · rw [if_pos hi, if_pos (by omega), show t - i = (t - (i + 1)) + 1 by omega]
        rfl
      · rw [if_neg hi, if_neg (by omega)]
theorem args_sub {N : Nat} {args : List V} (hl : args.length ≤ N) : fgE (fun _ => True) (args ++ List.replicate (N - args.length) (.tuple [])) (toL N (argE 0 args)) := fgE_of (by rw [toL_length]; simp; omega) fun i v hv => by
  have hi : i < N := by have := (List.getElem?_eq_some_iff.1 hv).1; rwa [toL_length] at this
  rw [toL_at hi, argE_at, if_pos (Nat.zero_le i), Nat.sub_zero] at hv
  cases hv
  by_cases h : i < args.length
  · right
    rw [List.getElem?_append_left h, List.getElem?_eq_getElem h]
    rfl
  · left
    rw [List.getElem?_eq_none (by omega)]
    rfl
def RetQ (P : Program) (N : Nat) (rs : Array ResultVar) (v : V) : XPost := fun x E S n => RetP P rs v x (toL N E) (slk S) n
theorem a_pure {P : Program} {f : FuncId} {fn : Func} {c : Code} {N : Nat} {rs : Array ResultVar} {args : List V} {v : V} (n0 : Nat := 0) (hf : P.funcs[f]? = some fn) (h : awp P N c (RetQ P N rs v) (argE 0 args) [] n0) (hb : fn.body = some c := by rfl) (hN : fn.ntmps = N := by rfl) (hr : fn.results = rs := by rfl) (hl : Nat.ble args.length N = true := by rfl) (hc : chkA N c = true := by kernel_rfl) : VPure P f args v := by
  subst hN hr
  exact vpure_body hf hb (vwp_env (args_sub (by simpa [Nat.ble_eq] using hl)) (vwp_mono (h hc) (by
    rintro x _ _ n' ⟨E', S', rfl, rfl, h1, h2⟩
    exact ⟨h1, h2⟩)))
section
variable {P : Program} {N : Nat} {E : AEnv} {S : ASt} {n : Nat} {v w : V} {x : Exit}
theorem ret_tmp {t : Nat} (hx : x = .normal ∨ x = .ret) (ht : Nat.blt t N = true) (hl : lk E t = w) (hp : Pk (slk S) w v) : RetQ P N #[.tmp t] v x E S n :=
  ⟨hx, [w], by simp only [vresults, vresult, toL_getD (by simpa [Nat.blt_eq] using ht) E, hl], hp⟩
theorem ret_two {t t2 : Nat} {w2 v2 : V} (hx : x = .normal ∨ x = .ret) (ht : (Nat.blt t N && Nat.blt t2 N) = true) (hl : lk E t = w) (hl2 : lk E t2 = w2) (hp : Pk (slk S) w v) (hp2 : Pk (slk S) w2 v2) : RetQ P N #[.tmp t, .tmp t2] (.tuple [v, v2]) x E S n := by
  simp only [Bool.and_eq_true, Nat.blt_eq] at ht
  refine ⟨hx, [w, w2], by simp only [vresults, vresult, toL_getD ht.1 E, toL_getD ht.2 E, hl, hl2], .tuple rfl fun j a b h1 h2 => ?_⟩
  match j, h1, h2 with
  | 0, h1, h2 => cases h1; cases h2; exact hp
  | 1, h1, h2 => cases h1; cases h2; exact hp2
  | j + 2, h1, h2 => simp at h1
end
section
variable {s : Store} {v w : V}
theorem pk_same (hv : Vlt 0 w) : Pk s w w := .keep hv
theorem pk_int {k : IntKind} {a b : Int} (h : a = b) : Pk s (.int k a) (.int k b) := h ▸ .keep (.int _ _)
theorem pk_bool {a b : Bool} (h : a = b) : Pk s (.bool a) (.bool b) := h ▸ .keep (.bool _)
theorem pk_list {α : Type} {r : Rp α} {m : Nat} {xs ys : List α} (h : xs = ys) : Pk s (.list m (xs.map r.cells)) (.list m (ys.map r.cells)) := h ▸ .keep (r.lt 0 xs m)
theorem pk_cells {α : Type} {r : Rp α} {x y : α} (h : x = y) : Pk s (.agg (r.cells x)) (.agg (r.cells y)) := h ▸ .keep (r.agg 0 x)
theorem pk_row {α : Type} {r : Rp α} {id g k m G L : Nat} {e : TypeId} {xs : List (List V)} {ys : List α} (hs : s id = some (.cells e m G L xs)) (hg : (Nat.ble L g && Nat.ble g G) = true) (hm : m = r.m) (h : xs = ys.map r.cells) (hk : k = ys.length) : Pk s (.row id g 0 k) (.list m (ys.map r.cells)) := by
  subst h hk hm
  simp only [Bool.and_eq_true, Nat.ble_eq] at hg
  refine .row hs hg (by simp) (fun ds hd => ?_) (fun k j cs ds v u a b c d => ?_)
  · obtain ⟨y, _, rfl⟩ := List.mem_map.1 hd
    exact ⟨(r.ok y).1, fun v hv => ((r.ok y).2 v hv).2⟩
  · rw [Nat.zero_add, b] at a
    cases a
    rw [c] at d
    cases d
    exact .keep (r.cl 0 ys _ (List.mem_of_getElem? b) v (List.mem_of_getElem? c)).1
theorem pk_pre {α : Type} {r : Rp α} {id g k m G L : Nat} {e : TypeId} {xs ys : List α} (hs : s id = some (.cells e m G L (xs.map r.cells))) (hg : (Nat.ble L g && Nat.ble g G) = true) (hm : m = r.m) (h : xs.take ys.length = ys) (hk : k = ys.length) : Pk s (.row id g 0 k) (.list m (ys.map r.cells)) := by
  subst hk hm
  simp only [Bool.and_eq_true, Nat.ble_eq] at hg
  have hat : ∀ j y, ys[j]? = some y → xs[j]? = some y := fun j y hj => by
    have hlt := (List.getElem?_eq_some_iff.1 hj).1
    rw [← h, List.getElem?_take, if_pos hlt] at hj
    exact hj
  refine .row hs hg (by simp) (fun ds hd => ?_) (fun k j cs ds v u a b c d => ?_)
  · obtain ⟨y, _, rfl⟩ := List.mem_map.1 hd
    exact ⟨(r.ok y).1, fun v hv => ((r.ok y).2 v hv).2⟩
  · rw [List.getElem?_map] at b
    cases hy : ys[k]? with
    | none => rw [hy] at b; cases b
    | some y =>
      rw [hy] at b
      cases b
      rw [Nat.zero_add, List.getElem?_map, hat k y hy] at a
      cases a
      rw [c] at d
      cases d
      exact .keep ((r.ok y).2 v (List.mem_of_getElem? c)).1
theorem pk_nrow {α : Type} {r : Rp α} {t g e m G L k : Nat} {ys : List α} (hs : s t = nb e m G L (ys.map r.cells)) (hg : (Nat.ble L g && Nat.ble g G) = true) (hm : m = r.m) (hk : k = ys.length) : Pk s (nrow t g k) (.list m (ys.map r.cells)) := by
  subst hk
  cases ys with
  | nil => exact .nil
  | cons y ys => exact pk_row (by rw [hs]; exact nb_pos (by simp)) hg hm rfl rfl
inductive PkL (s : Store) : List V → List V → Prop where
  | nil : PkL s [] []
  | cons {a b : V} {as bs : List V} (h : Pk s a b) (hr : PkL s as bs) : PkL s (a :: as) (b :: bs)
theorem PkL.len {as bs : List V} (h : PkL s as bs) : as.length = bs.length := by induction h with | nil => rfl | cons _ _ ih => simp [ih]
theorem PkL.at {as bs : List V} (h : PkL s as bs) : ∀ (i : Nat) (a b : V), as[i]? = some a → bs[i]? = some b → Pk s a b := by
  induction h with
  | nil => intro i a b h; simp at h
  | cons h _ ih =>
    intro i a b h1 h2
    cases i with
    | zero => cases h1; cases h2; exact h
    | succ i => exact ih i a b (by simpa using h1) (by simpa using h2)
end
def restr (ids : List Nat) (s : Store) : Store := fun id => bif ids.contains id then s id else none
theorem restr_some {ids : List Nat} {s : Store} {id : Nat} {b : Blk} (h : restr ids s id = some b) : id ∈ ids ∧ s id = some b := by
  unfold restr at h
  cases hc : ids.contains id with
  | true => rw [hc] at h; exact ⟨by simpa using hc, h⟩
  | false => rw [hc] at h; cases h
theorem live_restr {ids : List Nat} {s : Store} {id k : Nat} (h : live (restr ids s) id k) : id ∈ ids ∧ live s id k := by
  obtain ⟨b, hb⟩ := live_some h
  obtain ⟨h1, h2⟩ := restr_some hb
  refine ⟨h1, ?_⟩
  unfold live at h ⊢
  rw [hb] at h
  rw [h2]
  exact h
theorem WSim.restr {w : World} {Sb : Nat → Prop} {G : Gh} {s : Store} (h : WSim w Sb G s) (ids : List Nat) : WSim w Sb G (restr ids s) :=
  ⟨h.sub, fun id b hb => h.blk id b (restr_some hb).2, fun id k E hl => h.off id k E (live_restr hl).2, fun id k E id' k' E' h1 h2 => h.dis id k E id' k' E' (live_restr h1).2 (live_restr h2).2⟩
def voids (ids : List Nat) : List (Nat × Blk) := ids.map fun i => (i, .void)
theorem upd_voids : ∀ {ids : List Nat} {s : Store} {id : Nat}, upd s (voids ids) id = if id ∈ ids then some .void else s id
  | [], s, id => by simp [voids, upd]
  | i :: r, s, id => by
    have ih := upd_voids (ids := r) (s := put s i .void) (id := id)
    simp only [voids, List.map_cons, upd] at ih ⊢
    rw [ih]
    by_cases h : id ∈ r
    · simp [h]
    · by_cases hi : id = i
      · subst hi; simp [h]
      · simp [h, hi, put_ne]
theorem VPure.take {P : Program} {f : FuncId} {args args' : List V} {v : V} {st : Store} (ids : List Nat) (h : VPure P f args' v) (hp : PkL (restr ids st) args args') (n : Nat) : VCall P f args st n (v, voids ids, n) := by
  intro w Sb G us N hs hfr hN1 hN2 hN3 hargs
  have hr := hs.restr ids
  have hown : ∀ b, Own (restr ids st) G b → Own st G b := fun b ⟨id, k, E, q1, q2, q3⟩ => ⟨id, k, E, (live_restr q1).2, q2, q3⟩
  refine (h w (fun b => Sb b ∨ Own (restr ids st) G b) us (fun b hb => hb.elim (hs.sub b) fun q => hs.own_lt (hown b q)) ⟨hargs.1.trans hp.len, fun i v u q r => ?_⟩).mono ?_
  · have hi : i < args.length := by rw [hp.len]; exact (List.getElem?_eq_some_iff.1 q).1
    exact (hp.at i _ v (List.getElem?_eq_getElem hi) q).rv hr (hargs.2 i _ u (List.getElem?_eq_getElem hi) r)
  rintro e w' ⟨u, Sb', rfl, hN, hu⟩
  have hk : ∀ b, b < w.heap.size → w'.heap[b]? = w.heap[b]? := fun b hb => hN.keep b hb not_own
  have hlv : ∀ id k, live (upd st (voids ids)) id k → id ∉ ids ∧ live st id k := fun id k hl => by
    unfold live at hl ⊢
    rw [upd_voids] at hl
    by_cases hm : id ∈ ids
    · rw [if_pos hm] at hl; exact hl.elim
    · rw [if_neg hm] at hl; exact ⟨hm, hl⟩
  have hSb' : ∀ b, Sb' b → Sb b ∨ Own (restr ids st) G b ∨ w.heap.size ≤ b := fun b hb => by
    rcases hN.sbn b hb with q | q | q
    · exact q.elim .inl fun q => .inr (.inl q)
    · exact (not_own q).elim
    · exact .inr (.inr q)
  refine ⟨u, Sb', G, rfl, ⟨⟨hN.sim.sub, fun id b hb => ?_, fun id k E hl hE hS => ?_, fun id k E id' k' E' h1 h2 => hs.dis id k E id' k' E' (hlv id k h1).2 (hlv id' k' h2).2⟩, hN.os, hN.tape, hN.output, hN.size, fun b hb _ => hk b hb, fun b ⟨id, k, E, q1, q2, q3⟩ => .inl ⟨id, k, E, (hlv id k q1).2, q2, q3⟩, fun b hb => hN.sb b (.inl hb), fun _ _ _ h => h, fun b hb => (hSb' b hb).elim .inl fun q => q.elim (fun q => .inr (.inl (hown b q))) fun q => .inr (.inr q)⟩, hu.mono (fun _ _ => rfl) (fun _ h => h) (fun _ _ _ h => by cases h), fun _ _ _ _ => rfl⟩
  · rw [upd_voids] at hb
    by_cases hm : id ∈ ids
    · rw [if_pos hm] at hb; cases hb; trivial
    · rw [if_neg hm] at hb
      exact (hs.blk id b hb).mono (fun k E q1 q2 => hk _ (hs.own_lt ⟨id, k, E, by unfold live at q2 ⊢; rw [hb]; exact q2, q1, rfl⟩)) (fun b hb => hk b (hs.sub b hb)) (fun b hb => hN.sb b (.inl hb)) (fun _ _ _ h => h) (fun _ => rfl)
  · obtain ⟨hm, hl'⟩ := hlv id k hl
    have hlt := hs.own_lt ⟨id, k, E, hl', hE, rfl⟩
    rcases hSb' _ hS with q | ⟨id2, k2, E2, q1, q2, q3⟩ | q
    · exact hs.off id k E hl' hE q
    · obtain ⟨r1, r2⟩ := live_restr q1
      have := hs.dis _ _ _ _ _ _ r2 hl' q2 hE q3
      exact hm (this ▸ r1)
    · omega
end Go.Vm
namespace Go.Vm
open Go.RowKit
section
variable {P : Program} {N : Nat} {ops : Array Oper} {m : Bool} {K : APost} {l : List Oper} {E : AEnv} {S S' : ASt} {n n' : Nat}
def VltL : List V → Prop
  | [] => True
  | v :: r => Vlt 0 v ∧ VltL r
theorem VltL.all : ∀ {l : List V}, VltL l → ∀ v ∈ l, Vlt 0 v
  | v :: r, h, x, hx => by
    rcases List.mem_cons.1 hx with rfl | hx
    · exact h.1
    · exact VltL.all h.2 x hx
theorem call_args {f : FuncId} {cargs : Array Operand} {ts : Array TypeId} {dst : Option Tmp} {ty : TypeId} {pos : String} {aft : Array Edge} (hl : operN N ⟨dst, .call ⟨.value (.func f), cargs, ts⟩, ty, pos, aft, none⟩ = true) : cargs.toList.map (veval (toL N E)) = cargs.toList.map (aev E) :=
  List.map_congr_left fun x hx => operN_ops hl x (by simp [Op.operands, Call.operands]; exact .inr (by simpa using hx))
theorem ar_pure {d : Nat} {f : FuncId} {cargs : Array Operand} {ts : Array TypeId} {ty : TypeId} {pos : String} {aft : Array Edge} {args : List V} {v : V} (h : VPure P f args v) (K' : arun P N ops m K l ((d, v) :: E) S n) (hx : cargs.toList.map (aev E) = args := by rfl) (ha : VltL args := by repeat' first | exact trivial | exact Vlt.int _ _ | exact Rp.lt _ _ _ _ | exact Rp.agg _ _ _ | exact Vlt.bool _ | exact Vlt.str _ | exact Vlt.nil | exact Vlt.func (fun _ h => nomatch h) (fun _ h => nomatch h) | refine And.intro ?_ ?_) (hp : plainFunc P f = true := by kernel_rfl) : arun P N ops m K (⟨some d, .call ⟨.value (.func f), cargs, ts⟩, ty, pos, aft, none⟩ :: l) E S n := fun hl => by
  simp only [List.all_cons, Bool.and_eq_true] at hl
  simp only [vrun, vwanted, isCall]
  refine callK_pure h rfl ((call_args hl.1).trans hx) hp ha.all ?_
  simp only [vput, toL_set]
  exact K' hl.2
theorem ar_lend {d : Nat} {f : FuncId} {cargs : Array Operand} {ts : Array TypeId} {ty : TypeId} {pos : String} {aft : Array Edge} {args : List V} {v : V} (h : VPure P f args v) (K' : arun P N ops true K l ((d, v) :: E) S n) (hx : PkL (slk S) (cargs.toList.map (aev E)) args := by repeat' first | exact PkL.nil | exact pk_int rfl | exact pk_list rfl | exact pk_bool rfl | exact pk_row rfl (by first | rfl | (simp only [Bool.and_eq_true, Nat.ble_eq, Nat.blt_eq, Nat.beq_eq, true_and, and_true, Nat.le_refl, and_self]; (try omega); done) | fail) rfl (by first | rfl | exact map_snoc rfl) (by first | rfl | (simp; done) | fail) | exact pk_nrow rfl (by first | rfl | (simp only [Bool.and_eq_true, Nat.ble_eq, Nat.blt_eq, Nat.beq_eq, true_and, and_true, Nat.le_refl, and_self]; (try omega); done) | fail) rfl rfl | exact pk_cells rfl | exact pk_same (.str _) | exact pk_same .nil | apply PkL.cons) (hv : v.flat = true := by rfl) (hp : plainFunc P f = true := by kernel_rfl) : arun P N ops true K (⟨some d, .call ⟨.value (.func f), cargs, ts⟩, ty, pos, aft, none⟩ :: l) E S n := fun hl => by
  simp only [List.all_cons, Bool.and_eq_true] at hl
  simp only [vrun, vwanted, isCall]
  refine callK_flat h rfl (by simpa using hx.len) ?_ hp hv ?_
  · rw [call_args hl.1]; exact hx.at
  · simp only [vput, toL_set]
    exact K' hl.2
theorem ar_take {d : Nat} {f : FuncId} {cargs : Array Operand} {ts : Array TypeId} {ty : TypeId} {pos : String} {aft : Array Edge} {args : List V} {v : V} (ids : List Nat) (h : VPure P f args v) (K' : arun P N ops true K l ((d, v) :: E) (ids.map (fun i => (i, some .void)) ++ S) n) (hx : PkL (restr ids (slk S)) (cargs.toList.map (aev E)) args := by repeat' first | exact PkL.nil | exact pk_int rfl | exact pk_list rfl | exact pk_bool rfl | exact pk_row rfl (by first | rfl | (simp only [Bool.and_eq_true, Nat.ble_eq, Nat.blt_eq, Nat.beq_eq, true_and, and_true, Nat.le_refl, and_self]; (try omega); done) | fail) rfl (by first | rfl | exact map_snoc rfl) (by first | rfl | (simp; done) | fail) | exact pk_nrow rfl (by first | rfl | (simp only [Bool.and_eq_true, Nat.ble_eq, Nat.blt_eq, Nat.beq_eq, true_and, and_true, Nat.le_refl, and_self]; (try omega); done) | fail) rfl rfl | exact pk_cells rfl | exact pk_same (.str _) | exact pk_same .nil | apply PkL.cons) (hi : ids.all (fun i => (slk S i).isSome) = true := by rfl) (hp : plainFunc P f = true := by kernel_rfl) : arun P N ops true K (⟨some d, .call ⟨.value (.func f), cargs, ts⟩, ty, pos, aft, none⟩ :: l) E S n := fun hl => by
  simp only [List.all_cons, Bool.and_eq_true] at hl
  simp only [vrun, vwanted, isCall]
  have hid : ∀ i ∈ ids, slk S i ≠ none := fun i hm q => by
    have := List.all_eq_true.1 hi i hm
    rw [q] at this
    cases this
  have hS : upd (slk S) (voids ids) = slk (ids.map (fun i => (i, some .void)) ++ S) := by
    funext id
    rw [upd_voids]
    by_cases hm : id ∈ ids
    · rw [if_pos hm, slk_app.1 (by simpa using hm)]
      clear hi hid hx K'
      induction ids with
      | nil => simp at hm
      | cons i r ih =>
        by_cases q : i = id
        · subst q; simp [slk]
        · have := ih (by simpa [Ne.symm q] using hm)
          simpa [slk, beq_no q] using this
    · rw [if_neg hm, slk_app.2 (by simpa using hm)]
  refine ⟨(v, voids ids, n), .inr ⟨rfl, .mk rfl rfl hp ?_ (Nat.le_refl _)⟩, Nat.le_refl _, fun p hp => .inr ⟨rfl, ?_⟩, ?_⟩
  · rw [List.nil_append, List.append_nil, call_args hl.1]
    exact h.take ids hx n
  · obtain ⟨i, hi, rfl⟩ := List.mem_map.1 hp
    exact hid i hi
  · simp only [vput, toL_set, hS]
    exact K' hl.2
theorem ar_call {d n' : Nat} {f : FuncId} {cargs : Array Operand} {ts : Array TypeId} {ty : TypeId} {pos : String} {aft : Array Edge} {args : List V} {v : V} {us : List (Nat × Blk)} (h : VCall P f args (slk S) n (v, us, n')) (S' : ASt) (K' : arun P N ops true K l ((d, v) :: E) S' n') (hS : upd (slk S) us = slk S') (hk : ∀ p ∈ us, n ≤ p.1 ∧ p.1 < n' ∨ slk S p.1 ≠ none) (hn : n ≤ n') (hx : cargs.toList.map (aev E) = args := by rfl) (hp : plainFunc P f = true := by kernel_rfl) : arun P N ops true K (⟨some d, .call ⟨.value (.func f), cargs, ts⟩, ty, pos, aft, none⟩ :: l) E S n := fun hl => by
  simp only [List.all_cons, Bool.and_eq_true] at hl
  simp only [vrun, vwanted, isCall]
  refine callK_any h rfl rfl (by rw [List.nil_append, List.append_nil, call_args hl.1]; exact hx) hp hn (fun p hp => (hk p hp).elim .inl fun q => .inr q) ?_
  simp only [vput, toL_set, hS]
  exact K' hl.2
end
end Go.Vm
namespace Go.Vm
open Go.RowKit
section
variable {P : Program} {N : Nat} {ops : Array Oper} {m0 : Bool} {K : APost} {l : List Oper} {E : AEnv} {S S' : ASt} {n n' : Nat}
theorem ar_app_n {α : Type} {f : α → List V} {xs : List α} {d t g m L id2 sz by' eb : Nat} {tt e u : TypeId} {s x : Operand} {ag ea : Bool} {z : Option V} {ek : TK} {ze : V} {ui : TI} {e2 : TypeId} {cs : List V} {ty : TypeId} {pos : String} {aft : Array Edge} [h : TyI P tt ⟨.slice e, sz, by', ag, z⟩] [h2 : TyI P e ⟨ek, m, eb, ea, some ze⟩] [h3 : TyI P u ui]
    (h1 : xs = [] → arun P N ops m0 K l ((d, .row n 0 0 1) :: E) ((n, some (.cells e m 0 0 [cs])) :: S) (n + 1)) (h4 : 0 < xs.length → arun P N ops m0 K l ((d, .row t (g + 1) 0 (xs.length + 1)) :: E) ((t, some (.cells e m (g + 1) L (xs.map f ++ [cs]))) :: S) n)
    (hs : aev E s = nrow t g xs.length := by rfl) (hx : aev E x = .row id2 0 0 1 := by rfl) (hb : slk S id2 = some (.cells e2 m 0 0 [cs]) := by rfl) (hc : slk S t = nb e m g L (xs.map f) := by rfl) (hu : (apk ui.k && Nat.blt 0 m && Nat.blt 0 eb && Nat.beq (vcells ze).length m && Nat.ble (1 * eb) 140737488355328) = true := by rfl) (hr : (xs.length + 1) * eb ≤ 140737488355328 := by omega) :
    arun P N ops m0 K (⟨some d, .call ⟨.builtin .append, #[s, x], #[tt, u]⟩, ty, pos, aft, none⟩ :: l) E S n := by
  cases xs with
  | nil => exact ar_some (h1 rfl) (ev_app_nil1 (h := h) (h2 := h2) (h3 := h3) hs hx hb hu)
  | cons a r =>
    rw [Bool.and_eq_true] at hu
    rw [nrow_pos (by simp)] at hs
    rw [nb_pos (by simp)] at hc
    exact ar_some (h4 (by simp)) (ev_app_row1m (h := h) (h2 := h2) (h3 := h3) hs hx hb hc rfl hu.1 hr)
theorem ar_app_nz {α : Type} {f : α → List V} {xs : List α} {d t g m L id2 sz by' eb q : Nat} {tt e u : TypeId} {s x : Operand} {ag ea : Bool} {z : Option V} {ek : TK} {ze : V} {ui : TI} {e2 : TypeId} {zs : List (List V)} {ty : TypeId} {pos : String} {aft : Array Edge} [h : TyI P tt ⟨.slice e, sz, by', ag, z⟩] [h2 : TyI P e ⟨ek, m, eb, ea, some ze⟩] [h3 : TyI P u ui]
    (h1 : xs = [] → arun P N ops m0 K l ((d, .row n 0 0 q) :: E) ((n, some (.cells e m 0 0 zs)) :: S) (n + 1)) (h4 : 0 < xs.length → arun P N ops m0 K l ((d, .row t (g + 1) 0 (xs.length + q)) :: E) ((t, some (.cells e m (g + 1) L (xs.map f ++ zs))) :: S) n)
    (hs : aev E s = nrow t g xs.length := by rfl) (hx : aev E x = .row id2 0 0 q := by rfl) (hb : slk S id2 = some (.cells e2 m 0 0 zs) := by rfl) (hq : (Nat.beq zs.length q && Nat.blt 0 q) = true := by rfl) (hc : slk S t = nb e m g L (xs.map f) := by rfl) (hu : (apk ui.k && Nat.blt 0 m && Nat.blt 0 eb && Nat.beq (vcells ze).length m) = true := by rfl) (hr : (xs.length + q) * eb ≤ 140737488355328 := by omega) :
    arun P N ops m0 K (⟨some d, .call ⟨.builtin .append, #[s, x], #[tt, u]⟩, ty, pos, aft, none⟩ :: l) E S n := by
  simp only [Bool.and_eq_true, Nat.beq_eq, Nat.blt_eq] at hq
  obtain ⟨rfl, hq⟩ := hq
  cases xs with
  | nil =>
    simp only [List.length_nil, Nat.zero_add] at hr
    exact ar_some (h1 rfl) (ev_app_of (h := h) (h2 := h2) (h3 := h3) (a := .nil) hs hx hu (by simp [okw, hb]) (ys := zs) (by simp [vseq, hb]) (us := [(n, .cells e m 0 0 zs)]) (by
      simp only [vappend]
      rw [if_neg (by omega), if_pos (by unfold room; exact hr)]) (upd_one _ _))
  | cons a r =>
    rw [nrow_pos (by simp)] at hs
    rw [nb_pos (by simp)] at hc
    exact ar_some (h4 (by simp)) (ev_app_of (h := h) (h2 := h2) (h3 := h3) hs hx hu (by simp [okw, hb]) (ys := zs) (by simp [vseq, hb]) (us := [(t, .cells e m (g + 1) L ((a :: r).map f ++ zs))]) (by
      simp only [vappend, hc, List.length_map]
      rw [if_pos (by unfold room; simp only [true_and, Nat.le_refl]; exact hr), if_neg (by omega), if_pos trivial, List.take_of_length_le (by simp)]) (upd_one _ _))
theorem ev_len_nrow {t : TypeId} {x : Operand} {e : TypeId} {sz by' : Nat} {ag : Bool} {z : Option V} [h : TyI P t ⟨.slice e, sz, by', ag, z⟩] {id g k : Nat} (hx : aev E x = nrow id g k := by rfl) : Ev P E S n (.call ⟨.builtin .len, #[x], #[t]⟩) (.int .i64 (k : Int)) S n := by
  by_cases hk : k = 0
  · subst hk; exact ev_len_nil (h := h) hx
  · rw [nrow_pos (by omega)] at hx; exact ev_len_row (h := h) hx
theorem ev_idx_nrow {t e : TypeId} {x i : Operand} {sz by' : Nat} {ag : Bool} {z : Option V} {ei : TI} [h : TyI P t ⟨.slice e, sz, by', ag, z⟩] [h2 : TyI P e ei] {id g kk m L : Nat} {e' : TypeId} {xs : List (List V)} {k : IntKind} {j : Int} (hx : aev E x = nrow id g kk := by rfl) (hs : slk S id = nb e' m g L xs := by rfl) (hi : aev E i = .int k j := by rfl) (hm : Nat.beq m ei.size = true := by rfl) (hk : kk = xs.length := by first | rfl | (simp; done) | fail) (hg : L ≤ g := by omega) (h0 : 0 ≤ j := by omega) (hl : j.toNat < kk := by omega) : Ev P E S n (.indexAddr t x i) (.ptr id g j.toNat 0) S n := by
  rw [nrow_pos (by omega)] at hx
  rw [nb_pos (by omega)] at hs
  exact ev_idx_row0 (h := h) (h2 := h2) hx hs hi (by simp only [Bool.and_eq_true, Nat.ble_eq, hm, hg, Nat.le_refl, and_self]) h0 hl
theorem ev_load_nb {t : TypeId} {a : Operand} {id g i o m L : Nat} {e : TypeId} {α : Type} {f : α → List V} {ys : List α} {y : α} {by' : Nat} {z : Option V} {k : TK} {v w : V} [h : TyI P t ⟨k, 1, by', false, z⟩] (ha : aev E a = .ptr id g i o := by rfl) (hs : slk S id = nb e m g L (ys.map f) := by rfl) (hc : ys[i]? = some y := by assumption) (hv : (f y)[o]? = some v := by rfl) (hg : L ≤ g := by omega) (hw : FV v w := by first | exact FV.int | exact FV.list | exact FV.bool | exact FV.str | exact FV.nil) : Ev P E S n (.load t a) w S n := by
  have hl : 0 < ys.length := by have := (List.getElem?_eq_some_iff.1 hc).1; omega
  rw [nb_pos (by simpa using hl)] at hs
  exact ev_load_row (h := h) ha hs (by simp [Nat.ble_eq, hg]) hc hv hw
theorem ev_load_nb_all {t : TypeId} {a : Operand} {id g i m L sz : Nat} {e : TypeId} {α : Type} {f : α → List V} {ys : List α} {y : α} {by' : Nat} {z : Option V} {k : TK} [h : TyI P t ⟨k, sz, by', true, z⟩] (ha : aev E a = .ptr id g i 0 := by rfl) (hs : slk S id = nb e m g L (ys.map f) := by rfl) (hc : ys[i]? = some y := by assumption) (hl : (f y).length = sz := by rfl) (hg : L ≤ g := by omega) : Ev P E S n (.load t a) (.agg (f y)) S n := by
  have hl' : 0 < ys.length := by have := (List.getElem?_eq_some_iff.1 hc).1; omega
  rw [nb_pos (by simpa using hl')] at hs
  exact ev_load_row_all (h := h) ha hs (by simp [Nat.ble_eq, hg]) hc hl
end
section
variable {N t : Nat} {S' Sx S : ASt} {ks : List Nat}
theorem rn_nrow {f : Nat → Nat → Option (Nat × Nat)} {s : Store} {D : Nat → Prop} {id g k g' k' : Nat} (hid : Nat.blt id N = true) (h : g = g' ∧ k = k') (hk : 0 < k) : Rn N f s D (.row id g 0 k) (nrow id g' k') := by
  obtain ⟨rfl, rfl⟩ := h
  rw [nrow_pos hk]
  exact rn_row hid ⟨rfl, rfl, rfl⟩
theorem rn_nrows {f : Nat → Nat → Option (Nat × Nat)} {s : Store} {D : Nat → Prop} {id g k : Nat} (hid : Nat.blt id N = true) : Rn N f s D (nrow id g k) (nrow id g k) := by
  by_cases hk : k = 0
  · subst hk; exact .keep .nil
  · rw [nrow_pos (by omega)]; exact rn_row hid ⟨rfl, rfl, rfl⟩
theorem nrow_one {t g k : Nat} : (nrow t g k).one = true := by unfold nrow; split <;> rfl
theorem rn_new {N : Nat} {s : Store} {D : Nat → Prop} {k t g kk k2 : Nat} {e : TypeId} {m G L : Nat} {xs : List (List V)} (hs : s k = some (.cells e m G L xs)) (hg : g = G) (hk : kk = k2) (h0 : 0 < kk) : Rn N (nm t s [k]) s D (.row k g 0 kk) (nrow t 0 k2) := by
  subst hk hg
  rw [nrow_pos h0]
  refine .row ?_
  unfold nm
  rw [show List.idxOf? k [k] = some 0 by simp [List.idxOf?_cons], hs]
  simp
theorem old_nb {id e m g L : Nat} {ys : List (List V)} (hy : 0 < ys.length) (h : id < N ∧ ∃ b0, slk S' id = some b0 ∧ RnBk N t S' ks b0 (.cells e m g L ys) ∧ some (g, L) = hdr b0) : OldB N t S' ks Sx id (nb e m g L ys) := by
  rw [nb_pos hy]; exact h
theorem old_nbs {α : Type} {r : Rp α} {id e m g L : Nat} {ys : List α} (hid : id < N) (h : slk S' id = nb e m g L (ys.map r.cells)) : OldB N t S' ks Sx id (nb e m g L (ys.map r.cells)) := by
  cases ys with
  | nil => exact ⟨hid, .hole, h, RnB.hole, rfl⟩
  | cons y ys =>
    rw [nb_pos (by simp)] at h ⊢
    exact ⟨hid, _, h, RnB.cells (RnX.of_eq rfl), rfl⟩
theorem end1 {keys : List Nat} {E' C : AEnv} {cx CS : ASt} (k t : Nat) {e m g L : Nat} {xs ys : List (List V)} (hE : AllR N t S' [k] E' C) (hB : AllB N t S' [k] (cx ++ S) CS) (hs : slk S' k = some (.cells e m g L xs)) (hcl : RnX N (nm t (slk S') [k]) (slk S') (dropped N [k]) xs ys) (hy : 0 < ys.length)
    (hkx : cx.map (·.1) = keys := by rfl) (hky : CS.map (·.1) ++ [t] = keys := by rfl) (hnd : ndB (cx.map (·.1)) = true := by rfl) (hn : (Nat.blt t N && Nat.ble N k) = true := by rfl) (hfree : slk (cx ++ S) t = some .hole) (hfree2 : slk S' t = some .hole := by rfl) (hS : SameS keys S' S N := by repeat' (first | exact trivial | refine And.intro ?_ ?_ | rfl)) : EndA N S (cx ++ S) E' S' C (CS ++ [(t, nb e m 0 0 ys)]) := fun NN => by
  simp only [Bool.and_eq_true, Nat.ble_eq, Nat.blt_eq] at hn
  obtain ⟨h2, h3⟩ := hn
  have hcs : ∀ id ∈ CS.map (·.1), id < t ∨ t + [k].length ≤ id := fun id hid => by
    have hnd' := ndB_nd hnd
    rw [hkx, ← hky] at hnd'
    have := (List.nodup_append.1 hnd').2.2 id hid t (by simp)
    simp only [List.length_singleton]
    omega
  rw [nb_pos hy]
  have := ends_of (CN := [(t, some (.cells e m 0 0 ys))]) (ks := [k]) (NN := NN) (t := t) rfl hkx (by rw [List.map_append]; simpa using hky ▸ List.Perm.refl _) (by subst hkx; exact ndB_nd hnd) (by simp only [List.length_singleton]; omega) (fun id a b => by
    simp only [List.length_singleton] at b
    rw [show id = t by omega]; exact ⟨hfree, hfree2⟩) (by simp) (fun q hq => by obtain rfl := List.mem_singleton.1 hq; exact h3) hE hB hS rfl (fun j q hj => by
    have hj0 : j = 0 := by have := (List.getElem?_eq_some_iff.1 hj).1; simp at this; omega
    subst hj0
    simp at hj
    subst hj
    exact ⟨_, .cells e m 0 0 ys, hs, by simp [slk], RnB.cells hcl, .inr rfl⟩) hcs
  exact this
end
end Go.Vm
namespace Go.Vm
open Go.RowKit
section
variable {P : Program} {N : Nat} {ops : Array Oper} {m : Bool} {K : APost} {l : List Oper} {E : AEnv} {S S' : ASt} {n n' : Nat}
theorem g_nilCheck {x : Operand} {v : V} (h : Ev P E S n (.nilCheck x) v S' n') : Ev P E S n (.nilCheck x) v S' n' := h
theorem g_pick {x y z : Operand} {v : V} (h : Ev P E S n (.pick x y z) v S' n') : Ev P E S n (.pick x y z) v S' n' := h
theorem g_binOp {o : BinOp} {t u : TypeId} {x y : Operand} {v : V} (h : Ev P E S n (.binOp o t x y u) v S' n') : Ev P E S n (.binOp o t x y u) v S' n' := h
theorem g_convert {t u : TypeId} {x : Operand} {v : V} (h : Ev P E S n (.convert t u x) v S' n') : Ev P E S n (.convert t u x) v S' n' := h
theorem g_makeFunc {f : Fn} {xs ys : Array Operand} {v : V} (h : Ev P E S n (.makeFunc f xs ys) v S' n') : Ev P E S n (.makeFunc f xs ys) v S' n' := h
theorem g_alloc {t : TypeId} {v : V} (h : Ev P E S n (.alloc t) v S' n') : Ev P E S n (.alloc t) v S' n' := h
theorem g_box {t : TypeId} {x : Operand} {v : V} (h : Ev P E S n (.box t x) v S' n') : Ev P E S n (.box t x) v S' n' := h
theorem g_load {t : TypeId} {x : Operand} {v : V} (h : Ev P E S n (.load t x) v S' n') : Ev P E S n (.load t x) v S' n' := h
theorem g_store {t : TypeId} {x y : Operand} {v : V} (h : Ev P E S n (.store t x y) v S' n') : Ev P E S n (.store t x y) v S' n' := h
theorem g_fieldAddr {t : TypeId} {x : Operand} {k : Nat} {v : V} (h : Ev P E S n (.fieldAddr t x k) v S' n') : Ev P E S n (.fieldAddr t x k) v S' n' := h
theorem g_field {t : TypeId} {x : Operand} {k : Nat} {v : V} (h : Ev P E S n (.field t x k) v S' n') : Ev P E S n (.field t x k) v S' n' := h
theorem g_indexAddr {t : TypeId} {x y : Operand} {v : V} (h : Ev P E S n (.indexAddr t x y) v S' n') : Ev P E S n (.indexAddr t x y) v S' n' := h
theorem g_call_len {xs : Array Operand} {ts : Array TypeId} {v : V} (h : Ev P E S n (.call ⟨.builtin .len, xs, ts⟩) v S' n') : Ev P E S n (.call ⟨.builtin .len, xs, ts⟩) v S' n' := h
theorem g_slice {t : TypeId} {x : Operand} {a b c : Option Operand} {v : V} (h : Ev P E S n (.slice t x a b c) v S' n') : Ev P E S n (.slice t x a b c) v S' n' := h
theorem g_buildSlice {t : TypeId} {k : Nat} {ps : Array (Nat × Operand)} {v : V} (h : Ev P E S n (.buildSlice t k ps) v S' n') : Ev P E S n (.buildSlice t k ps) v S' n' := h
theorem g_call_append {xs : Array Operand} {ts : Array TypeId} {v : V} (h : Ev P E S n (.call ⟨.builtin .append, xs, ts⟩) v S' n') : Ev P E S n (.call ⟨.builtin .append, xs, ts⟩) v S' n' := h
theorem ar_s {d : Nat} {op : Op} {ty : TypeId} {pos : String} {aft : Array Edge} {v : V} (K' : arun P N ops m K l ((d, v) :: E) S' n') (h : Ev P E S n op v S' n' := by first | exact ev_move | (apply g_load; first | exact ev_load_box | exact ev_iload | exact ev_load_row | exact ev_load_raw | exact ev_load_all | exact ev_iload_all | exact ev_load_row_all | exact ev_load_raw_all | exact ev_load_part | exact ev_iload_part | exact ev_load_nb | exact ev_load_nb_all) | (apply g_fieldAddr; first | exact ev_field_ptr | exact ev_field_iptr) | (apply g_binOp; first | exact ev_add | exact ev_sub | exact ev_eql | exact ev_neq | exact ev_bin | exact ev_shr | exact ev_shl | exact ev_aggeq | exact ev_aggneq | exact ev_shift | exact ev_strop | exact ev_booleq | exact ev_boolneq) | (apply g_indexAddr; first | exact ev_idx | exact ev_idx_nat | exact ev_idx_row0 | exact ev_idx_row | exact ev_idx_get | exact ev_idx_raw | exact ev_idx_nrow) | exact ev_assign | (apply g_call_len; first | exact ev_len | exact ev_len_row | exact ev_len_nil | exact ev_len_str | exact ev_len_raw | exact ev_len_nrow) | (apply g_call_append; first | exact ev_app_nil1 | exact ev_app_row1 | exact ev_app_row1m | exact ev_app_in1 | exact ev_app_nilL | exact ev_app_nil0 | exact ev_app_rowL | exact ev_app_rowLm) | exact ev_extract | (apply g_alloc; first | exact ev_alloc | exact ev_alloc1) | (apply g_box; first | exact ev_box | exact ev_box1) | (apply g_buildSlice; first | exact ev_lit1 | exact ev_lit) | exact ev_build | (apply g_pick; first | exact ev_pick_t | exact ev_pick_f) | exact ev_un | (apply g_slice; first | exact ev_from | exact ev_upto | exact ev_from_row | exact ev_upto_row) | (apply g_field; first | exact ev_field | exact ev_field_agg) | exact ev_make | (apply g_convert; first | exact ev_conv | exact ev_convint) | exact ev_max | exact ev_min | (apply g_makeFunc; first | exact ev_func | exact ev_func1 | exact ev_func2 | exact ev_func3) | (apply g_nilCheck; first | exact ev_nilptr | exact ev_niliptr)) : arun P N ops m K (⟨some d, op, ty, pos, aft, none⟩ :: l) E S n := ar_some K' h
theorem ar_n {op : Op} {ty : TypeId} {pos : String} {aft : Array Edge} {v : V} (K' : arun P N ops m K l E S' n') (h : Ev P E S n op v S' n' := by first | (apply g_store; first | exact ev_store_box | exact ev_store_typed | exact ev_store_row | exact ev_store_raw)) : arun P N ops m K (⟨none, op, ty, pos, aft, none⟩ :: l) E S n := ar_none K' h
end
inductive Hold (A : Prop) : Prop where
  | mk (h : A)
theorem Hold.out {A : Prop} (h : Hold A) : A := by cases h; assumption
theorem wk {G A : Prop} (a : Hold A) (h : Hold A → G := by intro a; (repeat' first | (show arun _ _ _ _ _ (⟨some _, _, _, _, _, none⟩ :: _) _ _ _; first | refine ar_s ?_ | refine ar_app_n (fun h => ?_) (fun h => ?_) | refine ar_app_nz (fun h => ?_) (fun h => ?_)) | (show arun _ _ _ _ _ (⟨_, _, _, _, _, some _⟩ :: _) _ _ _; first | refine ar_on ?_ | refine ar_off ?_ | refine ar_off2 ?_ | refine ar_split_t ?_ | refine ar_split_f ?_ | refine ar_split (fun h => ?_) (fun h => ?_)) | (show arun _ _ _ _ _ (⟨none, _, _, _, _, none⟩ :: _) _ _ _; refine ar_n ?_) | (show frun _ _ _ _ _ _ (⟨some _, _, _, _, _, none⟩ :: _) _ _ _; refine fr_s ?_) | (show frun _ _ _ _ _ _ (⟨none, _, _, _, _, none⟩ :: _) _ _ _; refine fr_n ?_) | (show grun _ _ _ _ _ _ _ (⟨some _, _, _, _, _, none⟩ :: _) _ _ _; refine gr_s ?_) | (show grun _ _ _ _ _ _ _ (⟨none, _, _, _, _, none⟩ :: _) _ _ _; refine gr_n ?_) | refine gr_nil ?_ | refine fr_nil ?_ | refine ar_nil ?_ | refine a_seq ?_ | refine a_block ?_ | refine a_region ?_ | refine a_drawn ?_ | refine a_skip ?_ | refine a_exit ?_ | refine a_ret ?_ | (show awp _ _ (.cond _ _ _) _ _ _ _; first | refine a_yes rfl ?_ | refine a_no rfl ?_ | refine a_dec_t ?_ | refine a_dec_f ?_ | refine a_dec rfl (fun h => ?_) (fun h => ?_))); exact a.out) : G := h a
theorem wk2 {G A B p q : Prop} (a : p → Hold A) (b : q → Hold B) (h : (p → Hold A) → (q → Hold B) → G := by intro a b; (repeat' first | (show arun _ _ _ _ _ (⟨some _, _, _, _, _, none⟩ :: _) _ _ _; first | refine ar_s ?_ | refine ar_app_n (fun h => ?_) (fun h => ?_) | refine ar_app_nz (fun h => ?_) (fun h => ?_)) | (show arun _ _ _ _ _ (⟨_, _, _, _, _, some _⟩ :: _) _ _ _; first | refine ar_on ?_ | refine ar_off ?_ | refine ar_off2 ?_ | refine ar_split_t ?_ | refine ar_split_f ?_ | refine ar_split (fun h => ?_) (fun h => ?_)) | (show arun _ _ _ _ _ (⟨none, _, _, _, _, none⟩ :: _) _ _ _; refine ar_n ?_) | (show frun _ _ _ _ _ _ (⟨some _, _, _, _, _, none⟩ :: _) _ _ _; refine fr_s ?_) | (show frun _ _ _ _ _ _ (⟨none, _, _, _, _, none⟩ :: _) _ _ _; refine fr_n ?_) | (show grun _ _ _ _ _ _ _ (⟨some _, _, _, _, _, none⟩ :: _) _ _ _; refine gr_s ?_) | (show grun _ _ _ _ _ _ _ (⟨none, _, _, _, _, none⟩ :: _) _ _ _; refine gr_n ?_) | refine gr_nil ?_ | refine fr_nil ?_ | refine ar_nil ?_ | refine a_seq ?_ | refine a_block ?_ | refine a_region ?_ | refine a_drawn ?_ | refine a_skip ?_ | refine a_exit ?_ | refine a_ret ?_ | (show awp _ _ (.cond _ _ _) _ _ _ _; first | refine a_yes rfl ?_ | refine a_no rfl ?_ | refine a_dec_t ?_ | refine a_dec_f ?_ | refine a_dec rfl (fun h => ?_) (fun h => ?_))); (· refine (a ?_).out; assumption); (· refine (b ?_).out; assumption)) : G := h a b
theorem wz {G : Prop} (h : G := by (refine end0 ?_ ?_; all_goals repeat' first | exact trivial | refine And.intro ?_ ?_ | exact rn_int rfl | exact rn_list rfl | exact rn_row rfl ⟨rfl, rfl, rfl⟩ | exact rn_ptr rfl | exact rn_bool rfl | exact rn_agg rfl | exact rn_iptr rfl | exact rn_map rfl | exact rn_nrows rfl | exact rn_new rfl rfl rfl (by omega) | refine rn_int ?_ | refine rn_bool ?_ | refine rn_list ?_ | refine rn_row rfl ⟨?_, ?_, ?_⟩ | refine rn_nrow rfl ⟨rfl, ?_⟩ ?_ | refine rn_agg ?_ | exact Exists.intro _ ⟨rfl, RnB.cells (RnX.of_eq rfl), rfl⟩ | exact Exists.intro _ ⟨rfl, RnB.cells (RnX.of_eq (map_snoc rfl)), rfl⟩ | exact Exists.intro _ ⟨rfl, RnB.cells (RnX.of_eq (map_setc rfl)), rfl⟩ | exact Exists.intro _ ⟨rfl, RnB.cells (RnX.of_eq (map_inc rfl)), rfl⟩ | exact Exists.intro _ ⟨rfl, RnB.cells (RnX.of_eq (map_snocs rfl)), rfl⟩ | refine Exists.intro _ ⟨rfl, RnB.cells (RnX.cons (RnC.cons ?_ ?_ RnC.nil) RnX.nil), rfl⟩ | exact Exists.intro _ ⟨rfl, RnB.hole, rfl⟩ | refine Exists.intro _ ⟨rfl, rnm_of ?_, rfl⟩ | exact nrow_one | refine old_nbs ?_ rfl | refine old_nb ?_ ⟨?_, _, rfl, RnB.cells (RnX.of_eq (map_snoc rfl)), rfl⟩ | refine old_nb ?_ ⟨?_, _, rfl, RnB.cells (RnX.of_eq (map_snocs rfl)), rfl⟩ | refine old_nb ?_ ⟨?_, _, rfl, RnB.cells (RnX.of_eq (map_inc rfl)), rfl⟩ | refine old_nb ?_ ⟨?_, _, rfl, RnB.cells (RnX.of_eq rfl), rfl⟩ | rfl | (simp only []; omega) | (simp; done) | (simp; omega) | assumption)) : G := h
end Go.Vm
