/-
  Rows frozen and let go of; stores compared by their lists; nested rows. No program is named here. Rows frozen and let go of, where a block of the caller's holds them. No program is named here. The descriptions' data. No program is named here.
-/
import Derived.Test.YtofcjmjokokajaaGreatQm
import Derived.Test.YtofcjmjokokajaaGreatQk
namespace Go.Vm
open Go.RowKit
theorem Nxt.drop {w : World} {Sb : Nat → Prop} {G : Gh} {st s2 : Store} (hs : WSim w Sb G st) (ids : List Nat) (h2 : ∀ id, s2 id = if id ∈ ids then none else st id) : Nxt w Sb G st w (fun b => Sb b ∨ Own (restr ids st) G b) G s2 := by
  have hz := Nxt.freeze hs ids
  have hsome : ∀ id b, s2 id = some b → id ∉ ids ∧ st id = some b ∧ upd st (voids ids) id = some b := fun id b hb => by
    rw [h2] at hb
    by_cases hi : id ∈ ids
    · rw [if_pos hi] at hb; cases hb
    · rw [if_neg hi] at hb
      exact ⟨hi, hb, by rw [upd_voids, if_neg hi, hb]⟩
  have hlv : ∀ id k, live s2 id k → live (upd st (voids ids)) id k := fun id k h => by
    obtain ⟨b, hb⟩ := live_some h
    exact (live_eq (hb.trans (hsome id b hb).2.2.symm)).1 h
  exact ⟨⟨hz.sim.sub, fun id b hb => hz.sim.blk id b (hsome id b hb).2.2, fun id k E h => hz.sim.off id k E (hlv id k h), fun id k E id' k' E' h1 h2 => hz.sim.dis id k E id' k' E' (hlv _ _ h1) (hlv _ _ h2)⟩, rfl, rfl, rfl, Nat.le_refl _, fun _ _ _ => rfl, fun b ⟨id, k, E, q1, q2, q3⟩ => hz.own b ⟨id, k, E, hlv _ _ q1, q2, q3⟩, hz.sb, hz.gh, hz.sbn⟩
section
variable {P : Program} {N : Nat} {Q : XPost} {E : AEnv} {S : ASt} {n : Nat}
theorem a_drop {c : Code} {B : AEnv} {S2 : ASt} (ids : List Nat) (hB : FzE (restr ids (slk S)) E B) (h2 : ∀ id, slk S2 id = if id ∈ ids then none else slk S id) (h : awp P N c Q B S2 n) : awp P N c Q E S n := fun hc => by
  refine vwp_to (ids := ids) (fun w Sb G hs => Nxt.drop hs ids h2) (fun id hs => by rw [h2, hs]; split <;> rfl) (by rw [toL_length, toL_length]) (fun i v v' a b => ?_) (h hc)
  have hi' : i < N := by have := (List.getElem?_eq_some_iff.1 a).1; rwa [toL_length] at this
  rw [toL_at hi'] at a b
  cases a
  cases b
  exact hB.at i
end
inductive SameG (ks : List Nat) (N : Nat) : ASt → ASt → Prop where
  | refl (S : ASt) : SameG ks N S S
  | cons {p : Nat × Option Blk} {S' S : ASt} (h : (ks.contains p.1 || Nat.ble N p.1) = true) (hr : SameG ks N S' S) : SameG ks N (p :: S') S
  | app {p : Nat × Option Blk} {C S' S : ASt} (h : (ks.contains p.1 || Nat.ble N p.1) = true) (hr : SameG ks N (C ++ S') S) : SameG ks N ((p :: C) ++ S') S
theorem SameG.at {ks : List Nat} {N : Nat} {S' S : ASt} (h : SameG ks N S' S) : ∀ id, id < N → id ∉ ks → slk S' id = slk S id := by
  have key : ∀ {p : Nat × Option Blk} {S' : ASt} {id : Nat}, (ks.contains p.1 || Nat.ble N p.1) = true → id < N → id ∉ ks → slk (p :: S') id = slk S' id := fun {p S' id} h hid hk => by
    have hp : p.1 ≠ id := by
      rintro rfl
      rw [Bool.or_eq_true] at h
      rcases h with q | q
      · exact hk (by simpa using q)
      · have : N ≤ p.1 := by simpa [Nat.ble_eq] using q
        omega
    simp [slk, beq_no hp]
  induction h with
  | refl S => exact fun _ _ _ => rfl
  | cons h _ ih => exact fun id hid hk => (key h hid hk).trans (ih id hid hk)
  | app h _ ih => exact fun id hid hk => (key h hid hk).trans (ih id hid hk)
theorem SameG.same {ks : List Nat} {N : Nat} {S' S : ASt} (h : SameG ks N S' S) : SameS ks S' S N := SameS_of h.at
theorem InS.app {H S : ASt} : ∀ {C : ASt}, InS (H ++ S) C → H.all (fun p => (C.map (·.1)).contains p.1) = true → ∀ id, slk (C ++ S) id = slk (H ++ S) id := fun {C} h hH id => by
  have key : ∀ {C : ASt}, InS (H ++ S) C → id ∈ C.map (·.1) → slk C id = slk (H ++ S) id := fun {C} h hm => by
    induction C with
    | nil => simp at hm
    | cons p r ih =>
      by_cases hp : p.1 = id
      · subst hp
        have hl : slk (p :: r) p.1 = p.2 := by simp [slk]
        rw [hl]
        exact h.1.symm
      · have hl : slk (p :: r) id = slk r id := by simp [slk, beq_no hp]
        rw [hl]
        exact ih h.2 (by simpa [Ne.symm hp] using hm)
  by_cases hm : id ∈ C.map (·.1)
  · rw [slk_app.1 hm]; exact key h hm
  · rw [slk_app.2 hm]
    refine (slk_app.2 fun q => hm ?_).symm
    obtain ⟨p, hp, rfl⟩ := List.mem_map.1 q
    have := List.all_eq_true.1 hH p hp
    simpa using this
section
variable {P : Program} {N : Nat} {Q : XPost} {E : AEnv} {S : ASt} {n : Nat}
theorem a_loopG {c : Code} {σ : Type} (K : Nat) {B : AEnv} (kept : List Nat) (chg : σ → AEnv) (cx : σ → ASt) (ok : σ → Prop) (μ : σ → Nat) (x0 : σ) (h0 : ok x0)
    (round : ∀ x, ok x → awp P N c (thenA (NextQ (n + K) S B chg cx ok μ x) Q) (chg x ++ B) (cx x ++ S) (n + K))
    (hB : KeepE E kept B := by repeat' (first | exact KeepE.nil | exact FV.int | exact FV.list | exact FV.row | exact FV.bool | exact FV.agg | exact FV.nil | exact FV.ptr | exact FV.iptr | exact FV.str | exact FV.map | exact FV.tuple | exact FV.func | exact FV.nrow | apply KeepE.cons)) (hE : AllE E (chg x0) := by repeat' (first | exact trivial | refine And.intro rfl ?_)) (hS : InS (holes n K ++ S) (cx x0) := by repeat' (first | exact trivial | refine And.intro rfl ?_)) (hH : (holes n K).all (fun p => ((cx x0).map (·.1)).contains p.1) = true := by rfl) : awp P N (.loop c) Q E S n :=
  a_loopF K kept chg cx ok μ x0 h0 (InS.app hS hH) round hB hE
end
section
variable {P : Program} {N : Nat} {Q : XPost} {E : AEnv} {S : ASt} {n : Nat}
theorem a_loopH {c : Code} {σ : Type} (K M : Nat) {B : AEnv} (kept : List Nat) (chg : σ → AEnv) (cx : σ → ASt) (ok : σ → Prop) (μ : σ → Nat) (x0 : σ) (h0 : ok x0)
    (hs : ∀ id, slk (cx x0 ++ S) id = slk (holes n K ++ S) id)
    (round : ∀ x, ok x → awp P N c (thenA (NextQ M S B chg cx ok μ x) Q) (chg x ++ B) (cx x ++ S) M)
    (hM : n + K = M := by rfl) (hB : KeepE E kept B := by repeat' (first | exact KeepE.nil | exact FV.int | exact FV.list | exact FV.row | exact FV.bool | exact FV.agg | exact FV.nil | exact FV.ptr | exact FV.iptr | exact FV.str | exact FV.map | exact FV.tuple | exact FV.func | exact FV.nrow | apply KeepE.cons)) (hE : AllE E (chg x0) := by repeat' (first | exact trivial | refine And.intro rfl ?_)) : awp P N (.loop c) Q E S n := by
  subst hM
  exact a_loopF K kept chg cx ok μ x0 h0 hs round hB hE
theorem a_cnt {c : Code} (m : Nat) (h : awp P N c Q E S m) (hm : n = m := by rfl) : awp P N c Q E S n := hm ▸ h
end
def outC (b n : Nat) (g : Nat → Nat) (len : Nat → Nat) : List (List V) := (List.range n).map fun i => [nrow (i + b) (g i) (len i)]
theorem outC_at {b n : Nat} {g len : Nat → Nat} {i : Nat} (h : i < n) : (outC b n g len)[i]? = some [nrow (i + b) (g i) (len i)] := by
  unfold outC
  rw [List.getElem?_map, List.getElem?_range h]
  rfl
theorem outC_zero (b n : Nat) : outC b n (fun _ => 0) (fun _ => 0) = List.replicate n [V.nil] := by
  apply List.ext_getElem?
  intro j
  by_cases hj : j < n
  · rw [outC_at hj, List.getElem?_replicate, if_pos hj]; rfl
  · rw [List.getElem?_eq_none (by simp [outC]; omega), List.getElem?_eq_none (by simp; omega)]
theorem pk_outC {α : Type} {r : Rp α} {s : Store} {T g0 G L0 b n : Nat} {e e2 : TypeId} {g len : Nat → Nat} {L : Nat → Nat} {xs : Nat → List α} (hs : s T = some (.cells e 1 G L0 (outC b n g len))) (hg : (Nat.ble L0 g0 && Nat.ble g0 G) = true) (hr : ∀ i, i < n → s (i + b) = nb e2 r.m (g i) (L i) ((xs i).map r.cells) ∧ len i = (xs i).length ∧ L i ≤ g i) : Pk s (.row T g0 0 n) (r.listR.L ((List.range n).map xs)) := by
  simp only [Bool.and_eq_true, Nat.ble_eq] at hg
  refine .row hs hg (by simp) (fun ds hd => ?_) (fun k j cs ds v u a c d q => ?_)
  · obtain ⟨y, _, rfl⟩ := List.mem_map.1 hd
    exact ⟨(r.listR.ok y).1, fun v hv => ((r.listR.ok y).2 v hv).2⟩
  · rw [Nat.zero_add] at a
    have hk : k < n := by have := (List.getElem?_eq_some_iff.1 a).1; simpa [outC] using this
    rw [outC_at hk] at a
    cases a
    rw [List.getElem?_map, List.getElem?_map, List.getElem?_range hk] at c
    cases c
    obtain ⟨h1, h2, h3⟩ := hr k hk
    cases j with
    | succ j => simp at d
    | zero =>
      cases d
      cases q
      rw [h2]
      exact pk_nrow h1 (ble2 h3) rfl rfl
inductive Pass (b K x : Nat) : ASt → ASt → Prop where
  | refl (S : ASt) : Pass b K x S S
  | cons {p : Nat × Option Blk} {S' S : ASt} (h : (Nat.blt p.1 b || Nat.ble (b + K) p.1) = true) (hr : Pass b K x S' S) : Pass b K x (p :: S') S
  | here {y : Option Blk} {S' S : ASt} (hr : Pass b K x S' S) : Pass b K x ((x, y) :: S') S
theorem Pass.fam {b K x j : Nat} {S' T : ASt} {f : Nat → Option Blk} (h : Pass b K x S' (fam b K f ++ T)) (hj : j < K) (hx : j + b ≠ x) : slk S' (j + b) = f j := by
  have key : ∀ {A S : ASt}, Pass b K x A S → slk A (j + b) = slk S (j + b) := fun {A S} h1 => by
    clear h
    induction h1 with
    | refl S => rfl
    | @cons p A S h _ ih =>
      simp only [Bool.or_eq_true, Nat.blt_eq, Nat.ble_eq] at h
      have hp : p.1 ≠ j + b := by omega
      simp only [slk, beq_no hp, cond_false]
      exact ih
    | here _ ih =>
      simp only [slk, beq_no (Ne.symm hx), cond_false]
      exact ih
  rw [key h, slk_fam hj]
theorem fam_all {b K id : Nat} {cx : ASt} {f : Nat → Option Blk} (h : id < b + K) (hc : ∀ i, i < b → i ∈ cx.map (·.1)) : id ∈ (cx ++ fam b K f).map (·.1) := by
  rw [List.map_append, List.mem_append, fam_mem]
  by_cases q : b ≤ id
  · exact .inr ⟨q, h⟩
  · exact .inl (hc id (by omega))
theorem rnx_outC {N b n i : Nat} {f : Nat → Nat → Option (Nat × Nat)} {s : Store} {D : Nat → Prop} {g len g' len' : Nat → Nat} {v : V} (hi : i < n) (hb : b + n ≤ N) (ho : ∀ j, j ≠ i → g' j = g j ∧ len' j = len j) (hv : Rn N f s D v (nrow (i + b) (g' i) (len' i))) : RnX N f s D ((outC b n g len).set i [v]) (outC b n g' len') := by
  have hl : ∀ g len, (outC b n g len).length = n := fun g len => by simp [outC]
  refine ⟨by rw [List.length_set, hl, hl], fun j cs ds h1 h2 => ?_⟩
  have hj : j < n := by have := (List.getElem?_eq_some_iff.1 h2).1; rwa [hl] at this
  rw [outC_at hj] at h2
  cases h2
  rw [List.getElem?_set] at h1
  by_cases hij : i = j
  · subst hij
    rw [if_pos rfl, if_pos (by rw [hl]; exact hi)] at h1
    cases h1
    exact ⟨rfl, fun v hv => by obtain rfl := List.mem_singleton.1 hv; exact nrow_one, fun q a c h3 h4 => by
      cases q with
      | succ q => simp at h3
      | zero => cases h3; cases h4; exact hv⟩
  · rw [if_neg hij, outC_at hj] at h1
    cases h1
    obtain ⟨e1, e2⟩ := ho j (fun q => hij q.symm)
    rw [e1, e2]
    exact ⟨rfl, fun v hv => by obtain rfl := List.mem_singleton.1 hv; exact nrow_one, fun q a c h3 h4 => by
      cases q with
      | succ q => simp at h3
      | zero => cases h3; cases h4; exact rn_nrows (by simp only [Nat.blt_eq]; omega)⟩
theorem loop_fam {n K : Nat} {C S : ASt} {f : Nat → Option Blk} (hf : ∀ i, i < K → f i = some .hole) (hC : InS S C) (ho : outF n K (C.map (·.1)) = true) (id : Nat) : slk ((C ++ fam n K f) ++ S) id = slk (holes n K ++ S) id := by
  have hout : ∀ i ∈ C.map (·.1), i < n ∨ n + K ≤ i := fun i hi => by
    have := List.all_eq_true.1 ho i hi
    simpa [Bool.or_eq_true, Nat.blt_eq, Nat.ble_eq] using this
  rw [holes_fam, List.append_assoc]
  by_cases hm : id ∈ C.map (·.1)
  · rw [slk_app.1 hm, slk_fam_ne (hout id hm)]
    have := InS.app (H := []) (S := S) (C := C) hC (by rfl) id
    rw [slk_app.1 hm] at this
    exact this
  · rw [slk_app.2 hm]
    by_cases h : n ≤ id ∧ id < n + K
    · obtain ⟨i, rfl⟩ : ∃ i, id = i + n := ⟨id - n, by omega⟩
      rw [slk_fam (by omega), slk_fam (by omega), hf i (by omega)]
    · rw [slk_fam_ne (by omega), slk_fam_ne (by omega)]
theorem slk_here {id : Nat} {b : Option Blk} {S : ASt} : slk ((id, b) :: S) id = b := by simp [slk]
theorem restr_in {ids : List Nat} {s : Store} {id : Nat} (h : id ∈ ids) : restr ids s id = s id := by
  unfold restr
  rw [show ids.contains id = true by simpa using h]
  rfl
theorem rnx_same {N b n : Nat} {f : Nat → Nat → Option (Nat × Nat)} {s : Store} {D : Nat → Prop} {g len : Nat → Nat} (hb : b + n ≤ N) : RnX N f s D (outC b n g len) (outC b n g len) := by
  have hl : (outC b n g len).length = n := by simp [outC]
  refine ⟨rfl, fun j cs ds h1 h2 => ?_⟩
  have hj : j < n := by have := (List.getElem?_eq_some_iff.1 h2).1; rwa [hl] at this
  rw [outC_at hj] at h1 h2
  cases h1
  cases h2
  exact ⟨rfl, fun v hv => by obtain rfl := List.mem_singleton.1 hv; exact nrow_one, fun q a c h3 h4 => by
    cases q with
    | succ q => simp at h3
    | zero => cases h3; cases h4; exact rn_nrows (by simp only [Nat.blt_eq]; omega)⟩
theorem pk_boxw {s : Store} {α : Type} {r : Rp α} {x : α} {id g m G L : Nat} {e : TypeId} (hs : s id = some (.cells e m G L [r.cells x])) (hg : (Nat.ble L g && Nat.ble g G) = true) (hm : r.m = m) : Pk s (.ptr id g 0 0) (.iptr (r.cells x)) := by
  simp only [Bool.and_eq_true, Nat.ble_eq] at hg
  refine .ptr hs hg rfl (by rw [(r.ok x).1, Nat.add_zero]; exact hm) (fun v hv => ((r.ok x).2 v hv).2) fun j a b h1 h2 => ?_
  rw [Nat.zero_add] at h1
  rw [h1] at h2
  cases h2
  exact .keep ((r.ok x).2 a (List.mem_of_getElem? h1)).1
theorem fam_cons_ne {p : Nat × Option Blk} {S' : ASt} {id : Nat} (h : p.1 ≠ id) : slk (p :: S') id = slk S' id := by simp [slk, beq_no h]
theorem Rp.vip {α : Type} (r : Rp α) (n : Nat) (a : α) : Vlt n (.iptr (r.cells a)) := .iptr fun v hv => ((r.ok a).2 v hv).1.mono (Nat.zero_le n)
theorem rn_iptr {α : Type} {r : Rp α} {N : Nat} {f : Nat → Nat → Option (Nat × Nat)} {s : Store} {D : Nat → Prop} {x y : α} (h : x = y) : Rn N f s D (.iptr (r.cells x)) (.iptr (r.cells y)) := h ▸ .keep (r.vip N x)
theorem ar_pi {P : Program} {N : Nat} {ops : Array Oper} {m : Bool} {K : APost} {l : List Oper} {E : AEnv} {S : ASt} {n d : Nat} {f : FuncId} {cargs : Array Operand} {ts : Array TypeId} {ty : TypeId} {pos : String} {aft : Array Edge} {args : List V} {v : V} (h : VPure P f args v) (K' : arun P N ops m K l ((d, v) :: E) S n) (hx : cargs.toList.map (aev E) = args := by rfl) (ha : VltL args := by repeat' first | exact trivial | exact Vlt.int _ _ | exact Rp.lt _ _ _ _ | exact Rp.agg _ _ _ | exact Rp.vip _ _ _ | exact Vlt.bool _ | exact Vlt.str _ | exact Vlt.nil | refine And.intro ?_ ?_) (hp : plainFunc P f = true := by kernel_rfl) : arun P N ops m K (⟨some d, .call ⟨.value (.func f), cargs, ts⟩, ty, pos, aft, none⟩ :: l) E S n :=
  ar_pure h K' hx ha hp
theorem wrap32_in {z : Int} (h1 : -2147483648 ≤ z) (h2 : z ≤ 2147483647) : IntKind.i32.wrap z = z := by
  unfold IntKind.wrap
  simp [IntKind.bits, IntKind.signed]
  omega
section
variable {P : Program} {E : AEnv} {S : ASt} {n : Nat} {t e : TypeId} {x lo hi : Operand} {sz by' : Nat} {ag : Bool} {z : Option V} {ei : TI} [h : TyI P t ⟨.slice e, sz, by', ag, z⟩] [h2 : TyI P e ei]
include h h2
theorem ev_mid {α : Type} {f : α → List V} {xs : List α} {m : Nat} {k k' : IntKind} {l r : Int} (hm : ei.size = m := by rfl) (hx : aev E x = .list m (xs.map f) := by rfl) (hl : aev E lo = .int k l := by rfl) (hr : aev E hi = .int k' r := by rfl) (h0 : 0 ≤ l ∧ l ≤ r ∧ r ≤ xs.length := by omega) : Ev P E S n (.slice t x (some lo) (some hi) none) (.list m (((xs.drop l.toNat).take (r.toNat - l.toNat)).map f)) S n := ev_slice_of (h := h) (h2 := h2) hx (by
  subst hm
  simp only [Option.map_some, hl, hr, vslice, if_true, bnd, List.length_map]
  rw [if_pos ⟨h0.1, h0.2.1, h0.2.2, trivial⟩]
  simp [List.map_take, List.map_drop])
end
end Go.Vm
namespace Go.Vm
open Go.RowKit
def FzC (s : Store) (cs ds : List V) : Prop := cs.length = ds.length ∧ (∀ v ∈ ds, v.one = true) ∧ ∀ (j : Nat) (v u : V), cs[j]? = some v → ds[j]? = some u → u = v ∨ Pk s v u
theorem FzC.nil {s : Store} : FzC s [] [] := ⟨rfl, by simp, fun j v u h => by simp at h⟩
theorem FzC.cons {s : Store} {v u : V} {cs ds : List V} (h : u = v ∨ Pk s v u) (hu : u.one = true) (hr : FzC s cs ds) : FzC s (v :: cs) (u :: ds) := ⟨by simp [hr.1], fun x hx => by
  rcases List.mem_cons.1 hx with rfl | hx
  · exact hu
  · exact hr.2.1 x hx, fun j a b h1 h2 => by
  cases j with
  | zero => cases h1; cases h2; exact h
  | succ j => exact hr.2.2 j a b (by simpa using h1) (by simpa using h2)⟩
theorem FzC.same {s : Store} {cs : List V} (h : cs.all V.one = true) : FzC s cs cs := ⟨rfl, fun v hv => List.all_eq_true.1 h v hv, fun j v u a b => by rw [a] at b; cases b; exact .inl rfl⟩
theorem FzC.app {s : Store} {cs ds cs' ds' : List V} (h : FzC s cs ds) (h' : FzC s cs' ds') : FzC s (cs ++ cs') (ds ++ ds') := by
  refine ⟨by simp [h.1, h'.1], fun v hv => (List.mem_append.1 hv).elim (h.2.1 v) (h'.2.1 v), fun j v u a b => ?_⟩
  rcases Nat.lt_or_ge j cs.length with hj | hj
  · rw [List.getElem?_append_left hj] at a
    rw [List.getElem?_append_left (by rw [← h.1]; exact hj)] at b
    exact h.2.2 j v u a b
  · rw [List.getElem?_append_right hj] at a
    rw [List.getElem?_append_right (by rw [← h.1]; exact hj), ← h.1] at b
    exact h'.2.2 _ v u a b
theorem Nxt.dropB {w : World} {Sb : Nat → Prop} {G : Gh} {st s2 : Store} (hs : WSim w Sb G st) (ids : List Nat) {M m g L : Nat} {e : TypeId} {cs ds : List V} (hM : st M = some (.cells e m g L [cs])) (hMi : M ∉ ids) (hx : FzC (restr ids st) cs ds) (h2 : ∀ id, s2 id = if id ∈ ids then none else if id = M then some (.cells e m g L [ds]) else st id) : Nxt w Sb G st w (fun b => Sb b ∨ Own (restr ids st) G b) G s2 := by
  have hz := Nxt.drop hs ids (s2 := fun id => if id ∈ ids then none else st id) (fun _ => rfl)
  have hlv : ∀ id k, live s2 id k → live (fun id => if id ∈ ids then none else st id) id k := fun id k h => by
    by_cases hi : id = M
    · subst hi
      have h1 : s2 id = some (.cells e m g L [ds]) := by rw [h2, if_neg hMi, if_pos rfl]
      have h3 : (fun id => if id ∈ ids then none else st id) id = some (.cells e m g L [cs]) := by simp only; rw [if_neg hMi, hM]
      exact (live_cells h3).2 ((live_cells h1).1 h)
    · have h1 : s2 id = (fun id => if id ∈ ids then none else st id) id := by
        rw [h2, if_neg hi]
      exact (live_eq h1).1 h
  refine ⟨⟨hz.sim.sub, fun id b hb => ?_, fun id k E h => hz.sim.off id k E (hlv id k h), fun id k E id' k' E' h1 h2 => hz.sim.dis id k E id' k' E' (hlv _ _ h1) (hlv _ _ h2)⟩, rfl, rfl, rfl, Nat.le_refl _, fun _ _ _ => rfl, fun b ⟨id, k, E, q1, q2, q3⟩ => hz.own b ⟨id, k, E, hlv _ _ q1, q2, q3⟩, hz.sb, hz.gh, hz.sbn⟩
  by_cases hi : id = M
  · subst hi
    rw [h2, if_neg hMi, if_pos rfl] at hb
    cases hb
    obtain ⟨q1, q2, q3, q4, q5, q6⟩ := hs.blk id _ hM
    refine ⟨q1, q2, fun ds' hd => ?_, fun k a b => ?_, fun E hE => q5 E hE, q6⟩
    · obtain rfl := List.mem_singleton.1 hd
      exact ⟨by rw [← hx.1]; exact (q3 cs (by simp)).1, hx.2.1⟩
    · obtain ⟨E, r1, cur, t1, t2, t3, t4, t5, t6, t7⟩ := q4 k a b
      refine ⟨E, r1, cur, t1, t2, t3, t4, t5, by simpa using t6, fun i ds' j v hi h3 h4 => ?_⟩
      have hi0 : i = 0 := by have := (List.getElem?_eq_some_iff.1 h3).1; simp at this; omega
      subst hi0
      simp only [List.getElem?_cons_zero, Option.some.injEq] at h3
      subst h3
      have hjl : j < cs.length := by rw [hx.1]; exact (List.getElem?_eq_some_iff.1 h4).1
      obtain ⟨u, y1, y2⟩ := t7 0 cs j _ hi rfl (List.getElem?_eq_getElem hjl)
      refine ⟨u, y1, ?_⟩
      rcases hx.2.2 j _ v (List.getElem?_eq_getElem hjl) h4 with rfl | hp
      · exact y2.mono (fun _ _ => rfl) (fun _ h => .inl h) (fun _ _ _ h => h)
      · exact (hp.rv (hs.restr ids) y2).mono (fun _ _ => rfl) (fun _ h => h) (fun _ _ _ h => nomatch h)
  · exact hz.sim.blk id b (by rw [h2, if_neg hi] at hb; exact hb)
section
variable {P : Program} {N : Nat} {Q : XPost} {E : AEnv} {S : ASt} {n : Nat}
theorem a_dropB {c : Code} {B : AEnv} {S2 : ASt} (ids : List Nat) {M m g L : Nat} {e : TypeId} {cs : List V} (ds : List V) (hM : slk S M = some (.cells e m g L [cs])) (hMi : M ∉ ids) (hx : FzC (restr ids (slk S)) cs ds) (hB : FzE (restr ids (slk S)) E B) (h2 : ∀ id, slk S2 id = if id ∈ ids then none else if id = M then some (.cells e m g L [ds]) else slk S id) (h : awp P N c Q B S2 n) : awp P N c Q E S n := fun hc => by
  refine vwp_to (ids := ids) (fun w Sb G hs => Nxt.dropB hs ids hM hMi hx h2) (fun id hs => by
    rw [h2]
    split
    · rfl
    · split
      · rename_i hq
        subst hq
        rw [hM] at hs
        cases hs
      · exact hs) (by rw [toL_length, toL_length]) (fun i v v' a b => ?_) (h hc)
  have hi' : i < N := by have := (List.getElem?_eq_some_iff.1 a).1; rwa [toL_length] at this
  rw [toL_at hi'] at a b
  cases a
  cases b
  exact hB.at i
end
end Go.Vm
namespace Go.Um
structure Span where
  lo : Int
  hi : Int
  deriving DecidableEq
structure Part where
  at_ : Int
  drop : Int
  take : Int
  up : Int
  deriving DecidableEq
structure Term where
  base : Int
  drop : Int
  take : Int
  up : Int
  sum : Int
  parts : List Part
  deriving DecidableEq
structure Rule where
  src : Int
  dst : Int
  guards : List (List Span)
  eat : Int
  out : List Term
  deriving DecidableEq
structure Final where
  src : Int
  guards : List (List Span)
  out : List Term
  deriving DecidableEq
structure Desc where
  inn : Int
  out : Int
  states : Int
  start : Int
  rules : List Rule
  finals : List Final
  deriving DecidableEq
end Go.Um
namespace Go.Um
def Span.has (s : Span) (x : Int) : Prop := s.lo ≤ x ∧ x ≤ s.hi
def mem (l : List Span) (x : Int) : Prop := ∃ s ∈ l, s.lo ≤ x ∧ x ≤ s.hi
def inSet (l : List Span) (x : Int) : Prop := (-1073741824 ≤ x ∧ x ≤ 1073741824) ∧ mem l x
def hasB (l : List Span) (x : Int) : Bool := l.any fun s => decide (s.lo ≤ x) && decide (x ≤ s.hi)
theorem hasB_iff (l : List Span) (x : Int) : hasB l x = true ↔ mem l x := by
  simp [hasB, mem]
def plainFrom (last : Int) : List Span → Bool
  | [] => true
  | s :: r => if s.hi < s.lo ∨ s.lo < -1073741824 ∨ 1073741824 < s.hi ∨ s.lo ≤ last + 1 then false else plainFrom s.hi r
def plain (l : List Span) : Bool := plainFrom (-1073741826) l
theorem plainFrom_cons {last : Int} {s : Span} {r : List Span} : plainFrom last (s :: r) = true ↔ (s.lo ≤ s.hi ∧ -1073741824 ≤ s.lo ∧ s.hi ≤ 1073741824 ∧ last + 1 < s.lo) ∧ plainFrom s.hi r = true := by
  show (if s.hi < s.lo ∨ s.lo < -1073741824 ∨ 1073741824 < s.hi ∨ s.lo ≤ last + 1 then false else plainFrom s.hi r) = true ↔ _
  by_cases h : s.hi < s.lo ∨ s.lo < -1073741824 ∨ 1073741824 < s.hi ∨ s.lo ≤ last + 1
  · simp only [h, if_true]
    constructor
    · intro h'; cases h'
    · rintro ⟨h', _⟩; omega
  · simp only [h, if_false]
    constructor
    · intro h'; exact ⟨by omega, h'⟩
    · intro h'; exact h'.2
theorem mem_cons {s : Span} {r : List Span} {x : Int} : mem (s :: r) x ↔ (s.lo ≤ x ∧ x ≤ s.hi) ∨ mem r x := by simp [mem]
theorem mem_nil {x : Int} : ¬ mem [] x := by simp [mem]
theorem mem_append {a b : List Span} {x : Int} : mem (a ++ b) x ↔ mem a x ∨ mem b x := by
  simp only [mem, List.mem_append]
  constructor
  · rintro ⟨s, h | h, h'⟩
    · exact .inl ⟨s, h, h'⟩
    · exact .inr ⟨s, h, h'⟩
  · rintro (⟨s, h, h'⟩ | ⟨s, h, h'⟩)
    · exact ⟨s, .inl h, h'⟩
    · exact ⟨s, .inr h, h'⟩
theorem plainFrom_bound {last : Int} {l : List Span} (h : plainFrom last l = true) {x : Int} (hx : mem l x) : last + 1 < x ∧ -1073741824 ≤ x ∧ x ≤ 1073741824 := by
  induction l generalizing last with
  | nil => exact absurd hx mem_nil
  | cons s r ih =>
    obtain ⟨h1, h2⟩ := plainFrom_cons.1 h
    rcases mem_cons.1 hx with h3 | h3
    · omega
    · have := ih h2 h3; omega
theorem plainFrom_mono {last last' : Int} {l : List Span} (h : plainFrom last l = true) (hl : last' ≤ last) : plainFrom last' l = true := by
  cases l with
  | nil => rfl
  | cons s r =>
    obtain ⟨h1, h2⟩ := plainFrom_cons.1 h
    exact plainFrom_cons.2 ⟨by omega, h2⟩
theorem plainFrom_unique {la lb : Int} {a b : List Span} (ha : plainFrom la a = true) (hb : plainFrom lb b = true) (h : ∀ x, mem a x ↔ mem b x) : a = b := by
  induction a generalizing la lb b with
  | nil =>
    cases b with
    | nil => rfl
    | cons t u =>
      obtain ⟨h1, _⟩ := plainFrom_cons.1 hb
      exact absurd ((h t.lo).2 (mem_cons.2 (.inl ⟨Int.le_refl _, h1.1⟩))) mem_nil
  | cons s r ih =>
    obtain ⟨a1, a2⟩ := plainFrom_cons.1 ha
    cases b with
    | nil => exact absurd ((h s.lo).1 (mem_cons.2 (.inl ⟨Int.le_refl _, a1.1⟩))) mem_nil
    | cons t u =>
      obtain ⟨b1, b2⟩ := plainFrom_cons.1 hb
      have lo1 : t.lo ≤ s.lo := by
        rcases mem_cons.1 ((h s.lo).1 (mem_cons.2 (.inl ⟨Int.le_refl _, a1.1⟩))) with h3 | h3
        · exact h3.1
        · have := plainFrom_bound b2 h3; omega
      have lo2 : s.lo ≤ t.lo := by
        rcases mem_cons.1 ((h t.lo).2 (mem_cons.2 (.inl ⟨Int.le_refl _, b1.1⟩))) with h3 | h3
        · exact h3.1
        · have := plainFrom_bound a2 h3; omega
      have hi1 : t.hi ≤ s.hi := by
        by_cases hh : t.hi ≤ s.hi
        · exact hh
        · exfalso
          rcases mem_cons.1 ((h (s.hi + 1)).2 (mem_cons.2 (.inl ⟨by omega, by omega⟩))) with h3 | h3
          · omega
          · have := plainFrom_bound a2 h3; omega
      have hi2 : s.hi ≤ t.hi := by
        by_cases hh : s.hi ≤ t.hi
        · exact hh
        · exfalso
          rcases mem_cons.1 ((h (t.hi + 1)).1 (mem_cons.2 (.inl ⟨by omega, by omega⟩))) with h3 | h3
          · omega
          · have := plainFrom_bound b2 h3; omega
      obtain ⟨slo, shi⟩ := s
      obtain ⟨tlo, thi⟩ := t
      simp only at *
      obtain rfl : slo = tlo := by omega
      obtain rfl : shi = thi := by omega
      congr 1
      refine ih a2 b2 fun x => ⟨fun hx => ?_, fun hx => ?_⟩
      · have := plainFrom_bound a2 hx
        rcases mem_cons.1 ((h x).1 (mem_cons.2 (.inr hx))) with h3 | h3
        · simp only at h3; omega
        · exact h3
      · have := plainFrom_bound b2 hx
        rcases mem_cons.1 ((h x).2 (mem_cons.2 (.inr hx))) with h3 | h3
        · simp only at h3; omega
        · exact h3
theorem plain_unique {a b : List Span} (ha : plain a = true) (hb : plain b = true) (h : ∀ x, mem a x ↔ mem b x) : a = b := plainFrom_unique ha hb h
def okS (s : Span) : Prop := s.lo ≤ s.hi ∧ -1073741824 ≤ s.lo ∧ s.hi ≤ 1073741824
theorem plainFrom_ok {last : Int} {l : List Span} (h : plainFrom last l = true) : ∀ s ∈ l, okS s := by
  induction l generalizing last with
  | nil => intro s hs; cases hs
  | cons a b ih =>
    obtain ⟨k1, k2⟩ := plainFrom_cons.1 h
    intro s hs
    rcases List.mem_cons.1 hs with rfl | hs
    · exact ⟨k1.1, k1.2.1, k1.2.2.1⟩
    · exact ih k2 s hs
/-! ### Norm -/
def clampS (s : Span) : Option Span := if max s.lo (-1073741824) ≤ min s.hi 1073741824 then some ⟨max s.lo (-1073741824), min s.hi 1073741824⟩ else none
def clampL (l : List Span) : List Span := l.filterMap clampS
def joinStep (out : List Span) (x : Span) : List Span :=
  match out.getLast? with
  | some t => if x.lo ≤ t.hi + 1 then out.dropLast ++ [⟨t.lo, max t.hi x.hi⟩] else out ++ [x]
  | none => out ++ [x]
def joinL (out : List Span) : List Span → List Span
  | [] => out
  | x :: r => joinL (joinStep out x) r
def insertLo (x : Span) : List Span → List Span
  | [] => [x]
  | y :: r => if x.lo ≤ y.lo then x :: y :: r else y :: insertLo x r
def sortLo : List Span → List Span
  | [] => []
  | x :: r => insertLo x (sortLo r)
def normF (l : List Span) : List Span := joinL [] (sortLo (clampL l))
theorem mem_clampL {l : List Span} {x : Int} : mem (clampL l) x ↔ inSet l x := by
  induction l with
  | nil => simp [clampL, mem, inSet]
  | cons s r ih =>
    have e : clampL (s :: r) = (match clampS s with | some t => [t] | none => []) ++ clampL r := by
      unfold clampL
      rw [List.filterMap_cons]
      cases clampS s <;> rfl
    rw [e, mem_append, ih]
    unfold inSet
    rw [mem_cons]
    unfold clampS
    split
    · rename_i t ht
      split at ht
      · cases ht
        simp only [mem_cons, mem_nil, or_false]
        by_cases hm : mem r x <;> simp only [hm, or_true, or_false, and_true, and_false] <;> omega
      · cases ht
    · rename_i ht
      split at ht
      · cases ht
      · simp only [mem_nil, false_or]
        by_cases hm : mem r x <;> simp only [hm, or_true, or_false, and_true, and_false, iff_self, false_iff] <;> omega
theorem clampL_ok {l : List Span} : ∀ s ∈ clampL l, okS s := by
  intro s hs
  simp only [clampL, List.mem_filterMap] at hs
  obtain ⟨t, _, ht⟩ := hs
  unfold clampS at ht
  split at ht
  · cases ht
    unfold okS
    simp only
    omega
  · cases ht
theorem mem_perm {a b : List Span} (h : a.Perm b) {x : Int} : mem a x ↔ mem b x := by
  simp only [mem, h.mem_iff]
theorem insertLo_perm (x : Span) (l : List Span) : (insertLo x l).Perm (x :: l) := by
  induction l with
  | nil => exact .refl _
  | cons y r ih =>
    unfold insertLo
    split
    · exact .refl _
    · exact (ih.cons y).trans (.swap x y r)
theorem sortLo_perm (l : List Span) : (sortLo l).Perm l := by
  induction l with
  | nil => exact .refl _
  | cons x r ih => exact (insertLo_perm x _).trans (ih.cons x)
def SortedLo (l : List Span) : Prop := l.Pairwise fun a b => a.lo ≤ b.lo
theorem insertLo_sorted {x : Span} {l : List Span} (h : SortedLo l) : SortedLo (insertLo x l) := by
  induction l with
  | nil => simp [insertLo, SortedLo]
  | cons y r ih =>
    unfold insertLo
    have h' := List.pairwise_cons.1 h
    split
    · refine List.pairwise_cons.2 ⟨fun z hz => ?_, h⟩
      rcases List.mem_cons.1 hz with rfl | hz
      · assumption
      · have := h'.1 z hz; omega
    · refine List.pairwise_cons.2 ⟨fun z hz => ?_, ih h'.2⟩
      rcases List.mem_cons.1 ((insertLo_perm x r).mem_iff.1 hz) with rfl | hz
      · omega
      · exact h'.1 z hz
theorem sortLo_sorted (l : List Span) : SortedLo (sortLo l) := by
  induction l with
  | nil => exact .nil
  | cons x r ih => exact insertLo_sorted ih
theorem plainFrom_snoc {last : Int} {out : List Span} {x : Span} (h : plainFrom last out = true) (hx : okS x) (hl : last + 1 < x.lo) (hg : ∀ t, out.getLast? = some t → t.hi + 1 < x.lo) : plainFrom last (out ++ [x]) = true := by
  induction out generalizing last with
  | nil => unfold okS at hx; exact plainFrom_cons.2 ⟨by omega, rfl⟩
  | cons s r ih =>
    obtain ⟨h1, h2⟩ := plainFrom_cons.1 h
    refine plainFrom_cons.2 ⟨h1, ?_⟩
    cases r with
    | nil => exact ih h2 (hg s rfl) (by simp)
    | cons t u =>
      refine ih h2 ?_ (fun t' ht' => hg t' (by simpa [List.getLast?_cons_cons] using ht'))
      cases hq : (t :: u).getLast? with
      | none => simp at hq
      | some q =>
        have h3 := hg q (by simpa [List.getLast?_cons_cons] using hq)
        have hm : mem (t :: u) q.hi := by
          have hin := List.mem_of_getLast? hq
          refine ⟨q, hin, ?_, Int.le_refl _⟩
          have hq' : okS q := plainFrom_ok h2 q hin
          exact hq'.1
        have := plainFrom_bound h2 hm
        omega
theorem plainFrom_grow {last : Int} {out : List Span} {t : Span} {hi : Int} (h : plainFrom last (out ++ [t]) = true) (h1 : t.hi ≤ hi) (h2 : hi ≤ 1073741824) : plainFrom last (out ++ [⟨t.lo, hi⟩]) = true := by
  induction out generalizing last with
  | nil =>
    obtain ⟨k1, _⟩ := plainFrom_cons.1 h
    exact plainFrom_cons.2 ⟨⟨by simp only; omega, by simp only; omega, by simp only; omega, by simp only; omega⟩, rfl⟩
  | cons s r ih =>
    obtain ⟨k1, k2⟩ := plainFrom_cons.1 h
    exact plainFrom_cons.2 ⟨k1, ih k2⟩
theorem joinStep_spec {out : List Span} {x : Span} (h : plain out = true) (hx : okS x) (hlo : ∀ t, out.getLast? = some t → t.lo ≤ x.lo) :
    plain (joinStep out x) = true ∧ (∀ y, mem (joinStep out x) y ↔ mem out y ∨ (x.lo ≤ y ∧ y ≤ x.hi)) ∧ (∀ t, (joinStep out x).getLast? = some t → t.lo ≤ x.lo) := by
  unfold joinStep
  cases hq : out.getLast? with
  | none =>
    have : out = [] := by simpa using hq
    subst this
    simp only [List.nil_append]
    refine ⟨?_, fun y => ?_, fun t ht => ?_⟩
    · unfold okS at hx
      exact plainFrom_cons.2 ⟨by omega, rfl⟩
    · simp [mem]
    · simp at ht; subst ht; exact Int.le_refl _
  | some t =>
    have hlt := hlo t hq
    obtain ⟨ini, rfl⟩ := List.getLast?_eq_some_iff.1 hq
    have hot : okS t := plainFrom_ok h t (by simp)
    simp only [List.dropLast_concat]
    split
    · rename_i hc
      refine ⟨plainFrom_grow h (by omega) ?_, fun y => ?_, fun t' ht' => ?_⟩
      · unfold okS at hx
        have : t.hi ≤ 1073741824 := hot.2.2
        omega
      · have htt : t.lo ≤ t.hi := hot.1
        unfold okS at hx
        simp only [mem_append, mem_cons, mem_nil, or_false, or_assoc]
        constructor
        · rintro (h1 | h1)
          · exact .inl h1
          · omega
        · rintro (h1 | h1)
          · exact .inl h1
          · right; omega
      · simp at ht'; subst ht'; exact hlt
    · rename_i hc
      refine ⟨?_, fun y => ?_, fun t' ht' => ?_⟩
      · refine plainFrom_snoc h hx ?_ (fun t' ht' => ?_)
        · unfold okS at hx; omega
        · rw [hq] at ht'; cases ht'; omega
      · simp only [mem_append, mem_cons, mem_nil, or_false]
      · simp at ht'; subst ht'; exact Int.le_refl _
theorem joinL_spec {r out : List Span} (h : plain out = true) (hr : ∀ s ∈ r, okS s) (hs : SortedLo r) (hlo : ∀ t, out.getLast? = some t → ∀ s ∈ r, t.lo ≤ s.lo) :
    plain (joinL out r) = true ∧ ∀ y, mem (joinL out r) y ↔ mem out y ∨ mem r y := by
  induction r generalizing out with
  | nil => exact ⟨h, fun y => by simp [joinL, mem_nil]⟩
  | cons x r ih =>
    have hp := List.pairwise_cons.1 hs
    obtain ⟨s1, s2, s3⟩ := joinStep_spec h (hr x (List.mem_cons_self ..)) (fun t ht => hlo t ht x (List.mem_cons_self ..))
    obtain ⟨i1, i2⟩ := ih s1 (fun s hs => hr s (List.mem_cons_of_mem _ hs)) hp.2 (fun t ht s hs => by have := s3 t ht; have := hp.1 s hs; omega)
    refine ⟨i1, fun y => ?_⟩
    show mem (joinL (joinStep out x) r) y ↔ _
    rw [i2, s2, mem_cons, or_assoc]
theorem joinL_perm {l m : List Span} (hp : m.Perm (clampL l)) (hs : SortedLo m) : plain (joinL [] m) = true ∧ ∀ y, mem (joinL [] m) y ↔ inSet l y := by
  obtain ⟨h1, h2⟩ := joinL_spec (r := m) (out := []) rfl (fun s h => clampL_ok s (hp.mem_iff.1 h)) hs (by simp)
  refine ⟨h1, fun y => ?_⟩
  rw [h2, mem_perm hp, mem_clampL]
  simp [mem_nil]
theorem normF_plain (l : List Span) : plain (normF l) = true := (joinL_perm (sortLo_perm _) (sortLo_sorted _)).1
theorem mem_normF {l : List Span} {y : Int} : mem (normF l) y ↔ inSet l y := (joinL_perm (sortLo_perm _) (sortLo_sorted _)).2 y
theorem joinL_eq {l m : List Span} (hp : m.Perm (clampL l)) (hs : SortedLo m) : joinL [] m = normF l :=
  plain_unique (joinL_perm hp hs).1 (normF_plain l) fun y => by rw [(joinL_perm hp hs).2, mem_normF]
end Go.Um
namespace Go.Um
def mx (a b : Int) : Int := if a < b then b else a
def mn (a b : Int) : Int := if b < a then b else a
def meetGo : Nat → List Span → List Span → List Span
  | n + 1, x :: xs, y :: ys =>
    if mx x.lo y.lo ≤ mn x.hi y.hi then ⟨mx x.lo y.lo, mn x.hi y.hi⟩ :: (if x.hi < y.hi then meetGo n xs (y :: ys) else meetGo n (x :: xs) ys)
    else (if x.hi < y.hi then meetGo n xs (y :: ys) else meetGo n (x :: xs) ys)
  | _, _, _ => []
def meetF (a b : List Span) : List Span := meetGo ((normF a).length + (normF b).length) (normF a) (normF b)
theorem meetGo_nil_left (n : Nat) (ys : List Span) : meetGo n [] ys = [] := by cases n <;> rfl
theorem meetGo_nil_right (n : Nat) (xs : List Span) : meetGo n xs [] = [] := by cases n <;> cases xs <;> rfl
theorem meetGo_spec {n : Nat} {la lb : Int} {xs ys : List Span} (ha : plainFrom la xs = true) (hb : plainFrom lb ys = true) (hn : xs.length + ys.length ≤ n) :
    plainFrom (mx la lb) (meetGo n xs ys) = true ∧ ∀ z, mem (meetGo n xs ys) z ↔ mem xs z ∧ mem ys z := by
  induction n generalizing la lb xs ys with
  | zero =>
    have h1 : xs = [] := List.eq_nil_of_length_eq_zero (by omega)
    subst h1
    exact ⟨rfl, fun z => by simp [meetGo, mem]⟩
  | succ n ih =>
    cases xs with
    | nil => exact ⟨rfl, fun z => by simp [meetGo, mem]⟩
    | cons x xs =>
      cases ys with
      | nil => exact ⟨rfl, fun z => by simp [meetGo, mem]⟩
      | cons y ys =>
        obtain ⟨a1, a2⟩ := plainFrom_cons.1 ha
        obtain ⟨b1, b2⟩ := plainFrom_cons.1 hb
        have hrest : plainFrom (mx (mx la lb) (mn x.hi y.hi)) (if x.hi < y.hi then meetGo n xs (y :: ys) else meetGo n (x :: xs) ys) = true ∧
            ∀ z, mem (if x.hi < y.hi then meetGo n xs (y :: ys) else meetGo n (x :: xs) ys) z ↔ (mem (x :: xs) z ∧ mem (y :: ys) z) ∧ ¬ (mx x.lo y.lo ≤ z ∧ z ≤ mn x.hi y.hi) := by
          by_cases hc : x.hi < y.hi
          · simp only [hc, if_true]
            obtain ⟨i1, i2⟩ := ih a2 hb (by simp at hn ⊢; omega)
            refine ⟨plainFrom_mono i1 (by unfold mx mn; split <;> split <;> split <;> (try split) <;> omega), fun z => ?_⟩
            rw [i2, mem_cons (s := x)]
            constructor
            · rintro ⟨h1, h2⟩
              have := plainFrom_bound a2 h1
              exact ⟨⟨.inr h1, h2⟩, by unfold mn; split <;> omega⟩
            · rintro ⟨⟨h1 | h1, h2⟩, h3⟩
              · exfalso
                rcases mem_cons.1 h2 with h4 | h4
                · apply h3; unfold mx mn; split <;> split <;> omega
                · have := plainFrom_bound b2 h4; omega
              · exact ⟨h1, h2⟩
          · simp only [hc, if_false]
            obtain ⟨i1, i2⟩ := ih ha b2 (by simp at hn ⊢; omega)
            refine ⟨plainFrom_mono i1 (by unfold mx mn; split <;> split <;> split <;> (try split) <;> omega), fun z => ?_⟩
            rw [i2, mem_cons (s := y)]
            constructor
            · rintro ⟨h1, h2⟩
              have := plainFrom_bound b2 h2
              exact ⟨⟨h1, .inr h2⟩, by unfold mn; split <;> omega⟩
            · rintro ⟨⟨h1, h2 | h2⟩, h3⟩
              · exfalso
                rcases mem_cons.1 h1 with h4 | h4
                · apply h3; unfold mx mn; split <;> split <;> omega
                · have := plainFrom_bound a2 h4; omega
              · exact ⟨h1, h2⟩
        obtain ⟨r1, r2⟩ := hrest
        have e : meetGo (n + 1) (x :: xs) (y :: ys) = if mx x.lo y.lo ≤ mn x.hi y.hi then ⟨mx x.lo y.lo, mn x.hi y.hi⟩ :: (if x.hi < y.hi then meetGo n xs (y :: ys) else meetGo n (x :: xs) ys)
          else (if x.hi < y.hi then meetGo n xs (y :: ys) else meetGo n (x :: xs) ys) := rfl
        rw [e]
        by_cases hc : mx x.lo y.lo ≤ mn x.hi y.hi
        · simp only [if_pos hc]
          refine ⟨plainFrom_cons.2 ⟨⟨hc, ?_, ?_, ?_⟩, plainFrom_mono r1 ?_⟩, fun z => ?_⟩
          · show -1073741824 ≤ mx x.lo y.lo
            unfold mx; split <;> omega
          · show mn x.hi y.hi ≤ 1073741824
            unfold mn; split <;> omega
          · show mx la lb + 1 < mx x.lo y.lo
            unfold mx; split <;> split <;> omega
          · show mn x.hi y.hi ≤ mx (mx la lb) (mn x.hi y.hi)
            generalize mx la lb = p
            unfold mx; split <;> omega
          · rw [mem_cons, r2]
            constructor
            · rintro (h1 | h1)
              · simp only at h1
                refine ⟨mem_cons.2 (.inl ?_), mem_cons.2 (.inl ?_)⟩ <;> (unfold mx mn at h1; split at h1 <;> split at h1 <;> omega)
              · exact h1.1
            · intro h1
              by_cases h2 : mx x.lo y.lo ≤ z ∧ z ≤ mn x.hi y.hi
              · exact .inl h2
              · exact .inr ⟨h1, h2⟩
        · simp only [if_neg hc]
          refine ⟨plainFrom_mono r1 (by generalize mx la lb = p; unfold mx; split <;> omega), fun z => ?_⟩
          rw [r2]
          constructor
          · exact fun h => h.1
          · exact fun h => ⟨h, by omega⟩
theorem meetF_plain (a b : List Span) : plain (meetF a b) = true :=
  plainFrom_mono (meetGo_spec (normF_plain a) (normF_plain b) (Nat.le_refl _)).1 (by decide)
theorem mem_meetF {a b : List Span} {z : Int} : mem (meetF a b) z ↔ inSet a z ∧ inSet b z := by
  rw [meetF, (meetGo_spec (normF_plain a) (normF_plain b) (Nat.le_refl _)).2, mem_normF, mem_normF]
theorem inSet_plain {l : List Span} (h : plain l = true) {z : Int} : inSet l z ↔ mem l z := by
  constructor
  · exact fun h => h.2
  · intro hz
    have := plainFrom_bound h hz
    exact ⟨⟨this.2.1, this.2.2⟩, hz⟩
theorem normF_id {l : List Span} (h : plain l = true) : normF l = l := plain_unique (normF_plain l) h fun x => by rw [mem_normF, inSet_plain h]
theorem plain_nil_iff {l : List Span} (h : plain l = true) : l = [] ↔ ∀ z, ¬ mem l z := by
  constructor
  · rintro rfl z; exact mem_nil
  · intro h'
    cases l with
    | nil => rfl
    | cons s r => exact absurd (mem_cons.2 (.inl ⟨Int.le_refl _, (plainFrom_cons.1 h).1.1⟩)) (h' s.lo)
def gaps (lo : Int) : List Span → List Span
  | [] => [⟨lo, 1073741824⟩]
  | x :: r => ⟨lo, x.lo - 1⟩ :: gaps (x.hi + 1) r
def minusF (a b : List Span) : List Span := meetF a (gaps (-1073741824) (normF b))
theorem mem_gaps {lo : Int} {l : List Span} (h : plainFrom (lo - 2) l = true) {z : Int} (hz : z ≤ 1073741824) : mem (gaps lo l) z ↔ lo ≤ z ∧ ¬ mem l z := by
  induction l generalizing lo with
  | nil => simp [gaps, mem]; omega
  | cons x r ih =>
    obtain ⟨h1, h2⟩ := plainFrom_cons.1 h
    have h2' : plainFrom (x.hi + 1 - 2) r = true := plainFrom_mono h2 (by omega)
    show mem (⟨lo, x.lo - 1⟩ :: gaps (x.hi + 1) r) z ↔ _
    rw [mem_cons, mem_cons, ih h2']
    simp only
    constructor
    · rintro (h3 | h3)
      · refine ⟨h3.1, ?_⟩
        rintro (h4 | h4)
        · omega
        · have := plainFrom_bound h2 h4; omega
      · refine ⟨by omega, ?_⟩
        rintro (h4 | h4)
        · omega
        · exact h3.2 h4
    · rintro ⟨h3, h4⟩
      by_cases h5 : z < x.lo
      · exact .inl (by omega)
      · refine .inr ⟨?_, fun h6 => h4 (.inr h6)⟩
        by_cases h6 : z ≤ x.hi
        · exact absurd (.inl ⟨by omega, h6⟩) h4
        · omega
theorem minusF_plain (a b : List Span) : plain (minusF a b) = true := meetF_plain _ _
theorem mem_minusF {a b : List Span} {z : Int} : mem (minusF a b) z ↔ inSet a z ∧ ¬ inSet b z := by
  rw [minusF, mem_meetF]
  have h0 : plainFrom (-1073741824 - 2) (normF b) = true := normF_plain b
  constructor
  · rintro ⟨h1, h2⟩
    refine ⟨h1, fun h3 => ?_⟩
    exact ((mem_gaps h0 h2.1.2).1 h2.2).2 (mem_normF.2 h3)
  · rintro ⟨h1, h2⟩
    exact ⟨h1, h1.1, (mem_gaps h0 h1.1.2).2 ⟨h1.1.1, fun h3 => h2 (mem_normF.1 h3)⟩⟩
theorem joinStep_length (out : List Span) (x : Span) : (joinStep out x).length ≤ out.length + 1 := by
  unfold joinStep
  split
  · split
    · rename_i h _; obtain ⟨ini, rfl⟩ := List.getLast?_eq_some_iff.1 h; simp
    · simp
  · simp
theorem joinL_length (out r : List Span) : (joinL out r).length ≤ out.length + r.length := by
  induction r generalizing out with
  | nil => simp [joinL]
  | cons x r ih =>
    have h1 := ih (joinStep out x)
    have h2 := joinStep_length out x
    simp only [joinL, List.length_cons]
    omega
theorem normF_length (l : List Span) : (normF l).length ≤ l.length := by
  have h1 := joinL_length [] (sortLo (clampL l))
  have h2 := (sortLo_perm (clampL l)).length_eq
  have h3 : (clampL l).length ≤ l.length := List.length_filterMap_le _ _
  unfold normF
  simp only [List.length_nil] at h1
  omega
theorem meet_yes_left {p q : Span} {ps qs : List Span} (h : mx p.lo q.lo ≤ mn p.hi q.hi) (h' : p.hi < q.hi) : meetGo ((p :: ps).length + (q :: qs).length) (p :: ps) (q :: qs) = ⟨mx p.lo q.lo, mn p.hi q.hi⟩ :: meetGo (ps.length + (q :: qs).length) ps (q :: qs) := by
  rw [show (p :: ps).length + (q :: qs).length = (ps.length + (q :: qs).length) + 1 by simp only [List.length_cons]; omega]
  simp only [meetGo, if_pos h, if_pos h']
theorem meet_yes_right {p q : Span} {ps qs : List Span} (h : mx p.lo q.lo ≤ mn p.hi q.hi) (h' : ¬ p.hi < q.hi) : meetGo ((p :: ps).length + (q :: qs).length) (p :: ps) (q :: qs) = ⟨mx p.lo q.lo, mn p.hi q.hi⟩ :: meetGo ((p :: ps).length + qs.length) (p :: ps) qs := by
  rw [show (p :: ps).length + (q :: qs).length = ((p :: ps).length + qs.length) + 1 by simp only [List.length_cons]; omega]
  simp only [meetGo, if_pos h, if_neg h']
theorem meet_no_left {p q : Span} {ps qs : List Span} (h : ¬ mx p.lo q.lo ≤ mn p.hi q.hi) (h' : p.hi < q.hi) : meetGo ((p :: ps).length + (q :: qs).length) (p :: ps) (q :: qs) = meetGo (ps.length + (q :: qs).length) ps (q :: qs) := by
  rw [show (p :: ps).length + (q :: qs).length = (ps.length + (q :: qs).length) + 1 by simp only [List.length_cons]; omega]
  simp only [meetGo, if_neg h, if_pos h']
theorem meet_no_right {p q : Span} {ps qs : List Span} (h : ¬ mx p.lo q.lo ≤ mn p.hi q.hi) (h' : ¬ p.hi < q.hi) : meetGo ((p :: ps).length + (q :: qs).length) (p :: ps) (q :: qs) = meetGo ((p :: ps).length + qs.length) (p :: ps) qs := by
  rw [show (p :: ps).length + (q :: qs).length = ((p :: ps).length + qs.length) + 1 by simp only [List.length_cons]; omega]
  simp only [meetGo, if_neg h, if_neg h']
theorem minusF_nil {a b : List Span} : minusF a b = [] ↔ ∀ z, inSet a z → inSet b z := by
  rw [plain_nil_iff (minusF_plain a b)]
  constructor
  · intro h z hz
    by_cases hb : inSet b z
    · exact hb
    · exact absurd (mem_minusF.2 ⟨hz, hb⟩) (h z)
  · intro h z hz
    exact (mem_minusF.1 hz).2 (h z (mem_minusF.1 hz).1)
end Go.Um
namespace Go.Um
open Go.Vm
def spanR : Rp Span := ⟨2, fun x => [.int .i64 x.lo, .int .i64 x.hi], fun x => ⟨rfl, fun v hv => by
  simp only [List.mem_cons, List.not_mem_nil, or_false] at hv
  rcases hv with rfl | rfl <;> exact ⟨.int _ _, rfl⟩⟩⟩
def partR : Rp Part := ⟨4, fun x => [.int .i64 x.at_, .int .i64 x.drop, .int .i64 x.take, .int .i64 x.up], fun x => ⟨rfl, fun v hv => by
  simp only [List.mem_cons, List.not_mem_nil, or_false] at hv
  rcases hv with rfl | rfl | rfl | rfl <;> exact ⟨.int _ _, rfl⟩⟩⟩
def termR : Rp Term := ⟨6, fun x => [.int .i64 x.base, .int .i64 x.drop, .int .i64 x.take, .int .i64 x.up, .int .i64 x.sum, partR.L x.parts], fun x => ⟨rfl, fun v hv => by
  simp only [List.mem_cons, List.not_mem_nil, or_false] at hv
  rcases hv with rfl | rfl | rfl | rfl | rfl | rfl <;> first | exact ⟨.int _ _, rfl⟩ | exact ⟨Rp.lt _ _ _ _, rfl⟩⟩⟩
abbrev spansR : Rp (List Span) := spanR.listR
def ruleR : Rp Rule := ⟨5, fun x => [.int .i64 x.src, .int .i64 x.dst, spansR.L x.guards, .int .i64 x.eat, termR.L x.out], fun x => ⟨rfl, fun v hv => by
  simp only [List.mem_cons, List.not_mem_nil, or_false] at hv
  rcases hv with rfl | rfl | rfl | rfl | rfl <;> first | exact ⟨.int _ _, rfl⟩ | exact ⟨Rp.lt _ _ _ _, rfl⟩⟩⟩
def finalR : Rp Final := ⟨3, fun x => [.int .i64 x.src, spansR.L x.guards, termR.L x.out], fun x => ⟨rfl, fun v hv => by
  simp only [List.mem_cons, List.not_mem_nil, or_false] at hv
  rcases hv with rfl | rfl | rfl <;> first | exact ⟨.int _ _, rfl⟩ | exact ⟨Rp.lt _ _ _ _, rfl⟩⟩⟩
def descR : Rp Desc := ⟨6, fun x => [.int .i64 x.inn, .int .i64 x.out, .int .i64 x.states, .int .i64 x.start, ruleR.L x.rules, finalR.L x.finals], fun x => ⟨rfl, fun v hv => by
  simp only [List.mem_cons, List.not_mem_nil, or_false] at hv
  rcases hv with rfl | rfl | rfl | rfl | rfl | rfl <;> first | exact ⟨.int _ _, rfl⟩ | exact ⟨Rp.lt _ _ _ _, rfl⟩⟩⟩
instance {a b : Int} : MkR spanR.cells [.int .i64 a, .int .i64 b] ⟨a, b⟩ := ⟨rfl⟩
instance {a : Int} : MkR intR.cells [.int .i64 a] a := ⟨rfl⟩
instance {a : Int} : MkR runeR.cells [.int .i32 a] a := ⟨rfl⟩
instance {a : Int} : MkR byteR.cells [.int .u8 a] a := ⟨rfl⟩
instance {a : Bool} : MkR boolR.cells [.bool a] a := ⟨rfl⟩
theorem range_cases {α : Type} {k : Nat} {xs : List α} (h : k ≤ xs.length) : k = xs.length ∨ ∃ y, xs[k]? = some y ∧ k < xs.length := by
  rcases Nat.lt_or_ge k xs.length with q | q
  · exact .inr ⟨_, List.getElem?_eq_getElem q, q⟩
  · exact .inl (by omega)
theorem drop_at {α : Type} {k : Nat} {xs : List α} {y : α} (h : xs[k]? = some y) : xs.drop k = y :: xs.drop (k + 1) := by
  obtain ⟨hk, rfl⟩ := List.getElem?_eq_some_iff.1 h
  exact List.drop_eq_getElem_cons hk
theorem take_at {α : Type} {k : Nat} {xs : List α} {y : α} (h : xs[k]? = some y) : xs.take (k + 1) = xs.take k ++ [y] := by
  obtain ⟨hk, rfl⟩ := List.getElem?_eq_some_iff.1 h
  rw [List.take_add_one, List.getElem?_eq_getElem hk]; rfl
end Go.Um
