/-
  run.begin. Condition: no rule without guards.
-/
import Derived.Test.YtofcjmjokokajaaGreatQx
namespace Go.Um
open Go.Vm
theorem rnx_nils {N k : Nat} {f : Nat → Nat → Option (Nat × Nat)} {s : Store} {D : Nat → Prop} (h : k ≤ N) : RnX N f s D (List.replicate k [V.nil]) (List.replicate k [V.nil]) := by rw [← outC_zero 0 k]; exact rnx_same (by omega)
structure FmSt where
  k : Nat
  g : Nat → Nat
  L : Nat → Nat
  xs : Nat → List Int
theorem lentC {k id : Nat} {b : Blk} {S : ASt} (h : id < k) (hb : BLt k b) (hr : LentL k S) : LentL k ((id, some b) :: S) := ⟨⟨h, fun b' hb' => by cases hb'; exact hb⟩, hr⟩
theorem blt_row {α : Type} {r : Rp α} {n m g L : Nat} {e : TypeId} {xs : List α} : BLt n (.cells e m g L (xs.map r.cells)) := fun cs hc v hv => by
  obtain ⟨x, _, rfl⟩ := List.mem_map.1 hc
  exact ⟨((r.ok x).2 v hv).1.mono (Nat.zero_le n), ((r.ok x).2 v hv).2⟩
theorem blt_rc {n m g L : Nat} {e : TypeId} {d : Desc} {x : List Int} {rl fl ov lv : V} (h1 : Vlt n rl ∧ rl.one = true) (h2 : Vlt n fl ∧ fl.one = true) (h3 : Vlt n ov ∧ ov.one = true) (h4 : Vlt n lv ∧ lv.one = true) : BLt n (.cells e m g L [rcC d x rl fl ov lv]) := fun cs hc v hv => by
  obtain rfl := List.mem_singleton.1 hc
  exact rcC_lt h1 h2 h3 h4 v hv
theorem pk_rnr {s : Store} {g L T e e2 : Nat} {d : Desc} {x : List Int} {rl fl : List (List Int)} {od : List Int} {lv : List Bool} {M : Nat} (h3 : s 3 = some (.cells e 11 0 0 [rcC d x (intR.listR.L rl) (intR.listR.L fl) (intR.L od) (.row T g 0 M)])) (hT : s T = some (.cells e2 1 g L (lv.map boolR.cells))) (hg : (Nat.ble L g && Nat.ble g g) = true) (hM : M = lv.length) : Pk s (.ptr 3 0 0 0) (.iptr (rnrR.cells ⟨d, x, rl, fl, od, lv⟩)) := by
  refine .ptr h3 ⟨Nat.le_refl _, Nat.le_refl _⟩ rfl (rnrR.ok _).1 (fun v hv => ((rnrR.ok _).2 v hv).2) fun j v u a b => ?_
  rw [Nat.zero_add] at a
  rcases Nat.lt_or_ge j 10 with hj | hj
  · have : v = u := by
      match j, hj, a, b with
      | 0, _, a, b => cases a; cases b; rfl
      | 1, _, a, b => cases a; cases b; rfl
      | 2, _, a, b => cases a; cases b; rfl
      | 3, _, a, b => cases a; cases b; rfl
      | 4, _, a, b => cases a; cases b; rfl
      | 5, _, a, b => cases a; cases b; rfl
      | 6, _, a, b => cases a; cases b; rfl
      | 7, _, a, b => cases a; cases b; rfl
      | 8, _, a, b => cases a; cases b; rfl
      | 9, _, a, b => cases a; cases b; rfl
    subst this
    exact .keep ((rnrR.ok _).2 v (List.mem_of_getElem? b)).1
  · match j, a, b with
    | 10, a, b => cases a; cases b; exact pk_row hT hg rfl rfl hM
    | j + 11, a, b => simp [rnrR, descR] at b
structure OrSt where
  t : Nat
  g : Nat
  L : Nat
def famY (x : FmSt) (i : Nat) : Option Blk := nb 3 1 (x.g i) (x.L i) ((x.xs i).map intR.cells)
end Go.Um
namespace Go.Proofs.YtofcjmjokokajaaGreat
open Go.RowKit Go.Um Go.Proofs Go.Vm
def rulesL (d : Desc) (k : Nat) : List (List Int) := (List.range k).map fun i : Nat => rulesOf d (i : Int)
def finalsL (d : Desc) (k : Nat) : List (List Int) := (List.range k).map fun i : Nat => finalsOf d (i : Int)
def dnL (k t : Nat) : List Bool := (List.range k).map fun i => decide (i < t)
theorem dnL_len (k t : Nat) : (dnL k t).length = k := by simp [dnL]
theorem dnL_zero (k : Nat) : List.replicate k (vcells (V.bool false)) = (dnL k 0).map boolR.cells := by
  apply List.ext_getElem?
  intro j
  unfold dnL
  rw [List.map_map, List.getElem?_map]
  by_cases hj : j < k
  · rw [List.getElem?_range hj, List.getElem?_replicate, if_pos hj]; rfl
  · rw [List.getElem?_eq_none (by simp; omega), List.getElem?_eq_none (by simp; omega)]; rfl
theorem dnL_at {k t : Nat} (h : t < k) : (dnL k t)[t]? = some false := by
  unfold dnL
  rw [List.getElem?_map, List.getElem?_range h]
  simp
theorem dnL_set {k t : Nat} : (dnL k t).set t true = dnL k (t + 1) := by
  apply List.ext_getElem?
  intro j
  rw [List.getElem?_set, dnL_len]
  unfold dnL
  by_cases hj : t = j
  · subst hj
    rw [if_pos rfl]
    by_cases h : t < k
    · rw [if_pos h, List.getElem?_map, List.getElem?_range h]; simp
    · rw [if_neg h, List.getElem?_eq_none (by simp; omega)]
  · rw [if_neg hj]
    by_cases hjn : j < k
    · rw [List.getElem?_map, List.getElem?_map, List.getElem?_range hjn]
      simp; omega
    · rw [List.getElem?_eq_none (by simp; omega), List.getElem?_eq_none (by simp; omega)]
def ordL (t : Nat) : List Int := (List.range t).map fun i : Nat => (i : Int)
theorem ordL_succ (t : Nat) : ordL (t + 1) = ordL t ++ [(t : Int)] := by unfold ordL; rw [List.range_succ, List.map_append]; rfl
theorem ordL_at {t i : Nat} (h : i < t) : (ordL t)[i]? = some (i : Int) := by
  unfold ordL
  rw [List.getElem?_map, List.getElem?_range h]
  rfl
theorem ordL_len (t : Nat) : (ordL t).length = t := by simp [ordL]
theorem rulesL_at {d : Desc} {k t : Nat} (h : t < k) : (rulesL d k)[t]? = some (rulesOf d (t : Int)) := by
  unfold rulesL
  rw [List.getElem?_map, List.getElem?_range h]
  rfl
def lvL (M : Nat) (f : Nat → Bool) : List Bool := (List.range M).map f
theorem lvL_len {M : Nat} {f : Nat → Bool} : (lvL M f).length = M := by simp [lvL]
theorem lvL_at {M p : Nat} {f : Nat → Bool} (h : p < M) : (lvL M f)[p]? = some (f p) := by
  unfold lvL
  rw [List.getElem?_map, List.getElem?_range h]
  rfl
theorem lvL_set {M p : Nat} {f : Nat → Bool} : (lvL M f).set p true = lvL M (fun q => f q || decide (q = p)) := by
  apply List.ext_getElem?
  intro j
  rw [List.getElem?_set, lvL_len]
  by_cases hj : p = j
  · subst hj
    rw [if_pos rfl]
    by_cases h : p < M
    · rw [if_pos h, lvL_at h]; simp
    · rw [if_neg h, List.getElem?_eq_none (by rw [lvL_len]; omega)]
  · rw [if_neg hj]
    by_cases hjn : j < M
    · rw [lvL_at hjn, lvL_at hjn, decide_eq_false (by omega), Bool.or_false]
    · rw [List.getElem?_eq_none (by rw [lvL_len]; omega), List.getElem?_eq_none (by rw [lvL_len]; omega)]
theorem lvL_zero (M : Nat) : List.replicate M (vcells (V.bool false)) = (lvL M fun _ => false).map boolR.cells := by
  apply List.ext_getElem?
  intro j
  rw [List.getElem?_map]
  by_cases hj : j < M
  · rw [lvL_at hj, List.getElem?_replicate, if_pos hj]; rfl
  · rw [List.getElem?_eq_none (by simp; omega), List.getElem?_eq_none (by rw [lvL_len]; omega)]; rfl
def ruleHit (d : Desc) (x : List Int) (n j : Nat) (z : Int) (p : Nat) : Bool := match d.rules[z.toNat]? with
  | some r => fitsB x r.guards j && decide (p = (j + r.eat.toNat) * n + r.dst.toNat)
  | none => false
theorem hits_edge {d : Desc} {x : List Int} {n j s p : Nat} (hs : s < n) : ((rulesOf d s).any fun z => ruleHit d x n j z p) = edgeB d x n (j * n + s) p := by
  rw [Bool.eq_iff_iff, edgeB_iff hs, List.any_eq_true]
  constructor
  · rintro ⟨z, hz, h⟩
    obtain ⟨q, r, rfl, hq, hr⟩ := rulesOf_mem.1 hz
    unfold ruleHit at h
    rw [Int.toNat_natCast, hq] at h
    simp only [Bool.and_eq_true, decide_eq_true_eq, fitsB_iff] at h
    exact ⟨r, List.mem_of_getElem? hq, hr, h.1, h.2⟩
  · rintro ⟨r, hr, h1, h2, h3⟩
    obtain ⟨q, hq⟩ := List.mem_iff_getElem?.1 hr
    refine ⟨q, rulesOf_mem.2 ⟨q, r, rfl, hq, h1⟩, ?_⟩
    unfold ruleHit
    rw [Int.toNat_natCast, hq]
    simp only [Bool.and_eq_true, decide_eq_true_eq, fitsB_iff]
    exact ⟨h2, h3⟩
theorem rowP1_at {t j y i : Nat} (h : y + i + 1 = t) : (rowP1 t j (ordL t))[y]? = some (j * t + i) := by
  unfold rowP1
  rw [List.getElem?_map, List.getElem?_reverse (by rw [ordL_len]; omega), ordL_len, show t - 1 - y = i by omega, ordL_at (by omega)]
  simp
theorem rowP1_len {t j : Nat} : (rowP1 t j (ordL t)).length = t := by simp [rowP1, ordL]
def FmOk (srcs : List Int) (x : FmSt) : Prop := x.k ≤ srcs.length ∧ ∀ i : Nat, x.L i ≤ x.g i ∧ x.xs i = idxF srcs x.k (i : Int)
theorem FmOk.zero (srcs : List Int) : FmOk srcs ⟨0, fun _ => 0, fun _ => 0, fun _ => []⟩ := ⟨Nat.zero_le _, fun _ => ⟨Nat.le_refl _, rfl⟩⟩
theorem FmOk.new {srcs : List Int} {k j : Nat} {g L : Nat → Nat} {xs : Nat → List Int} (h : FmOk srcs ⟨k, g, L, xs⟩) (hj : srcs[k]? = some (j : Int)) (hx : xs j = []) : FmOk srcs ⟨k + 1, fun i => if i = j then 0 else g i, fun i => if i = j then 0 else L i, fun i => if i = j then [(k : Int)] else xs i⟩ := by
  refine ⟨(List.getElem?_eq_some_iff.1 hj).1, fun i => ?_⟩
  have h2 := h.2 i
  simp only at h2 ⊢
  rw [idxF_succ hj, ← h2.2]
  by_cases hi : i = j
  · subst hi
    rw [if_pos rfl, if_pos rfl, if_pos rfl, if_pos rfl, hx]
    exact ⟨Nat.le_refl _, rfl⟩
  · rw [if_neg hi, if_neg hi, if_neg hi, if_neg (by omega)]
    exact ⟨h2.1, rfl⟩
theorem FmOk.grow {srcs : List Int} {k j : Nat} {g L : Nat → Nat} {xs : Nat → List Int} (h : FmOk srcs ⟨k, g, L, xs⟩) (hj : srcs[k]? = some (j : Int)) : FmOk srcs ⟨k + 1, fun i => if i = j then g i + 1 else g i, L, fun i => if i = j then xs i ++ [(k : Int)] else xs i⟩ := by
  refine ⟨(List.getElem?_eq_some_iff.1 hj).1, fun i => ?_⟩
  have h2 := h.2 i
  simp only at h2 ⊢
  rw [idxF_succ hj, ← h2.2]
  by_cases hi : i = j
  · subst hi
    rw [if_pos rfl, if_pos rfl, if_pos rfl]
    exact ⟨by omega, rfl⟩
  · rw [if_neg hi, if_neg hi, if_neg (by omega)]
    exact ⟨h2.1, rfl⟩
attribute [local irreducible] Ev arun frun grun awp RetQ NextQ RetM
set_option maxHeartbeats 4000000
set_option maxRecDepth 20000
theorem begin_v (d : Desc) (x : List Int) (k : Nat) (hR : RuleOk d k) (hk1 : 1 ≤ k) (hk2 : k ≤ 1024) (hr : d.rules.length ≤ 4096) (hf : d.finals.length ≤ 4096) (hxl : x.length ≤ 1024) (hxr : ∀ z ∈ x, -2147483648 ≤ z ∧ z ≤ 2147483647) (hE : ∀ r ∈ d.rules, ¬ r.guards.length = 0) :
    VPure Tryz.prog 47 [.agg (descR.cells d), runeR.L x] (.iptr (rnrR.cells ⟨d, x, rulesL d k, finalsL d k, ordL k, lvL ((x.length + 1) * k) (liveF d x k (ordL k) (x.length + 1))⟩)) := by
  have hk : d.states = k := hR.st
  have hst := hR.start
  have hrs : ∀ r ∈ d.rules, 0 ≤ r.src ∧ r.src < k := fun r h => (hR.rule r h).1
  have hfs : ∀ r ∈ d.finals, 0 ≤ r.src ∧ r.src < k := fun r h => (hR.final r h).1
  refine a_pure (n0 := 0) (hN := Tryz.ntmps47) (hf := Tryz.func47) ?_
  refine wk ⟨?_⟩
  have e0 : d.states.toNat = k := by omega
  rw [e0]
  have hz1 : some (Blk.cells 88 1 0 0 (List.replicate k [V.nil])) = some (Blk.cells 88 1 0 0 (outC 5 k (fun _ => 0) (fun _ => 0))) := by rw [outC_zero]
  refine a_loopH (σ := FmSt) 1024 1029 [1, 2, 5, 29, 30] (fun x => [(31, V.int .i64 (x.k : Int))]) (fun y => [(4, some (.cells 98 1 0 0 [[.ptr 3 0 0 0]])), (3, some (.cells 104 11 0 0 [rcC d x (.row 1 0 0 k) (.row 2 0 0 k) .nil .nil])), (2, some (.cells 88 1 0 0 (List.replicate k [V.nil]))), (1, some (.cells 88 1 0 0 (outC 5 k y.g fun i => (y.xs i).length))), (0, some (.cells 27 6 0 0 [descR.cells d]))] ++ fam 5 1024 (famY y)) (FmOk (d.rules.map (·.src))) (fun x => d.rules.length - x.k) ⟨0, fun _ => 0, fun _ => 0, fun _ => []⟩ (FmOk.zero _) (loop_fam (fun i _ => rfl) (by exact ⟨rfl, rfl, rfl, hz1, rfl, trivial⟩) rfl) ?_
  rintro ⟨j, g, L, xs⟩ hok
  have hok0 := hok
  obtain ⟨hj, hx1⟩ := hok0
  rw [List.length_map] at hj
  simp only at hj hx1
  obtain hx | ⟨r, hrj, hlt⟩ := range_cases hj
  · subst j
    dsimp only
    refine wk ⟨?_⟩
    have hxs : (List.range k).map xs = rulesL d k := by
      unfold rulesL
      refine List.map_congr_left fun i _ => ?_
      rw [(hx1 i).2]
      unfold rulesOf
      rfl
    refine a_dropB (S2 := [(4, some (.cells 98 1 0 0 [[.ptr 3 0 0 0]])), (3, some (.cells 104 11 0 0 [rcC d x (intR.listR.L (rulesL d k)) (.row 2 0 0 k) .nil .nil])), (2, some (.cells 88 1 0 0 (List.replicate k [V.nil]))), (0, some (.cells 27 6 0 0 [descR.cells d]))]) (1 :: List.range' 5 1024) (M := 3) (rcC d x (intR.listR.L (rulesL d k)) (.row 2 0 0 k) .nil .nil) rfl (by simp) (FzC.app (FzC.same rfl) (FzC.cons (.inl rfl) rfl (FzC.cons (.inr ?_) rfl (FzC.cons (.inl rfl) rfl (FzC.cons (.inl rfl) rfl (FzC.cons (.inl rfl) rfl FzC.nil)))))) (by exact .keep (k := 1) FV.list (.keep (k := 2) FV.ptr (.keep (k := 5) FV.ptr (.keep (k := 56) FV.list (.keep (k := 57) FV.int (.keep (k := 58) FV.int .nil)))))) (fun id => ?_) ?_
    · rw [← hxs]
      exact pk_outC (e2 := 3) (L := L) (g := g) (len := fun i => (xs i).length) (xs := xs) (r := intR) rfl rfl fun i hi => ⟨(restr_in (by simp; omega)).trans (Pass.fam (K := 1024) (x := 0) (f := famY ⟨d.rules.length, g, L, xs⟩) (T := _) (by repeat' first | refine Pass.cons rfl ?_ | exact Pass.refl _) (by omega) (by omega)), rfl, (hx1 i).1⟩
    · by_cases h1 : id = 1
      · subst h1
        rfl
      · by_cases h3 : 5 ≤ id ∧ id < 1029
        · rw [if_pos (by simp; omega), fam_cons_ne (by simp only; omega), fam_cons_ne (by simp only; omega), fam_cons_ne (by simp only; omega), fam_cons_ne (by simp only; omega)]
          rfl
        · rw [if_neg (by simp; omega), List.append_assoc]
          rcases (show id = 0 ∨ id = 2 ∨ id = 3 ∨ id = 4 ∨ (5 ≤ id) by omega) with rfl | rfl | rfl | rfl | h4
          · rfl
          · rfl
          · rfl
          · rfl
          · rw [slk_app.2 (by simp; omega), slk_fam_ne (by omega), if_neg (by omega)]
            repeat rw [fam_cons_ne (by simp only; omega)]
    clear hok hx1 hxs hz1
    have hz2 : some (Blk.cells 88 1 0 0 (List.replicate k [V.nil])) = some (Blk.cells 88 1 0 0 (outC 1029 k (fun _ => 0) (fun _ => 0))) := by rw [outC_zero]
    refine a_loopH (σ := FmSt) 1024 2053 [1, 2, 5, 56, 57] (fun x => [(58, V.int .i64 (x.k : Int))]) (fun y => [(4, some (.cells 98 1 0 0 [[.ptr 3 0 0 0]])), (3, some (.cells 104 11 0 0 [rcC d x (intR.listR.L (rulesL d k)) (.row 2 0 0 k) .nil .nil])), (2, some (.cells 88 1 0 0 (outC 1029 k y.g fun i => (y.xs i).length))), (0, some (.cells 27 6 0 0 [descR.cells d]))] ++ fam 1029 1024 (famY y)) (FmOk (d.finals.map (·.src))) (fun x => d.finals.length - x.k) ⟨0, fun _ => 0, fun _ => 0, fun _ => []⟩ (FmOk.zero _) (loop_fam (fun i _ => rfl) (by exact ⟨rfl, rfl, hz2, rfl, trivial⟩) rfl) ?_
    rintro ⟨j, g, L, xs⟩ hok
    have hok0 := hok
    obtain ⟨hj, hx1⟩ := hok0
    rw [List.length_map] at hj
    simp only at hj hx1
    obtain hx | ⟨r, hrj, hlt⟩ := range_cases hj
    · subst j
      dsimp only
      refine wk ⟨?_⟩
      have hxs : (List.range k).map xs = finalsL d k := by
        unfold finalsL
        refine List.map_congr_left fun i _ => ?_
        rw [(hx1 i).2]
        unfold finalsOf
        rfl
      have hz3 : List.replicate k (vcells (V.bool false)) = (dnL k 0).map boolR.cells := dnL_zero k
      rw [e0, hz3]
      refine a_dropB (S2 := [(2053, some (.cells 4 1 0 0 ((dnL k 0).map boolR.cells))), (4, some (.cells 98 1 0 0 [[.ptr 3 0 0 0]])), (3, some (.cells 104 11 0 0 [rcC d x (intR.listR.L (rulesL d k)) (intR.listR.L (finalsL d k)) .nil .nil])), (0, some (.cells 27 6 0 0 [descR.cells d]))]) (2 :: List.range' 1029 1024) (M := 3) (rcC d x (intR.listR.L (rulesL d k)) (intR.listR.L (finalsL d k)) .nil .nil) rfl (by simp) (FzC.app (FzC.same rfl) (FzC.cons (.inl rfl) rfl (FzC.cons (.inl rfl) rfl (FzC.cons (.inr ?_) rfl (FzC.cons (.inl rfl) rfl (FzC.cons (.inl rfl) rfl FzC.nil)))))) (by exact .keep (k := 1) FV.list (.keep (k := 2) FV.ptr (.keep (k := 5) FV.ptr (.keep (k := 10) FV.row (.keep (k := 86) FV.int (.keep (k := 87) FV.int .nil)))))) (fun id => ?_) ?_
      · rw [← hxs]
        exact pk_outC (e2 := 3) (L := L) (g := g) (len := fun i => (xs i).length) (xs := xs) (r := intR) rfl rfl fun i hi => ⟨(restr_in (by simp; omega)).trans (Pass.fam (K := 1024) (x := 0) (f := famY ⟨d.finals.length, g, L, xs⟩) (T := _) (by repeat' first | refine Pass.cons rfl ?_ | exact Pass.refl _) (by omega) (by omega)), rfl, (hx1 i).1⟩
      · by_cases h1 : id = 2
        · subst h1
          rfl
        · by_cases h3 : 1029 ≤ id ∧ id < 2053
          · rw [if_pos (by simp; omega), fam_cons_ne (by simp only; omega), fam_cons_ne (by simp only; omega), fam_cons_ne (by simp only; omega), fam_cons_ne (by simp only; omega)]
            rfl
          · rw [if_neg (by simp; omega), List.append_assoc]
            rcases (show id = 0 ∨ id = 3 ∨ id = 4 ∨ id = 2053 ∨ (id ≠ 0 ∧ id ≠ 2 ∧ id ≠ 3 ∧ id ≠ 4 ∧ id ≠ 2053) by omega) with rfl | rfl | rfl | rfl | h4
            · rfl
            · rfl
            · rfl
            · rfl
            · rw [if_neg (by omega)]
              repeat rw [fam_cons_ne (by simp only; omega)]
              rw [slk_app.2 (by simp; omega), slk_fam_ne (by omega)]
              repeat rw [fam_cons_ne (by simp only; omega)]
      refine a_cnt 2054 ?_
      refine a_loopG (σ := OrSt) 1 [1, 2, 5, 10, 86] (fun y => [(87, V.int .i64 (y.t : Int))]) (fun y => [(2053, some (.cells 4 1 0 0 ((dnL k y.t).map boolR.cells))), (4, some (.cells 98 1 0 0 [[.ptr 3 0 0 0]])), (3, some (.cells 104 11 0 0 [rcC d x (intR.listR.L (rulesL d k)) (intR.listR.L (finalsL d k)) (nrow 2054 y.g y.t) .nil])), (0, some (.cells 27 6 0 0 [descR.cells d])), (2054, nb 3 1 y.g y.L ((ordL y.t).map intR.cells))]) (fun y => y.t ≤ k ∧ y.L ≤ y.g) (fun y => k - y.t) ⟨0, 0, 0⟩ ⟨Nat.zero_le _, Nat.le_refl _⟩ ?_
      rintro ⟨t, g, L⟩ ⟨htk, hLg⟩
      simp only at htk hLg
      obtain hlt | htk' : t < k ∨ t = k := by omega
      · have hrt := rulesL_at (d := d) hlt
        have hrg : ∀ i ∈ rulesOf d (t : Int), 0 ≤ i ∧ ∃ r, d.rules[i.toNat]? = some r ∧ ¬ r.guards.length = 0 := fun i hi => by
          obtain ⟨q, r, rfl, h1, h2⟩ := rulesOf_mem.1 hi
          exact ⟨by omega, r, by simpa using h1, hE r (List.mem_of_getElem? h1)⟩
        have hrl : (rulesOf d (t : Int)).length ≤ 4096 := by
          have := idxF_len (d.rules.map (·.src)) d.rules.length (t : Int)
          unfold rulesOf
          omega
        by_cases ht0 : t = 0
        · subst ht0
          dsimp only
          refine wk ⟨?_⟩
          have h9 := sort0_vm d x (rulesL d k) (finalsL d k) 0 (rulesOf d 0) (dnL k 0) hrt (dnL_at hlt) hrg hrl
          rw [dnL_len, dnL_set] at h9
          refine ar_mk h9 (lentC (by decide) (blt_rc ⟨Rp.lt _ _ _ _, rfl⟩ ⟨Rp.lt _ _ _ _, rfl⟩ ⟨.nil, rfl⟩ ⟨.nil, rfl⟩) (lentC (by decide) (blt_row (r := boolR)) trivial)) (lentC (by decide) (blt_rc ⟨Rp.lt _ _ _ _, rfl⟩ ⟨Rp.lt _ _ _ _, rfl⟩ ⟨.row (by decide), rfl⟩ ⟨.nil, rfl⟩) (lentC (by decide) (blt_row (r := boolR)) trivial)) (blt_row (r := intR)) rfl rfl (.tuple (by simp)) ?_ (ha := by refine ⟨.ptr (by decide), .int _ _, .row (by decide), trivial⟩)
          refine wk ⟨?_⟩
          refine a_next (⟨1, 0, 0⟩ : OrSt) ⟨hlt, Nat.le_refl _⟩ (by simp only; omega) ?_
          refine end1 (CS := [(2053, some (.cells 4 1 0 0 ((dnL k 1).map boolR.cells))), (4, some (.cells 98 1 0 0 [[.ptr 3 0 0 0]])), (3, some (.cells 104 11 0 0 [rcC d x (intR.listR.L (rulesL d k)) (intR.listR.L (finalsL d k)) (.row 2054 0 0 1) .nil])), (0, some (.cells 27 6 0 0 [descR.cells d]))]) 2055 2054 ?_ ?_ rfl (RnX.of_eq rfl) ?_ (hfree := rfl) (hS := SameG.same (by repeat' first | exact SameG.refl _ | refine SameG.cons rfl ?_)); all_goals repeat' first | exact trivial | refine And.intro ?_ ?_ | exact rn_int rfl | exact rn_list rfl | exact rn_row rfl ⟨rfl, rfl, rfl⟩ | exact rn_ptr rfl | exact rn_bool rfl | exact rn_agg rfl | exact rn_iptr rfl | exact rn_map rfl | exact rn_nrows rfl | exact rn_new rfl rfl rfl (by omega) | refine rn_int ?_ | refine rn_bool ?_ | refine rn_list ?_ | refine rn_row rfl ⟨?_, ?_, ?_⟩ | refine rn_nrow rfl ⟨rfl, ?_⟩ ?_ | refine rn_agg ?_ | exact Exists.intro _ ⟨rfl, RnB.cells (RnX.of_eq rfl), rfl⟩ | exact Exists.intro _ ⟨rfl, RnB.cells (RnX.of_eq (map_snoc rfl)), rfl⟩ | exact Exists.intro _ ⟨rfl, RnB.cells (RnX.of_eq (map_setc rfl)), rfl⟩ | exact Exists.intro _ ⟨rfl, RnB.cells (RnX.of_eq (map_inc rfl)), rfl⟩ | exact Exists.intro _ ⟨rfl, RnB.cells (RnX.of_eq (map_snocs rfl)), rfl⟩ | refine Exists.intro _ ⟨rfl, RnB.cells (RnX.cons (RnC.cons ?_ ?_ RnC.nil) RnX.nil), rfl⟩ | exact Exists.intro _ ⟨rfl, RnB.hole, rfl⟩ | refine Exists.intro _ ⟨rfl, rnm_of ?_, rfl⟩ | exact nrow_one | refine old_nbs ?_ rfl | refine old_nb ?_ ⟨?_, _, rfl, RnB.cells (RnX.of_eq (map_snoc rfl)), rfl⟩ | refine old_nb ?_ ⟨?_, _, rfl, RnB.cells (RnX.of_eq (map_snocs rfl)), rfl⟩ | refine old_nb ?_ ⟨?_, _, rfl, RnB.cells (RnX.of_eq (map_inc rfl)), rfl⟩ | refine old_nb ?_ ⟨?_, _, rfl, RnB.cells (RnX.of_eq rfl), rfl⟩ | rfl | (simp only []; omega) | (simp; done) | (simp; omega) | assumption
          exact Exists.intro _ ⟨rfl, RnB.cells (rnx_rc kp_list kp_list ⟨rn_new rfl rfl rfl (by omega), rfl⟩ kp_nil), rfl⟩
          exact Exists.intro _ ⟨rfl, RnB.cells (RnX.of_eq (r := descR) (ys := [d]) rfl), rfl⟩
          simp [ordL]
        · have h9 := sort1_vm d x (rulesL d k) (finalsL d k) t (rulesOf d (t : Int)) (dnL k t) g L hLg (ordL t) (by rw [ordL_len]; omega) (by rw [ordL_len]; omega) hrt (dnL_at hlt) hrg hrl
          rw [ordL_len, dnL_len, dnL_set, ← ordL_succ] at h9
          dsimp only
          rw [nrow_pos (by omega), nb_pos (by rw [List.length_map, ordL_len]; omega)]
          refine wk ⟨?_⟩
          refine ar_mu h9 (lentC (by decide) (blt_rc ⟨Rp.lt _ _ _ _, rfl⟩ ⟨Rp.lt _ _ _ _, rfl⟩ ⟨.row (by decide), rfl⟩ ⟨.nil, rfl⟩) (lentC (by decide) (blt_row (r := boolR)) (lentC (by decide) (blt_row (r := intR)) trivial))) (lentC (by decide) (blt_rc ⟨Rp.lt _ _ _ _, rfl⟩ ⟨Rp.lt _ _ _ _, rfl⟩ ⟨.row (by decide), rfl⟩ ⟨.nil, rfl⟩) (lentC (by decide) (blt_row (r := boolR)) (lentC (by decide) (blt_row (r := intR)) trivial))) rfl rfl (.tuple (by simp)) ?_ (ha := by refine ⟨.ptr (by decide), .int _ _, .row (by decide), trivial⟩)
          refine wk ⟨?_⟩
          refine a_next (⟨t + 1, g + 1, L⟩ : OrSt) ⟨hlt, by simp only; omega⟩ (by simp only; omega) ?_
          refine end0 ?_ ?_ (hS := SameG.same (by repeat' first | exact SameG.refl _ | refine SameG.cons rfl ?_)); all_goals repeat' first | exact trivial | refine And.intro ?_ ?_ | exact rn_int rfl | exact rn_list rfl | exact rn_row rfl ⟨rfl, rfl, rfl⟩ | exact rn_ptr rfl | exact rn_bool rfl | exact rn_agg rfl | exact rn_iptr rfl | exact rn_map rfl | exact rn_nrows rfl | exact rn_new rfl rfl rfl (by omega) | refine rn_int ?_ | refine rn_bool ?_ | refine rn_list ?_ | refine rn_row rfl ⟨?_, ?_, ?_⟩ | refine rn_nrow rfl ⟨rfl, ?_⟩ ?_ | refine rn_agg ?_ | exact Exists.intro _ ⟨rfl, RnB.cells (RnX.of_eq rfl), rfl⟩ | exact Exists.intro _ ⟨rfl, RnB.cells (RnX.of_eq (map_snoc rfl)), rfl⟩ | exact Exists.intro _ ⟨rfl, RnB.cells (RnX.of_eq (map_setc rfl)), rfl⟩ | exact Exists.intro _ ⟨rfl, RnB.cells (RnX.of_eq (map_inc rfl)), rfl⟩ | exact Exists.intro _ ⟨rfl, RnB.cells (RnX.of_eq (map_snocs rfl)), rfl⟩ | refine Exists.intro _ ⟨rfl, RnB.cells (RnX.cons (RnC.cons ?_ ?_ RnC.nil) RnX.nil), rfl⟩ | exact Exists.intro _ ⟨rfl, RnB.hole, rfl⟩ | refine Exists.intro _ ⟨rfl, rnm_of ?_, rfl⟩ | exact nrow_one | refine old_nbs ?_ rfl | refine old_nb ?_ ⟨?_, _, rfl, RnB.cells (RnX.of_eq (map_snoc rfl)), rfl⟩ | refine old_nb ?_ ⟨?_, _, rfl, RnB.cells (RnX.of_eq (map_snocs rfl)), rfl⟩ | refine old_nb ?_ ⟨?_, _, rfl, RnB.cells (RnX.of_eq (map_inc rfl)), rfl⟩ | refine old_nb ?_ ⟨?_, _, rfl, RnB.cells (RnX.of_eq rfl), rfl⟩ | rfl | (simp only []; omega) | (simp; done) | (simp; omega) | assumption
          exact Exists.intro _ ⟨rfl, RnB.cells (rnx_rc kp_list kp_list ⟨rn_nrow rfl ⟨rfl, rfl⟩ (by omega), nrow_one⟩ kp_nil), rfl⟩
          exact Exists.intro _ ⟨rfl, RnB.cells (RnX.of_eq (r := descR) (ys := [d]) rfl), rfl⟩
          simp [ordL]
      · subst htk'
        dsimp only
        rw [nrow_pos (by omega), nb_pos (by rw [List.length_map, ordL_len]; omega)]
        refine wk ⟨?_⟩
        obtain ⟨M, hM⟩ : ∃ M, M = (x.length + 1) * t := ⟨_, rfl⟩
        have hMb : M ≤ 1025 * 1024 := by rw [hM]; exact Nat.mul_le_mul (by omega) hk2
        have hMi : ((x.length : Int) + 1) * d.states = (M : Int) := by rw [hk, hM]; push_cast; rfl
        have hMw : IntKind.i64.wrap (((x.length : Int) + 1) * d.states) = (M : Int) := by rw [hMi]; exact wrap_in (by omega) (by omega)
        have hMt : t ≤ M := by rw [hM, Nat.add_mul]; omega
        rw [hMw]
        refine wk ⟨?_⟩
        rw [Int.toNat_natCast, lvL_zero]
        have hll : (lvL M fun _ => false)[d.start.toNat]? = some false := lvL_at (by omega)
        refine wk ⟨?_⟩
        refine a_dropB (S2 := [(2055, some (.cells 4 1 0 0 ((lvL M (liveF d x t (ordL t) 0)).map boolR.cells))), (4, some (.cells 98 1 0 0 [[.ptr 3 0 0 0]])), (3, some (.cells 104 11 0 0 [rcC d x (intR.listR.L (rulesL d t)) (intR.listR.L (finalsL d t)) (intR.L (ordL t)) (.row 2055 0 0 M)]))]) [0, 2053, 2054, 2056] (M := 3) (cs := rcC d x (intR.listR.L (rulesL d t)) (intR.listR.L (finalsL d t)) (.row 2054 g 0 t) (.row 2055 0 0 M)) (rcC d x (intR.listR.L (rulesL d t)) (intR.listR.L (finalsL d t)) (intR.L (ordL t)) (.row 2055 0 0 M)) rfl (by simp) (FzC.app (FzC.same rfl) (FzC.cons (.inl rfl) rfl (FzC.cons (.inl rfl) rfl (FzC.cons (.inl rfl) rfl (FzC.cons (.inr ?_) rfl (FzC.cons (.inl rfl) rfl FzC.nil)))))) (by exact .keep (k := 1) FV.list (.keep (k := 5) FV.ptr (.pack (k := 2) (v := .iptr (descR.cells d)) (pk_boxw (r := descR) (x := d) rfl rfl rfl) (.pack (k := 12) (v := .iptr (intR.cells 0)) (pk_boxw (r := intR) (x := 0) rfl rfl rfl) .nil)))) (fun id => ?_) ?_
        · exact pk_row rfl (ble2 hLg) rfl rfl (by rw [ordL_len])
        · by_cases hc : id = 0 ∨ id = 3 ∨ id = 4 ∨ id = 2053 ∨ id = 2054 ∨ id = 2055 ∨ id = 2056
          · rcases hc with rfl | rfl | rfl | rfl | rfl | rfl | rfl
            · rfl
            · rfl
            · rfl
            · rfl
            · rfl
            · have hl0 : lvL M (liveF d x t (ordL t) 0) = (lvL M fun _ => false).set d.start.toNat true := by rw [lvL_set]; congr 1
              rw [hl0]
              rfl
            · rfl
          · rw [if_neg (by simp; omega), if_neg (by omega)]
            simp only [List.cons_append, List.nil_append]
            repeat rw [fam_cons_ne (by simp only; omega)]
        clear hok hx1 hxs hz2 hz3 hll
        refine a_cnt 2057 ?_
        refine a_loopG (σ := Nat) 0 [1, 2, 5] (fun j => [(12, V.iptr (intR.cells (j : Int)))]) (fun j => [(2055, some (.cells 4 1 0 0 ((lvL M (liveF d x t (ordL t) j)).map boolR.cells)))]) (fun j => j ≤ x.length + 1) (fun j => x.length + 1 - j) 0 (Nat.zero_le _) ?_
        intro j hj
        obtain hjl | rfl : j ≤ x.length ∨ j = x.length + 1 := by omega
        · refine wk ⟨?_⟩
          refine ar_pure (backward_v (ordL t)) ?_
          obtain ⟨JT, hJT⟩ : ∃ JT, JT = j * t := ⟨_, rfl⟩
          have hJTi : ((j : Nat) : Int) * d.states = (JT : Int) := by rw [hk, hJT]; push_cast; rfl
          have hJM : JT + t ≤ M := by
            have : (j + 1) * t ≤ (x.length + 1) * t := Nat.mul_le_mul_right _ (by omega)
            rw [hM, hJT]
            rw [Nat.add_mul] at this
            omega
          refine wk ⟨?_⟩
          refine a_range (σ := Nat) 0 (fun m => [(2055, some (.cells 4 1 0 0 ((lvL M (((rowP1 t j (ordL t)).take m).foldl (stepE (edgeB d x t)) (liveF d x t (ordL t) j))).map boolR.cells)))]) (fun m y => y = m) 0 rfl (back_iter (ordL t)) (fun z hz => ?_) ?_ ?_ (hS := ?_)
          · obtain ⟨i, z', _, _, rfl⟩ := backZ_at (List.mem_iff_getElem?.1 hz).choose_spec
            rfl
          · rintro m z y hz rfl
            obtain ⟨i, z', hi, hz', rfl⟩ := backZ_at hz
            rw [ordL_len] at hi
            rw [ordL_at (show i < t by omega)] at hz'
            cases hz'
            obtain ⟨LL, hLL⟩ : ∃ LL, LL = ((rowP1 t j (ordL t)).take y).foldl (stepE (edgeB d x t)) (liveF d x t (ordL t) j) := ⟨_, rfl⟩
            have hNEW : ((rowP1 t j (ordL t)).take (y + 1)).foldl (stepE (edgeB d x t)) (liveF d x t (ordL t) j) = stepE (edgeB d x t) LL (JT + i) := by
              rw [take_at (rowP1_at hi), List.foldl_append, ← hLL, hJT]
              rfl
            dsimp only
            rw [← hLL]
            clear hz
            have hidx : IntKind.i64.wrap (IntKind.i64.wrap ((j : Int) * d.states) + (i : Int)) = ((JT + i : Nat) : Int) := by
              rw [hJTi, wrap_in (z := (JT : Int)) (by omega) (by omega), wrap_in (by omega) (by omega)]
              push_cast
              rfl
            have hld : (lvL M LL)[JT + i]? = some (LL (JT + i)) := lvL_at (by omega)
            refine wk ⟨?_⟩
            rw [hidx]
            cases hb : LL (JT + i) with
            | false =>
              rw [hb] at hld
              refine wk ⟨?_⟩
              have hsame : stepE (edgeB d x t) LL (JT + i) = LL := by
                funext p
                unfold stepE
                rw [hb, Bool.false_and, Bool.or_false]
              refine ⟨y + 1, rfl, ?_⟩
              dsimp only
              rw [hNEW, hsame]
              refine end0 ?_ ?_ (hS := SameG.same (by repeat' first | exact SameG.refl _ | refine SameG.cons rfl ?_)); all_goals repeat' first | exact trivial | refine And.intro ?_ ?_ | exact rn_int rfl | exact rn_list rfl | exact rn_row rfl ⟨rfl, rfl, rfl⟩ | exact rn_ptr rfl | exact rn_bool rfl | exact rn_agg rfl | exact rn_iptr rfl | exact rn_map rfl | exact rn_nrows rfl | exact rn_new rfl rfl rfl (by omega) | refine rn_int ?_ | refine rn_bool ?_ | refine rn_list ?_ | refine rn_row rfl ⟨?_, ?_, ?_⟩ | refine rn_nrow rfl ⟨rfl, ?_⟩ ?_ | refine rn_agg ?_ | exact Exists.intro _ ⟨rfl, RnB.cells (RnX.of_eq rfl), rfl⟩ | exact Exists.intro _ ⟨rfl, RnB.cells (RnX.of_eq (map_snoc rfl)), rfl⟩ | exact Exists.intro _ ⟨rfl, RnB.cells (RnX.of_eq (map_setc rfl)), rfl⟩ | exact Exists.intro _ ⟨rfl, RnB.cells (RnX.of_eq (map_inc rfl)), rfl⟩ | exact Exists.intro _ ⟨rfl, RnB.cells (RnX.of_eq (map_snocs rfl)), rfl⟩ | refine Exists.intro _ ⟨rfl, RnB.cells (RnX.cons (RnC.cons ?_ ?_ RnC.nil) RnX.nil), rfl⟩ | exact Exists.intro _ ⟨rfl, RnB.hole, rfl⟩ | refine Exists.intro _ ⟨rfl, rnm_of ?_, rfl⟩ | exact nrow_one | refine old_nbs ?_ rfl | refine old_nb ?_ ⟨?_, _, rfl, RnB.cells (RnX.of_eq (map_snoc rfl)), rfl⟩ | refine old_nb ?_ ⟨?_, _, rfl, RnB.cells (RnX.of_eq (map_snocs rfl)), rfl⟩ | refine old_nb ?_ ⟨?_, _, rfl, RnB.cells (RnX.of_eq (map_inc rfl)), rfl⟩ | refine old_nb ?_ ⟨?_, _, rfl, RnB.cells (RnX.of_eq rfl), rfl⟩ | rfl | (simp only []; omega) | (simp; done) | (simp; omega) | assumption
            | true =>
              rw [hb] at hld
              have hri := rulesL_at (d := d) (show i < t by omega)
              have hrl : (rulesOf d (i : Int)).length ≤ 4096 := by
                have := idxF_len (d.rules.map (·.src)) d.rules.length (i : Int)
                unfold rulesOf
                omega
              refine wk ⟨?_⟩
              have hfun : (fun p => ((rulesOf d (i : Int)).any fun z => ruleHit d x t j z p) || LL p) = stepE (edgeB d x t) LL (JT + i) := by
                funext p
                unfold stepE
                rw [hb, Bool.true_and, hJT, hits_edge (by omega), Bool.or_comm]
              refine a_loopG (σ := Nat) 0 [1, 2, 5, 12, 14, 144, 145] (fun q => [(146, V.int .i64 (q : Int))]) (fun q => [(2055, some (.cells 4 1 0 0 ((lvL M (fun p => (((rulesOf d (i : Int)).take q).any fun z => ruleHit d x t j z p) || LL p)).map boolR.cells)))]) (fun q => q ≤ (rulesOf d (i : Int)).length) (fun q => (rulesOf d (i : Int)).length - q) 0 (Nat.zero_le _) ?_
              intro q hq
              obtain hx | ⟨z, hz, hlt⟩ := range_cases hq
              · subst q
                rw [List.take_length, hfun]
                refine wk ⟨?_⟩
                refine ⟨y + 1, rfl, ?_⟩
                dsimp only
                rw [hNEW]
                refine end0 ?_ ?_ (hS := SameG.same (by repeat' first | exact SameG.refl _ | refine SameG.cons rfl ?_)); all_goals repeat' first | exact trivial | refine And.intro ?_ ?_ | exact rn_int rfl | exact rn_list rfl | exact rn_row rfl ⟨rfl, rfl, rfl⟩ | exact rn_ptr rfl | exact rn_bool rfl | exact rn_agg rfl | exact rn_iptr rfl | exact rn_map rfl | exact rn_nrows rfl | exact rn_new rfl rfl rfl (by omega) | refine rn_int ?_ | refine rn_bool ?_ | refine rn_list ?_ | refine rn_row rfl ⟨?_, ?_, ?_⟩ | refine rn_nrow rfl ⟨rfl, ?_⟩ ?_ | refine rn_agg ?_ | exact Exists.intro _ ⟨rfl, RnB.cells (RnX.of_eq rfl), rfl⟩ | exact Exists.intro _ ⟨rfl, RnB.cells (RnX.of_eq (map_snoc rfl)), rfl⟩ | exact Exists.intro _ ⟨rfl, RnB.cells (RnX.of_eq (map_setc rfl)), rfl⟩ | exact Exists.intro _ ⟨rfl, RnB.cells (RnX.of_eq (map_inc rfl)), rfl⟩ | exact Exists.intro _ ⟨rfl, RnB.cells (RnX.of_eq (map_snocs rfl)), rfl⟩ | refine Exists.intro _ ⟨rfl, RnB.cells (RnX.cons (RnC.cons ?_ ?_ RnC.nil) RnX.nil), rfl⟩ | exact Exists.intro _ ⟨rfl, RnB.hole, rfl⟩ | refine Exists.intro _ ⟨rfl, rnm_of ?_, rfl⟩ | exact nrow_one | refine old_nbs ?_ rfl | refine old_nb ?_ ⟨?_, _, rfl, RnB.cells (RnX.of_eq (map_snoc rfl)), rfl⟩ | refine old_nb ?_ ⟨?_, _, rfl, RnB.cells (RnX.of_eq (map_snocs rfl)), rfl⟩ | refine old_nb ?_ ⟨?_, _, rfl, RnB.cells (RnX.of_eq (map_inc rfl)), rfl⟩ | refine old_nb ?_ ⟨?_, _, rfl, RnB.cells (RnX.of_eq rfl), rfl⟩ | rfl | (simp only []; omega) | (simp; done) | (simp; omega) | assumption
              · obtain ⟨qq, r, rfl, hqr, hsrc⟩ := rulesOf_mem.1 (List.mem_of_getElem? hz)
                obtain ⟨f, hfq⟩ : ∃ f, f = fun p => (((rulesOf d (i : Int)).take q).any fun z => ruleHit d x t j z p) || LL p := ⟨_, rfl⟩
                have hft := fits_rv ⟨d, x, rulesL d t, finalsL d t, ordL t, lvL M f⟩ r.guards j hjl hxl hxr
                have hfx : fitsB x r.guards j = true → r.guards.length ≤ x.length - j := fun h => (fitsB_iff.1 h).1
                obtain ⟨_, ⟨hd0, hd1⟩, he0, he1, _⟩ := hR.rule r (List.mem_of_getElem? hqr)
                have hHit : ∀ p, ruleHit d x t j (qq : Int) p = (fitsB x r.guards j && decide (p = (j + r.eat.toNat) * t + r.dst.toNat)) := fun p => by
                  unfold ruleHit
                  rw [Int.toNat_natCast, hqr]
                have hTK : (fun p => (((rulesOf d (i : Int)).take (q + 1)).any fun z => ruleHit d x t j z p) || LL p) = fun p => f p || (fitsB x r.guards j && decide (p = (j + r.eat.toNat) * t + r.dst.toNat)) := by
                  funext p
                  rw [List.take_add_one, hz, List.any_append, Option.toList_some, List.any_cons, List.any_nil, Bool.or_false, hHit, hfq]
                  simp only [Bool.or_assoc]
                  congr 1
                  rw [Bool.or_comm]
                simp only at hft
                generalize fitsB x r.guards j = b at hft hfx hTK
                have hqr' : d.rules[((qq : Nat) : Int).toNat]? = some r := by rw [Int.toNat_natCast]; exact hqr
                rw [← hfq]
                clear hHit
                refine wk ⟨?_⟩
                refine ar_lend hft ?_ (hx := PkL.cons (pk_rnr (g := 0) (L := 0) (e2 := 4) rfl rfl rfl lvL_len.symm) (PkL.cons (pk_list rfl) (PkL.cons (pk_int rfl) PkL.nil)))
                cases b with
                | false =>
                  refine wk ⟨?_⟩
                  have hTf : (fun p => (((rulesOf d (i : Int)).take (q + 1)).any fun z => ruleHit d x t j z p) || LL p) = f := by
                    rw [hTK]
                    funext p
                    rw [Bool.false_and, Bool.or_false]
                  refine a_next (q + 1) hlt (by omega) ?_
                  rw [hTf]
                  refine end0 ?_ ?_ (hS := SameG.same (by repeat' first | exact SameG.refl _ | refine SameG.cons rfl ?_)); all_goals repeat' first | exact trivial | refine And.intro ?_ ?_ | exact rn_int rfl | exact rn_list rfl | exact rn_row rfl ⟨rfl, rfl, rfl⟩ | exact rn_ptr rfl | exact rn_bool rfl | exact rn_agg rfl | exact rn_iptr rfl | exact rn_map rfl | exact rn_nrows rfl | exact rn_new rfl rfl rfl (by omega) | refine rn_int ?_ | refine rn_bool ?_ | refine rn_list ?_ | refine rn_row rfl ⟨?_, ?_, ?_⟩ | refine rn_nrow rfl ⟨rfl, ?_⟩ ?_ | refine rn_agg ?_ | exact Exists.intro _ ⟨rfl, RnB.cells (RnX.of_eq rfl), rfl⟩ | exact Exists.intro _ ⟨rfl, RnB.cells (RnX.of_eq (map_snoc rfl)), rfl⟩ | exact Exists.intro _ ⟨rfl, RnB.cells (RnX.of_eq (map_setc rfl)), rfl⟩ | exact Exists.intro _ ⟨rfl, RnB.cells (RnX.of_eq (map_inc rfl)), rfl⟩ | exact Exists.intro _ ⟨rfl, RnB.cells (RnX.of_eq (map_snocs rfl)), rfl⟩ | refine Exists.intro _ ⟨rfl, RnB.cells (RnX.cons (RnC.cons ?_ ?_ RnC.nil) RnX.nil), rfl⟩ | exact Exists.intro _ ⟨rfl, RnB.hole, rfl⟩ | refine Exists.intro _ ⟨rfl, rnm_of ?_, rfl⟩ | exact nrow_one | refine old_nbs ?_ rfl | refine old_nb ?_ ⟨?_, _, rfl, RnB.cells (RnX.of_eq (map_snoc rfl)), rfl⟩ | refine old_nb ?_ ⟨?_, _, rfl, RnB.cells (RnX.of_eq (map_snocs rfl)), rfl⟩ | refine old_nb ?_ ⟨?_, _, rfl, RnB.cells (RnX.of_eq (map_inc rfl)), rfl⟩ | refine old_nb ?_ ⟨?_, _, rfl, RnB.cells (RnX.of_eq rfl), rfl⟩ | rfl | (simp only []; omega) | (simp; done) | (simp; omega) | assumption
                | true =>
                  have hgl := hfx rfl
                  obtain ⟨IX, hIX⟩ : ∃ IX, IX = (j + r.eat.toNat) * t + r.dst.toNat := ⟨_, rfl⟩
                  have hIM : IX < M := by
                    have : (j + r.eat.toNat + 1) * t ≤ (x.length + 1) * t := Nat.mul_le_mul_right _ (by omega)
                    rw [hM, hIX]
                    rw [Nat.add_mul] at this
                    omega
                  have hJE : ((j : Int) + r.eat) * d.states = (((j + r.eat.toNat) * t : Nat) : Int) := by
                    rw [hk]
                    push_cast
                    rw [show ((r.eat.toNat : Nat) : Int) = r.eat by omega]
                  have hid2 : IntKind.i64.wrap (IntKind.i64.wrap (((j : Int) + r.eat) * d.states) + r.dst) = (IX : Int) := by
                    rw [hJE]
                    generalize (j + r.eat.toNat) * t = JE at hIX
                    rw [wrap_in (z := (JE : Int)) (by omega) (by omega), wrap_in (by omega) (by omega)]
                    omega
                  have hlf : (lvL M f)[IX]? = some (f IX) := lvL_at hIM
                  rw [← hIX] at hTK
                  refine wk ⟨?_⟩
                  rw [hid2]
                  refine wk ⟨?_⟩
                  have hTf : lvL M (fun p => (((rulesOf d (i : Int)).take (q + 1)).any fun z => ruleHit d x t j z p) || LL p) = (lvL M f).set IX true := by
                    rw [lvL_set, hTK]
                    congr 1
                  refine a_next (q + 1) hlt (by omega) ?_
                  rw [hTf]
                  refine end0 ?_ ?_ (hS := SameG.same (by repeat' first | exact SameG.refl _ | refine SameG.cons rfl ?_)); all_goals repeat' first | exact trivial | refine And.intro ?_ ?_ | exact rn_int rfl | exact rn_list rfl | exact rn_row rfl ⟨rfl, rfl, rfl⟩ | exact rn_ptr rfl | exact rn_bool rfl | exact rn_agg rfl | exact rn_iptr rfl | exact rn_map rfl | exact rn_nrows rfl | exact rn_new rfl rfl rfl (by omega) | refine rn_int ?_ | refine rn_bool ?_ | refine rn_list ?_ | refine rn_row rfl ⟨?_, ?_, ?_⟩ | refine rn_nrow rfl ⟨rfl, ?_⟩ ?_ | refine rn_agg ?_ | exact Exists.intro _ ⟨rfl, RnB.cells (RnX.of_eq rfl), rfl⟩ | exact Exists.intro _ ⟨rfl, RnB.cells (RnX.of_eq (map_snoc rfl)), rfl⟩ | exact Exists.intro _ ⟨rfl, RnB.cells (RnX.of_eq (map_setc rfl)), rfl⟩ | exact Exists.intro _ ⟨rfl, RnB.cells (RnX.of_eq (map_inc rfl)), rfl⟩ | exact Exists.intro _ ⟨rfl, RnB.cells (RnX.of_eq (map_snocs rfl)), rfl⟩ | refine Exists.intro _ ⟨rfl, RnB.cells (RnX.cons (RnC.cons ?_ ?_ RnC.nil) RnX.nil), rfl⟩ | exact Exists.intro _ ⟨rfl, RnB.hole, rfl⟩ | refine Exists.intro _ ⟨rfl, rnm_of ?_, rfl⟩ | exact nrow_one | refine old_nbs ?_ rfl | refine old_nb ?_ ⟨?_, _, rfl, RnB.cells (RnX.of_eq (map_snoc rfl)), rfl⟩ | refine old_nb ?_ ⟨?_, _, rfl, RnB.cells (RnX.of_eq (map_snocs rfl)), rfl⟩ | refine old_nb ?_ ⟨?_, _, rfl, RnB.cells (RnX.of_eq (map_inc rfl)), rfl⟩ | refine old_nb ?_ ⟨?_, _, rfl, RnB.cells (RnX.of_eq rfl), rfl⟩ | rfl | (simp only []; omega) | (simp; done) | (simp; omega) | assumption
          · rintro m hm
            subst hm
            rw [backZ_len, ordL_len]
            refine a_aft ?_
            refine wk ⟨?_⟩
            refine aft [2057] (by exact .pack (k := 12) (v := .iptr (intR.cells ((j + 1 : Nat) : Int))) (pk_boxw (r := intR) (x := ((j + 1 : Nat) : Int)) rfl rfl rfl) (.keep (k := 1) FV.list (.keep (k := 2) FV.iptr (.keep (k := 5) FV.ptr .nil)))) ?_
            refine a_next (j + 1) (by omega) (by omega) ?_
            rw [show ((rowP1 t j (ordL t)).take t).foldl (stepE (edgeB d x t)) (liveF d x t (ordL t) j) = liveF d x t (ordL t) (j + 1) by rw [liveF_succ, List.take_of_length_le (by rw [rowP1_len]; omega)]]
            refine end0 ?_ ?_ (hS := SameG.same (by repeat' first | exact SameG.refl _ | refine SameG.cons rfl ?_)); all_goals repeat' first | exact trivial | refine And.intro ?_ ?_ | exact rn_int rfl | exact rn_list rfl | exact rn_row rfl ⟨rfl, rfl, rfl⟩ | exact rn_ptr rfl | exact rn_bool rfl | exact rn_agg rfl | exact rn_iptr rfl | exact rn_map rfl | exact rn_nrows rfl | exact rn_new rfl rfl rfl (by omega) | refine rn_int ?_ | refine rn_bool ?_ | refine rn_list ?_ | refine rn_row rfl ⟨?_, ?_, ?_⟩ | refine rn_nrow rfl ⟨rfl, ?_⟩ ?_ | refine rn_agg ?_ | exact Exists.intro _ ⟨rfl, RnB.cells (RnX.of_eq rfl), rfl⟩ | exact Exists.intro _ ⟨rfl, RnB.cells (RnX.of_eq (map_snoc rfl)), rfl⟩ | exact Exists.intro _ ⟨rfl, RnB.cells (RnX.of_eq (map_setc rfl)), rfl⟩ | exact Exists.intro _ ⟨rfl, RnB.cells (RnX.of_eq (map_inc rfl)), rfl⟩ | exact Exists.intro _ ⟨rfl, RnB.cells (RnX.of_eq (map_snocs rfl)), rfl⟩ | refine Exists.intro _ ⟨rfl, RnB.cells (RnX.cons (RnC.cons ?_ ?_ RnC.nil) RnX.nil), rfl⟩ | exact Exists.intro _ ⟨rfl, RnB.hole, rfl⟩ | refine Exists.intro _ ⟨rfl, rnm_of ?_, rfl⟩ | exact nrow_one | refine old_nbs ?_ rfl | refine old_nb ?_ ⟨?_, _, rfl, RnB.cells (RnX.of_eq (map_snoc rfl)), rfl⟩ | refine old_nb ?_ ⟨?_, _, rfl, RnB.cells (RnX.of_eq (map_snocs rfl)), rfl⟩ | refine old_nb ?_ ⟨?_, _, rfl, RnB.cells (RnX.of_eq (map_inc rfl)), rfl⟩ | refine old_nb ?_ ⟨?_, _, rfl, RnB.cells (RnX.of_eq rfl), rfl⟩ | rfl | (simp only []; omega) | (simp; done) | (simp; omega) | assumption
          · refine SameS_of fun id _ _ => ?_
            by_cases h : id = 2055
            · subst h
              rfl
            · exact fam_cons_ne (Ne.symm h)
        · refine wk ⟨?_⟩
          refine ret_tmp (.inr rfl) rfl rfl (pk_rnr (g := 0) (L := 0) (e2 := 4) rfl ?_ rfl ?_)
          · rw [← hM]
            rfl
          · rw [← hM, lvL_len]
    · obtain ⟨hs0, hs1⟩ := hfs r (List.mem_of_getElem? hrj)
      have hjr : r.src.toNat < k := by omega
      have hT := outC_at (b := 1029) (g := g) (len := fun i => (xs i).length) hjr
      have hss : ((r.src.toNat : Nat) : Int) = r.src := by omega
      have hsr : (d.finals.map (·.src))[j]? = some ((r.src.toNat : Nat) : Int) := by rw [List.getElem?_map, hrj, hss]; rfl
      dsimp only
      refine wk ⟨?_⟩
      refine a_freeze0 [2053] (by exact .pack (k := 9) (v := .iptr (finalR.cells r)) (pk_boxw (r := finalR) (x := r) rfl rfl rfl) (.keep (k := 8) FV.int (.keep (k := 58) FV.int (.keep (k := 1) FV.list (.keep (k := 2) FV.ptr (.keep (k := 5) FV.ptr (.keep (k := 56) FV.list (.keep (k := 57) FV.int .nil)))))))) ?_
      by_cases hz : xs r.src.toNat = []
      · have hTz : (outC 1029 k g fun i => (xs i).length)[r.src.toNat]? = some [V.nil] := by rw [hT, hz]; rfl
        clear hT
        refine a_regionA [0, 2, 3, 4, 5, 6, 8, 9, 10, 11] [3, 4] ?_
        refine wk ⟨?_⟩
        refine a_next (⟨j + 1, fun i => if i = r.src.toNat then 0 else g i, fun i => if i = r.src.toNat then 0 else L i, fun i => if i = r.src.toNat then [(j : Int)] else xs i⟩ : FmSt) (hok.new hsr hz) (by simp only; omega) ?_
        refine endF1 (b := 1029) (K := 1024) (i := r.src.toNat) (k := 2055) (f := famY ⟨j, g, L, xs⟩) (cx := [(4, some (.cells 98 1 0 0 [[.ptr 3 0 0 0]])), (3, some (.cells 104 11 0 0 [rcC d x (intR.listR.L (rulesL d k)) (.row 2 0 0 k) .nil .nil])), (2, some (.cells 88 1 0 0 (outC 1029 k g fun i => (xs i).length))), (0, some (.cells 27 6 0 0 [descR.cells d]))]) (CS := [(4, some (.cells 98 1 0 0 [[.ptr 3 0 0 0]])), (3, some (.cells 104 11 0 0 [rcC d x (intR.listR.L (rulesL d k)) (.row 2 0 0 k) .nil .nil])), (2, some (.cells 88 1 0 0 (outC 1029 k (fun i => if i = r.src.toNat then 0 else g i) fun i => (if i = r.src.toNat then [(j : Int)] else xs i).length))), (0, some (.cells 27 6 0 0 [descR.cells d]))]) (by omega) ?_ ?_ (fun i hi hne => ?_) rfl (RnX.of_eq (r := intR) (ys := [(j : Int)]) rfl) ?_ ?_ ?_ (by decide) (by decide) (endG (x := r.src.toNat + 1029) (by repeat' first | exact Hd.refl _ | refine Hd.cons rfl ?_ | refine Hd.here ?_) (by omega))
        · all_goals repeat' first | exact Rn.row rfl | exact ⟨_, _, _, _, _, _, rfl, rfl, RnX.of_eq rfl⟩ | exact trivial | refine And.intro ?_ ?_ | exact rn_int rfl | exact rn_list rfl | exact rn_row rfl ⟨rfl, rfl, rfl⟩ | exact rn_ptr rfl | exact rn_bool rfl | exact rn_agg rfl | exact rn_iptr rfl | exact rn_map rfl | exact rn_nrows rfl | exact rn_new rfl rfl rfl (by omega) | refine rn_int ?_ | refine rn_bool ?_ | refine rn_list ?_ | refine rn_row rfl ⟨?_, ?_, ?_⟩ | refine rn_nrow rfl ⟨rfl, ?_⟩ ?_ | refine rn_agg ?_ | exact Exists.intro _ ⟨rfl, RnB.cells (RnX.of_eq rfl), rfl⟩ | exact Exists.intro _ ⟨rfl, RnB.cells (RnX.of_eq (map_snoc rfl)), rfl⟩ | exact Exists.intro _ ⟨rfl, RnB.cells (RnX.of_eq (map_setc rfl)), rfl⟩ | exact Exists.intro _ ⟨rfl, RnB.cells (RnX.of_eq (map_inc rfl)), rfl⟩ | exact Exists.intro _ ⟨rfl, RnB.cells (RnX.of_eq (map_snocs rfl)), rfl⟩ | refine Exists.intro _ ⟨rfl, RnB.cells (RnX.cons (RnC.cons ?_ ?_ RnC.nil) RnX.nil), rfl⟩ | exact Exists.intro _ ⟨rfl, RnB.hole, rfl⟩ | refine Exists.intro _ ⟨rfl, rnm_of ?_, rfl⟩ | exact nrow_one | refine old_nbs ?_ rfl | refine old_nb ?_ ⟨?_, _, rfl, RnB.cells (RnX.of_eq (map_snoc rfl)), rfl⟩ | refine old_nb ?_ ⟨?_, _, rfl, RnB.cells (RnX.of_eq (map_snocs rfl)), rfl⟩ | refine old_nb ?_ ⟨?_, _, rfl, RnB.cells (RnX.of_eq (map_inc rfl)), rfl⟩ | refine old_nb ?_ ⟨?_, _, rfl, RnB.cells (RnX.of_eq rfl), rfl⟩ | rfl | (simp only []; omega) | (simp; done) | (simp; omega) | assumption
        · refine ⟨⟨by simp, _, rfl, RnB.cells (RnX.cons (RnC.cons (rn_ptr rfl) rfl RnC.nil) RnX.nil), rfl⟩, ⟨by simp, _, rfl, RnB.cells (rnx_rc kp_list ⟨.keep (.row (by decide)), rfl⟩ kp_nil kp_nil), rfl⟩, ⟨by simp, _, rfl, RnB.cells (rnx_outC hjr (by omega) (fun i hne => by simp [hne]) ?_), rfl⟩, ⟨by simp, _, rfl, RnB.cells (RnX.of_eq (r := descR) (ys := [d]) rfl), rfl⟩, trivial⟩
          rw [if_pos rfl, if_pos rfl]
          exact rn_new rfl rfl rfl (by decide)
        · have e : famY ⟨j + 1, fun i => if i = r.src.toNat then 0 else g i, fun i => if i = r.src.toNat then 0 else L i, fun i => if i = r.src.toNat then [(j : Int)] else xs i⟩ i = famY ⟨j, g, L, xs⟩ i := by simp [famY, hne]
          rw [e]
          exact old_nbs (r := intR) (by omega) (Pass.fam (K := 1024) (x := 0) (f := famY ⟨j, g, L, xs⟩) (T := _) (by repeat' first | refine Pass.cons rfl ?_ | exact Pass.refl _) hi (by omega))
        · simp [famY, nb]
        · simp [famY, nb, hz]
        · refine (Pass.fam (K := 1024) (x := 0) (f := famY ⟨j, g, L, xs⟩) (T := _) (by repeat' first | refine Pass.cons rfl ?_ | exact Pass.refl _) (by omega) (by omega)).trans ?_
          simp [famY, nb, hz]
      · have hlen : 0 < (xs r.src.toNat).length := List.length_pos_iff.2 hz
        have hTz : (outC 1029 k g fun i => (xs i).length)[r.src.toNat]? = some [V.row (r.src.toNat + 1029) (g r.src.toNat) 0 (xs r.src.toNat).length] := by rw [hT, nrow_pos hlen]
        have hrow : famY ⟨j, g, L, xs⟩ r.src.toNat = some (.cells 3 1 (g r.src.toNat) (L r.src.toNat) ((xs r.src.toNat).map intR.cells)) := nb_pos (by simpa using hlen)
        clear hT
        have hxj := idxF_len (d.finals.map (·.src)) j r.src
        have hx2 := (hx1 r.src.toNat).2
        rw [hss] at hx2
        rw [← hx2] at hxj
        refine a_regionA [0, 2, 3, 4, 5, 6, 8, 9, 10, 11] [3, 4] ?_
        refine wk ⟨?_⟩
        refine gr_s ?_ (ev_app_row1m (hc := (Pass.fam (K := 1024) (x := 0) (T := _) (by repeat' first | refine Pass.cons rfl ?_ | exact Pass.refl _) (by omega) (by omega)).trans hrow))
        refine wk ⟨?_⟩
        refine a_next (⟨j + 1, fun i => if i = r.src.toNat then g i + 1 else g i, L, fun i => if i = r.src.toNat then xs i ++ [(j : Int)] else xs i⟩ : FmSt) (hok.grow hsr) (by simp only; omega) ?_
        refine endF0 (b := 1029) (K := 1024) (f := famY ⟨j, g, L, xs⟩) (cx := [(4, some (.cells 98 1 0 0 [[.ptr 3 0 0 0]])), (3, some (.cells 104 11 0 0 [rcC d x (intR.listR.L (rulesL d k)) (.row 2 0 0 k) .nil .nil])), (2, some (.cells 88 1 0 0 (outC 1029 k g fun i => (xs i).length))), (0, some (.cells 27 6 0 0 [descR.cells d]))]) (CS := [(4, some (.cells 98 1 0 0 [[.ptr 3 0 0 0]])), (3, some (.cells 104 11 0 0 [rcC d x (intR.listR.L (rulesL d k)) (.row 2 0 0 k) .nil .nil])), (2, some (.cells 88 1 0 0 (outC 1029 k (fun i => if i = r.src.toNat then g i + 1 else g i) fun i => (if i = r.src.toNat then xs i ++ [(j : Int)] else xs i).length))), (0, some (.cells 27 6 0 0 [descR.cells d]))]) ?_ ?_ (fun i hi => ?_) (endG (x := r.src.toNat + 1029) (by repeat' first | exact Hd.refl _ | refine Hd.cons rfl ?_ | refine Hd.here ?_) (by omega))
        · all_goals repeat' first | exact Rn.row rfl | exact ⟨_, _, _, _, _, _, rfl, rfl, RnX.of_eq rfl⟩ | exact trivial | refine And.intro ?_ ?_ | exact rn_int rfl | exact rn_list rfl | exact rn_row rfl ⟨rfl, rfl, rfl⟩ | exact rn_ptr rfl | exact rn_bool rfl | exact rn_agg rfl | exact rn_iptr rfl | exact rn_map rfl | exact rn_nrows rfl | exact rn_new rfl rfl rfl (by omega) | refine rn_int ?_ | refine rn_bool ?_ | refine rn_list ?_ | refine rn_row rfl ⟨?_, ?_, ?_⟩ | refine rn_nrow rfl ⟨rfl, ?_⟩ ?_ | refine rn_agg ?_ | exact Exists.intro _ ⟨rfl, RnB.cells (RnX.of_eq rfl), rfl⟩ | exact Exists.intro _ ⟨rfl, RnB.cells (RnX.of_eq (map_snoc rfl)), rfl⟩ | exact Exists.intro _ ⟨rfl, RnB.cells (RnX.of_eq (map_setc rfl)), rfl⟩ | exact Exists.intro _ ⟨rfl, RnB.cells (RnX.of_eq (map_inc rfl)), rfl⟩ | exact Exists.intro _ ⟨rfl, RnB.cells (RnX.of_eq (map_snocs rfl)), rfl⟩ | refine Exists.intro _ ⟨rfl, RnB.cells (RnX.cons (RnC.cons ?_ ?_ RnC.nil) RnX.nil), rfl⟩ | exact Exists.intro _ ⟨rfl, RnB.hole, rfl⟩ | refine Exists.intro _ ⟨rfl, rnm_of ?_, rfl⟩ | exact nrow_one | refine old_nbs ?_ rfl | refine old_nb ?_ ⟨?_, _, rfl, RnB.cells (RnX.of_eq (map_snoc rfl)), rfl⟩ | refine old_nb ?_ ⟨?_, _, rfl, RnB.cells (RnX.of_eq (map_snocs rfl)), rfl⟩ | refine old_nb ?_ ⟨?_, _, rfl, RnB.cells (RnX.of_eq (map_inc rfl)), rfl⟩ | refine old_nb ?_ ⟨?_, _, rfl, RnB.cells (RnX.of_eq rfl), rfl⟩ | rfl | (simp only []; omega) | (simp; done) | (simp; omega) | assumption
        · refine ⟨⟨by simp, _, rfl, RnB.cells (RnX.cons (RnC.cons (rn_ptr rfl) rfl RnC.nil) RnX.nil), rfl⟩, ⟨by simp, _, rfl, RnB.cells (rnx_rc kp_list ⟨.keep (.row (by decide)), rfl⟩ kp_nil kp_nil), rfl⟩, ⟨by simp, _, rfl, RnB.cells (rnx_outC hjr (by omega) (fun i hne => by simp [hne]) ?_), rfl⟩, ⟨by simp, _, rfl, RnB.cells (RnX.of_eq (r := descR) (ys := [d]) rfl), rfl⟩, trivial⟩
          rw [if_pos rfl, if_pos rfl]
          exact rn_nrow (by simp only [Nat.blt_eq]; omega) ⟨rfl, by simp⟩ (by omega)
        · by_cases hji : i = r.src.toNat
          · subst hji
            have e : famY ⟨j + 1, fun i => if i = r.src.toNat then g i + 1 else g i, L, fun i => if i = r.src.toNat then xs i ++ [(j : Int)] else xs i⟩ r.src.toNat = nb 3 1 (g r.src.toNat + 1) (L r.src.toNat) ((xs r.src.toNat ++ [(j : Int)]).map intR.cells) := by simp [famY]
            rw [e]
            refine old_nbs (r := intR) (by omega) ?_
            rw [nb_pos (by simp)]
            rw [fam_cons_ne (by simp only; omega), slk_here, List.map_append]
            rfl
          · have e : famY ⟨j + 1, fun i => if i = r.src.toNat then g i + 1 else g i, L, fun i => if i = r.src.toNat then xs i ++ [(j : Int)] else xs i⟩ i = famY ⟨j, g, L, xs⟩ i := by simp [famY, hji]
            rw [e]
            exact old_nbs (r := intR) (by omega) (Pass.fam (K := 1024) (x := r.src.toNat + 1029) (f := famY ⟨j, g, L, xs⟩) (T := _) (by repeat' first | refine Pass.cons rfl ?_ | refine Pass.here ?_ | exact Pass.refl _) hi (by omega))
  · obtain ⟨hs0, hs1⟩ := hrs r (List.mem_of_getElem? hrj)
    have hjr : r.src.toNat < k := by omega
    have hT := outC_at (b := 5) (g := g) (len := fun i => (xs i).length) hjr
    have hss : ((r.src.toNat : Nat) : Int) = r.src := by omega
    have hsr : (d.rules.map (·.src))[j]? = some ((r.src.toNat : Nat) : Int) := by rw [List.getElem?_map, hrj, hss]; rfl
    dsimp only
    refine wk ⟨?_⟩
    refine a_freeze0 [1029] (by exact .pack (k := 7) (v := .iptr (ruleR.cells r)) (pk_boxw (r := ruleR) (x := r) rfl rfl rfl) (.keep (k := 6) FV.int (.keep (k := 31) FV.int (.keep (k := 1) FV.list (.keep (k := 2) FV.ptr (.keep (k := 5) FV.ptr (.keep (k := 29) FV.list (.keep (k := 30) FV.int .nil)))))))) ?_
    by_cases hz : xs r.src.toNat = []
    · have hTz : (outC 5 k g fun i => (xs i).length)[r.src.toNat]? = some [V.nil] := by rw [hT, hz]; rfl
      clear hT
      refine a_regionA [0, 2, 3, 4, 5, 6, 8, 9, 10, 11] [3, 4] ?_
      refine wk ⟨?_⟩
      refine a_next (⟨j + 1, fun i => if i = r.src.toNat then 0 else g i, fun i => if i = r.src.toNat then 0 else L i, fun i => if i = r.src.toNat then [(j : Int)] else xs i⟩ : FmSt) (hok.new hsr hz) (by simp only; omega) ?_
      refine endF1 (b := 5) (K := 1024) (i := r.src.toNat) (k := 1031) (f := famY ⟨j, g, L, xs⟩) (cx := [(4, some (.cells 98 1 0 0 [[.ptr 3 0 0 0]])), (3, some (.cells 104 11 0 0 [rcC d x (.row 1 0 0 k) (.row 2 0 0 k) .nil .nil])), (2, some (.cells 88 1 0 0 (List.replicate k [V.nil]))), (1, some (.cells 88 1 0 0 (outC 5 k g fun i => (xs i).length))), (0, some (.cells 27 6 0 0 [descR.cells d]))]) (CS := [(4, some (.cells 98 1 0 0 [[.ptr 3 0 0 0]])), (3, some (.cells 104 11 0 0 [rcC d x (.row 1 0 0 k) (.row 2 0 0 k) .nil .nil])), (2, some (.cells 88 1 0 0 (List.replicate k [V.nil]))), (1, some (.cells 88 1 0 0 (outC 5 k (fun i => if i = r.src.toNat then 0 else g i) fun i => (if i = r.src.toNat then [(j : Int)] else xs i).length))), (0, some (.cells 27 6 0 0 [descR.cells d]))]) (by omega) ?_ ?_ (fun i hi hne => ?_) rfl (RnX.of_eq (r := intR) (ys := [(j : Int)]) rfl) ?_ ?_ ?_ (by decide) (by decide) (endG (x := r.src.toNat + 5) (by repeat' first | exact Hd.refl _ | refine Hd.cons rfl ?_ | refine Hd.here ?_) (by omega))
      · all_goals repeat' first | exact Rn.row rfl | exact ⟨_, _, _, _, _, _, rfl, rfl, RnX.of_eq rfl⟩ | exact trivial | refine And.intro ?_ ?_ | exact rn_int rfl | exact rn_list rfl | exact rn_row rfl ⟨rfl, rfl, rfl⟩ | exact rn_ptr rfl | exact rn_bool rfl | exact rn_agg rfl | exact rn_iptr rfl | exact rn_map rfl | exact rn_nrows rfl | exact rn_new rfl rfl rfl (by omega) | refine rn_int ?_ | refine rn_bool ?_ | refine rn_list ?_ | refine rn_row rfl ⟨?_, ?_, ?_⟩ | refine rn_nrow rfl ⟨rfl, ?_⟩ ?_ | refine rn_agg ?_ | exact Exists.intro _ ⟨rfl, RnB.cells (RnX.of_eq rfl), rfl⟩ | exact Exists.intro _ ⟨rfl, RnB.cells (RnX.of_eq (map_snoc rfl)), rfl⟩ | exact Exists.intro _ ⟨rfl, RnB.cells (RnX.of_eq (map_setc rfl)), rfl⟩ | exact Exists.intro _ ⟨rfl, RnB.cells (RnX.of_eq (map_inc rfl)), rfl⟩ | exact Exists.intro _ ⟨rfl, RnB.cells (RnX.of_eq (map_snocs rfl)), rfl⟩ | refine Exists.intro _ ⟨rfl, RnB.cells (RnX.cons (RnC.cons ?_ ?_ RnC.nil) RnX.nil), rfl⟩ | exact Exists.intro _ ⟨rfl, RnB.hole, rfl⟩ | refine Exists.intro _ ⟨rfl, rnm_of ?_, rfl⟩ | exact nrow_one | refine old_nbs ?_ rfl | refine old_nb ?_ ⟨?_, _, rfl, RnB.cells (RnX.of_eq (map_snoc rfl)), rfl⟩ | refine old_nb ?_ ⟨?_, _, rfl, RnB.cells (RnX.of_eq (map_snocs rfl)), rfl⟩ | refine old_nb ?_ ⟨?_, _, rfl, RnB.cells (RnX.of_eq (map_inc rfl)), rfl⟩ | refine old_nb ?_ ⟨?_, _, rfl, RnB.cells (RnX.of_eq rfl), rfl⟩ | rfl | (simp only []; omega) | (simp; done) | (simp; omega) | assumption
      · refine ⟨⟨by simp, _, rfl, RnB.cells (RnX.cons (RnC.cons (rn_ptr rfl) rfl RnC.nil) RnX.nil), rfl⟩, ⟨by simp, _, rfl, RnB.cells (rnx_rc ⟨.keep (.row (by decide)), rfl⟩ ⟨.keep (.row (by decide)), rfl⟩ kp_nil kp_nil), rfl⟩, ⟨by simp, _, rfl, RnB.cells (rnx_nils (by omega)), rfl⟩, ⟨by simp, _, rfl, RnB.cells (rnx_outC hjr (by omega) (fun i hne => by simp [hne]) ?_), rfl⟩, ⟨by simp, _, rfl, RnB.cells (RnX.of_eq (r := descR) (ys := [d]) rfl), rfl⟩, trivial⟩
        rw [if_pos rfl, if_pos rfl]
        exact rn_new rfl rfl rfl (by decide)
      · have e : famY ⟨j + 1, fun i => if i = r.src.toNat then 0 else g i, fun i => if i = r.src.toNat then 0 else L i, fun i => if i = r.src.toNat then [(j : Int)] else xs i⟩ i = famY ⟨j, g, L, xs⟩ i := by simp [famY, hne]
        rw [e]
        exact old_nbs (r := intR) (by omega) (Pass.fam (K := 1024) (x := 0) (f := famY ⟨j, g, L, xs⟩) (T := _) (by repeat' first | refine Pass.cons rfl ?_ | exact Pass.refl _) hi (by omega))
      · simp [famY, nb]
      · simp [famY, nb, hz]
      · refine (Pass.fam (K := 1024) (x := 0) (f := famY ⟨j, g, L, xs⟩) (T := _) (by repeat' first | refine Pass.cons rfl ?_ | exact Pass.refl _) (by omega) (by omega)).trans ?_
        simp [famY, nb, hz]
    · have hlen : 0 < (xs r.src.toNat).length := List.length_pos_iff.2 hz
      have hTz : (outC 5 k g fun i => (xs i).length)[r.src.toNat]? = some [V.row (r.src.toNat + 5) (g r.src.toNat) 0 (xs r.src.toNat).length] := by rw [hT, nrow_pos hlen]
      have hrow : famY ⟨j, g, L, xs⟩ r.src.toNat = some (.cells 3 1 (g r.src.toNat) (L r.src.toNat) ((xs r.src.toNat).map intR.cells)) := nb_pos (by simpa using hlen)
      clear hT
      have hxj := idxF_len (d.rules.map (·.src)) j r.src
      have hx2 := (hx1 r.src.toNat).2
      rw [hss] at hx2
      rw [← hx2] at hxj
      refine a_regionA [0, 2, 3, 4, 5, 6, 8, 9, 10, 11] [3, 4] ?_
      refine wk ⟨?_⟩
      refine gr_s ?_ (ev_app_row1m (hc := (Pass.fam (K := 1024) (x := 0) (T := _) (by repeat' first | refine Pass.cons rfl ?_ | exact Pass.refl _) (by omega) (by omega)).trans hrow))
      refine wk ⟨?_⟩
      refine a_next (⟨j + 1, fun i => if i = r.src.toNat then g i + 1 else g i, L, fun i => if i = r.src.toNat then xs i ++ [(j : Int)] else xs i⟩ : FmSt) (hok.grow hsr) (by simp only; omega) ?_
      refine endF0 (b := 5) (K := 1024) (f := famY ⟨j, g, L, xs⟩) (cx := [(4, some (.cells 98 1 0 0 [[.ptr 3 0 0 0]])), (3, some (.cells 104 11 0 0 [rcC d x (.row 1 0 0 k) (.row 2 0 0 k) .nil .nil])), (2, some (.cells 88 1 0 0 (List.replicate k [V.nil]))), (1, some (.cells 88 1 0 0 (outC 5 k g fun i => (xs i).length))), (0, some (.cells 27 6 0 0 [descR.cells d]))]) (CS := [(4, some (.cells 98 1 0 0 [[.ptr 3 0 0 0]])), (3, some (.cells 104 11 0 0 [rcC d x (.row 1 0 0 k) (.row 2 0 0 k) .nil .nil])), (2, some (.cells 88 1 0 0 (List.replicate k [V.nil]))), (1, some (.cells 88 1 0 0 (outC 5 k (fun i => if i = r.src.toNat then g i + 1 else g i) fun i => (if i = r.src.toNat then xs i ++ [(j : Int)] else xs i).length))), (0, some (.cells 27 6 0 0 [descR.cells d]))]) ?_ ?_ (fun i hi => ?_) (endG (x := r.src.toNat + 5) (by repeat' first | exact Hd.refl _ | refine Hd.cons rfl ?_ | refine Hd.here ?_) (by omega))
      · all_goals repeat' first | exact Rn.row rfl | exact ⟨_, _, _, _, _, _, rfl, rfl, RnX.of_eq rfl⟩ | exact trivial | refine And.intro ?_ ?_ | exact rn_int rfl | exact rn_list rfl | exact rn_row rfl ⟨rfl, rfl, rfl⟩ | exact rn_ptr rfl | exact rn_bool rfl | exact rn_agg rfl | exact rn_iptr rfl | exact rn_map rfl | exact rn_nrows rfl | exact rn_new rfl rfl rfl (by omega) | refine rn_int ?_ | refine rn_bool ?_ | refine rn_list ?_ | refine rn_row rfl ⟨?_, ?_, ?_⟩ | refine rn_nrow rfl ⟨rfl, ?_⟩ ?_ | refine rn_agg ?_ | exact Exists.intro _ ⟨rfl, RnB.cells (RnX.of_eq rfl), rfl⟩ | exact Exists.intro _ ⟨rfl, RnB.cells (RnX.of_eq (map_snoc rfl)), rfl⟩ | exact Exists.intro _ ⟨rfl, RnB.cells (RnX.of_eq (map_setc rfl)), rfl⟩ | exact Exists.intro _ ⟨rfl, RnB.cells (RnX.of_eq (map_inc rfl)), rfl⟩ | exact Exists.intro _ ⟨rfl, RnB.cells (RnX.of_eq (map_snocs rfl)), rfl⟩ | refine Exists.intro _ ⟨rfl, RnB.cells (RnX.cons (RnC.cons ?_ ?_ RnC.nil) RnX.nil), rfl⟩ | exact Exists.intro _ ⟨rfl, RnB.hole, rfl⟩ | refine Exists.intro _ ⟨rfl, rnm_of ?_, rfl⟩ | exact nrow_one | refine old_nbs ?_ rfl | refine old_nb ?_ ⟨?_, _, rfl, RnB.cells (RnX.of_eq (map_snoc rfl)), rfl⟩ | refine old_nb ?_ ⟨?_, _, rfl, RnB.cells (RnX.of_eq (map_snocs rfl)), rfl⟩ | refine old_nb ?_ ⟨?_, _, rfl, RnB.cells (RnX.of_eq (map_inc rfl)), rfl⟩ | refine old_nb ?_ ⟨?_, _, rfl, RnB.cells (RnX.of_eq rfl), rfl⟩ | rfl | (simp only []; omega) | (simp; done) | (simp; omega) | assumption
      · refine ⟨⟨by simp, _, rfl, RnB.cells (RnX.cons (RnC.cons (rn_ptr rfl) rfl RnC.nil) RnX.nil), rfl⟩, ⟨by simp, _, rfl, RnB.cells (rnx_rc ⟨.keep (.row (by decide)), rfl⟩ ⟨.keep (.row (by decide)), rfl⟩ kp_nil kp_nil), rfl⟩, ⟨by simp, _, rfl, RnB.cells (rnx_nils (by omega)), rfl⟩, ⟨by simp, _, rfl, RnB.cells (rnx_outC hjr (by omega) (fun i hne => by simp [hne]) ?_), rfl⟩, ⟨by simp, _, rfl, RnB.cells (RnX.of_eq (r := descR) (ys := [d]) rfl), rfl⟩, trivial⟩
        rw [if_pos rfl, if_pos rfl]
        exact rn_nrow (by simp only [Nat.blt_eq]; omega) ⟨rfl, by simp⟩ (by omega)
      · by_cases hji : i = r.src.toNat
        · subst hji
          have e : famY ⟨j + 1, fun i => if i = r.src.toNat then g i + 1 else g i, L, fun i => if i = r.src.toNat then xs i ++ [(j : Int)] else xs i⟩ r.src.toNat = nb 3 1 (g r.src.toNat + 1) (L r.src.toNat) ((xs r.src.toNat ++ [(j : Int)]).map intR.cells) := by simp [famY]
          rw [e]
          refine old_nbs (r := intR) (by omega) ?_
          rw [nb_pos (by simp)]
          rw [fam_cons_ne (by simp only; omega), slk_here, List.map_append]
          rfl
        · have e : famY ⟨j + 1, fun i => if i = r.src.toNat then g i + 1 else g i, L, fun i => if i = r.src.toNat then xs i ++ [(j : Int)] else xs i⟩ i = famY ⟨j, g, L, xs⟩ i := by simp [famY, hji]
          rw [e]
          exact old_nbs (r := intR) (by omega) (Pass.fam (K := 1024) (x := r.src.toNat + 5) (f := famY ⟨j, g, L, xs⟩) (T := _) (by repeat' first | refine Pass.cons rfl ?_ | refine Pass.here ?_ | exact Pass.refl _) hi (by omega))
end Go.Proofs.YtofcjmjokokajaaGreat
