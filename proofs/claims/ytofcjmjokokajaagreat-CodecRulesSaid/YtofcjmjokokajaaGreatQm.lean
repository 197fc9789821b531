/-
  The walk's steps in regions whose loads have flat operands. No program is named here. Families of rows: many rows under names one behind the other. No program is named here. Methods: calls that look at blocks of their caller's, or change them. No program is named here.
-/
import Derived.Test.YtofcjmjokokajaaGreatQl
namespace Go.Vm
open Go.RowKit
section
variable {P : Program} {N : Nat} {ops : Array Oper} {F : List Nat} {K : APost} {i : Nat} {l : List Oper} {E : AEnv} {S S' : ASt} {n n' : Nat}
theorem flat_no {op : Op} (h : F.contains i = false) : F.contains i = true → FlatA E op := fun q => by rw [h] at q; cases q
theorem fr_s {d : Nat} {op : Op} {ty : TypeId} {pos : String} {aft : Array Edge} {v : V} (K' : frun P N ops F K (i + 1) l ((d, v) :: E) S' n') (h : Ev P E S n op v S' n' := by first | exact ev_move | (apply g_load; first | exact ev_load_box | exact ev_iload | exact ev_load_row | exact ev_load_raw | exact ev_load_all | exact ev_iload_all | exact ev_load_row_all | exact ev_load_raw_all | exact ev_load_part | exact ev_iload_part | exact ev_load_nb | exact ev_load_nb_all) | (apply g_fieldAddr; first | exact ev_field_ptr | exact ev_field_iptr) | (apply g_binOp; first | exact ev_add | exact ev_sub | exact ev_eql | exact ev_neq | exact ev_bin | exact ev_shr | exact ev_shl | exact ev_aggeq | exact ev_aggneq | exact ev_shift | exact ev_strop | exact ev_booleq | exact ev_boolneq) | (apply g_indexAddr; first | exact ev_idx | exact ev_idx_nat | exact ev_idx_row0 | exact ev_idx_row | exact ev_idx_get | exact ev_idx_raw | exact ev_idx_nrow) | exact ev_assign | (apply g_call_len; first | exact ev_len | exact ev_len_row | exact ev_len_nil | exact ev_len_str | exact ev_len_raw | exact ev_len_nrow) | (apply g_call_append; first | exact ev_app_nil1 | exact ev_app_row1 | exact ev_app_row1m | exact ev_app_in1 | exact ev_app_nilL | exact ev_app_nil0 | exact ev_app_rowL | exact ev_app_rowLm) | exact ev_extract | (apply g_alloc; first | exact ev_alloc | exact ev_alloc1) | (apply g_box; first | exact ev_box | exact ev_box1) | (apply g_buildSlice; first | exact ev_lit1 | exact ev_lit) | exact ev_build | (apply g_pick; first | exact ev_pick_t | exact ev_pick_f) | exact ev_un | (apply g_slice; first | exact ev_from | exact ev_upto | exact ev_from_row | exact ev_upto_row) | (apply g_field; first | exact ev_field | exact ev_field_agg) | exact ev_make | (apply g_convert; first | exact ev_conv | exact ev_convint) | exact ev_max | exact ev_min | (apply g_makeFunc; first | exact ev_func | exact ev_func1 | exact ev_func2 | exact ev_func3) | (apply g_nilCheck; first | exact ev_nilptr | exact ev_niliptr)) (hf : F.contains i = true → FlatA E op := by first | exact flat_no rfl | exact fun _ => .no rfl | exact fun _ => .load rfl | exact fun _ => .fld rfl) : frun P N ops F K i (⟨some d, op, ty, pos, aft, none⟩ :: l) E S n := fr_some K' h hf
theorem fr_n {op : Op} {ty : TypeId} {pos : String} {aft : Array Edge} {v : V} (K' : frun P N ops F K (i + 1) l E S' n') (h : Ev P E S n op v S' n' := by first | (apply g_store; first | exact ev_store_box | exact ev_store_typed | exact ev_store_row | exact ev_store_raw)) (hf : F.contains i = true → FlatA E op := by first | exact flat_no rfl | exact fun _ => .no rfl | exact fun _ => .load rfl | exact fun _ => .fld rfl) : frun P N ops F K i (⟨none, op, ty, pos, aft, none⟩ :: l) E S n := fr_none K' h hf
theorem a_freeze0 {c : Code} {Q : XPost} {B : AEnv} (ids : List Nat) (hB : FzE (restr ids (slk S)) E B) (h : awp P N c Q B (ids.map (fun i => (i, some .void)) ++ S) n) (hi : ids.all (fun i => (slk S i).isSome) = true := by rfl) : awp P N c Q E S n := fun hc => by
  have hid : ∀ i ∈ ids, slk S i ≠ none := fun i hm q => by
    have := List.all_eq_true.1 hi i hm
    rw [q] at this
    cases this
  have hS : upd (slk S) (voids ids) = slk (ids.map (fun i => (i, some .void)) ++ S) := by
    funext id
    rw [upd_voids]
    by_cases hm : id ∈ ids
    · rw [if_pos hm, slk_app.1 (by simpa using hm)]
      clear hi hid hB h
      induction ids with
      | nil => simp at hm
      | cons i r ih =>
        by_cases q : i = id
        · subst q; simp [slk]
        · have := ih (by simpa [Ne.symm q] using hm)
          simpa [slk, beq_no q] using this
    · rw [if_neg hm, slk_app.2 (by simpa using hm)]
  have h' := h hc
  rw [← hS] at h'
  refine vwp_to (ids := ids) (fun w Sb G hs => Nxt.freeze hs ids) (fun id hs => ?_) (by rw [toL_length, toL_length]) (fun i v v' a b => ?_) h'
  · rw [upd_voids, if_neg (fun hm => hid id hm hs), hs]
  · have hi' : i < N := by have := (List.getElem?_eq_some_iff.1 a).1; rwa [toL_length] at this
    rw [toL_at hi'] at a b
    cases a
    cases b
    exact hB.at i
end
end Go.Vm
namespace Go.Vm
open Go.RowKit
def fam (b K : Nat) (f : Nat → Option Blk) : ASt := (List.range K).map fun i => (i + b, f i)
theorem fam_keys (b K : Nat) (f : Nat → Option Blk) : (fam b K f).map (·.1) = List.range' b K := by
  unfold fam
  rw [List.map_map, List.range'_eq_map_range]
  exact List.map_congr_left fun i _ => Nat.add_comm i b
theorem fam_mem {b K : Nat} {f : Nat → Option Blk} {id : Nat} : id ∈ (fam b K f).map (·.1) ↔ b ≤ id ∧ id < b + K := by
  rw [fam_keys, List.mem_range'_1]
theorem slk_map {b : Nat} {f : Nat → Option Blk} {i : Nat} : ∀ {l : List Nat}, i ∈ l → slk (l.map fun j => (j + b, f j)) (i + b) = f i
  | [], h => by simp at h
  | j :: l, h => by
    by_cases hj : j = i
    · subst hj; simp [slk]
    · have hi : i ∈ l := (List.mem_cons.1 h).resolve_left (fun q => hj q.symm)
      have := slk_map (b := b) (f := f) hi
      simpa [slk, beq_no (show j + b ≠ i + b by omega)] using this
theorem slk_fam {b K : Nat} {f : Nat → Option Blk} {S : ASt} {i : Nat} (h : i < K) : slk (fam b K f ++ S) (i + b) = f i := by
  rw [slk_app.1 (fam_mem.2 ⟨by omega, by omega⟩)]
  exact slk_map (List.mem_range.2 h)
theorem slk_fam_ne {b K : Nat} {f : Nat → Option Blk} {S : ASt} {id : Nat} (h : id < b ∨ b + K ≤ id) : slk (fam b K f ++ S) id = slk S id := slk_app.2 (fun q => by have := fam_mem.1 q; omega)
theorem holes_at : ∀ {K n id : Nat} {S : ASt}, n ≤ id → id < n + K → slk (holes n K ++ S) id = some .hole
  | 0, n, id, S, h1, h2 => by omega
  | K + 1, n, id, S, h1, h2 => by
    by_cases hi : n + K = id
    · subst hi; simp [holes, slk]
    · have := holes_at (K := K) (n := n) (id := id) (S := S) h1 (by omega)
      simpa [holes, slk, beq_no hi] using this
theorem holes_fam {n K : Nat} {S : ASt} {id : Nat} : slk (holes n K ++ S) id = slk (fam n K (fun _ => some .hole) ++ S) id := by
  by_cases h : n ≤ id ∧ id < n + K
  · obtain ⟨i, rfl⟩ : ∃ i, id = i + n := ⟨id - n, by omega⟩
    rw [holes_at h.1 h.2, slk_fam (by omega)]
  · rw [slk_fam_ne (by omega)]
    by_cases h2 : n + K ≤ id
    · exact slk_app.2 (holes_ge h2)
    · refine slk_app.2 fun q => ?_
      have key : ∀ (K : Nat), id ∉ (holes n K).map (·.1) := fun K => by
        induction K with
        | zero => simp [holes]
        | succ K ih =>
          simp only [holes, List.map_cons, List.mem_cons, not_or]
          exact ⟨by omega, ih⟩
      exact key K q
section
variable {P : Program} {N : Nat} {Q : XPost} {E : AEnv} {S : ASt} {n : Nat}
theorem a_loopF {c : Code} {σ : Type} (K : Nat) {B : AEnv} (kept : List Nat) (chg : σ → AEnv) (cx : σ → ASt) (ok : σ → Prop) (μ : σ → Nat) (x0 : σ) (h0 : ok x0)
    (hs : ∀ id, slk (cx x0 ++ S) id = slk (holes n K ++ S) id)
    (round : ∀ x, ok x → awp P N c (thenA (NextQ (n + K) S B chg cx ok μ x) Q) (chg x ++ B) (cx x ++ S) (n + K))
    (hB : KeepE E kept B := by repeat' (first | exact KeepE.nil | exact FV.int | exact FV.list | exact FV.row | exact FV.bool | exact FV.agg | exact FV.nil | exact FV.ptr | exact FV.iptr | exact FV.str | exact FV.map | exact FV.tuple | exact FV.func | exact FV.nrow | apply KeepE.cons)) (hE : AllE E (chg x0) := by repeat' (first | exact trivial | refine And.intro rfl ?_)) : awp P N (.loop c) Q E S n := fun hc => by
  have hall : ∀ t, lk (chg x0 ++ B) t = .any ∨ lk E t = lk (chg x0 ++ B) t := by
    have : AllE E (chg x0 ++ B) := by
      have hb := hB.all
      revert hE
      generalize chg x0 = C
      intro hE
      induction C with
      | nil => exact hb
      | cons p r ih => exact ⟨hE.1, ih hE.2⟩
    exact this.at
  refine vwp_holes K ?_
  refine vwp_loops (fun x => toL N (chg x ++ B)) (fun x => slk (cx x ++ S)) ok μ x0 (Sub.fg fun t _ => hall t) (funext fun id => (hs id).symm) h0 fun x hx => ?_
  refine vwp_mono (round x hx hc) ?_
  rintro ex _ _ n' ⟨E', S', rfl, rfl, hq⟩
  cases ex with
  | normal =>
    obtain ⟨y, hy, he⟩ := hq
    exact ⟨y, hy, he N⟩
  | exit id => exact ⟨E', S', rfl, rfl, hq⟩
  | goto l => exact ⟨E', S', rfl, rfl, hq⟩
  | ret => exact ⟨E', S', rfl, rfl, hq⟩
  | panic c => exact ⟨E', S', rfl, rfl, hq⟩
  | outgrown => exact ⟨E', S', rfl, rfl, hq⟩
end
theorem SameS_of {ks : List Nat} {S' S : ASt} : ∀ {N : Nat}, (∀ id, id < N → id ∉ ks → slk S' id = slk S id) → SameS ks S' S N
  | 0, _ => trivial
  | N + 1, h => by
    refine ⟨SameS_of fun id hid hk => h id (by omega) hk, ?_⟩
    cases hc : ks.contains N with
    | true => trivial
    | false => exact h N (Nat.lt_succ_self N) (by simpa using hc)
theorem AllB_append {N t : Nat} {S' Sx : ASt} {ks : List Nat} : ∀ {a b : ASt}, AllB N t S' ks Sx a → AllB N t S' ks Sx b → AllB N t S' ks Sx (a ++ b)
  | [], _, _, h => h
  | _ :: _, _, h, h2 => ⟨h.1, AllB_append h.2 h2⟩
theorem AllB_map {N t : Nat} {S' Sx : ASt} {ks : List Nat} {b : Nat} {f : Nat → Option Blk} : ∀ {l : List Nat}, (∀ i ∈ l, OldB N t S' ks Sx (i + b) (f i)) → AllB N t S' ks Sx (l.map fun i => (i + b, f i))
  | [], _ => trivial
  | i :: l, h => ⟨h i (by simp), AllB_map fun j hj => h j (by simp [hj])⟩
def outF (b K : Nat) (l : List Nat) : Bool := l.all fun i => Nat.blt i b || Nat.ble (b + K) i
theorem outF_nd {b K : Nat} {f : Nat → Option Blk} {cx : ASt} (h : outF b K (cx.map (·.1)) = true) (hn : ndB (cx.map (·.1)) = true) : ((cx ++ fam b K f).map (·.1)).Nodup := by
  rw [List.map_append, List.nodup_append]
  refine ⟨ndB_nd hn, by rw [fam_keys]; exact List.nodup_range', fun x hx y hy hxy => ?_⟩
  subst hxy
  have h1 := List.all_eq_true.1 h x hx
  have h2 := fam_mem.1 hy
  simp only [Bool.or_eq_true, Nat.blt_eq, Nat.ble_eq] at h1
  omega
section
variable {N : Nat} {S S' : ASt}
theorem endF0 {E' C : AEnv} {cx CS : ASt} {b K : Nat} {f f' : Nat → Option Blk} (hE : AllR N N S' [] E' C) (hB : AllB N N S' [] (cx ++ fam b K f ++ S) CS) (hF : ∀ i, i < K → OldB N N S' [] (cx ++ fam b K f ++ S) (i + b) (f' i))
    (hS : ∀ id, id < N → id ∉ (cx ++ fam b K f).map (·.1) → slk S' id = slk S id) (hky : CS.map (·.1) = cx.map (·.1) := by rfl) (hnd : ndB (cx.map (·.1)) = true := by rfl) (ho : outF b K (cx.map (·.1)) = true := by rfl) : EndA N S (cx ++ fam b K f ++ S) E' S' C (CS ++ fam b K f') := fun NN => by
  have hk : (CS ++ fam b K f').map (·.1) = (cx ++ fam b K f).map (·.1) := by rw [List.map_append, List.map_append, hky, fam_keys, fam_keys]
  have := ends_of (CN := []) (ks := []) (NN := NN) (t := N) (cx := cx ++ fam b K f) (CS := CS ++ fam b K f') rfl rfl (by rw [List.append_nil, hk]) (outF_nd ho hnd) (Nat.le_refl _) (fun id a b => by simp at b; omega) (by simp) (by simp) hE (AllB_append hB (AllB_map fun i hi => hF i (List.mem_range.1 hi))) (SameS_of hS) rfl (fun j k h => by simp at h) (fun id _ => (Nat.lt_or_ge id N).elim .inl fun q => .inr (by simpa using q))
  simpa using this
theorem filter_ne_perm {l : List Nat} {i : Nat} (hn : l.Nodup) (hi : i ∈ l) : (l.filter (fun j => j != i) ++ [i]).Perm l := by
  refine (List.perm_ext_iff_of_nodup ?_ hn).2 fun a => ?_
  · rw [List.nodup_append]
    refine ⟨hn.filter _, by simp, fun x hx y hy hxy => ?_⟩
    simp at hx hy
    exact hx.2 (hxy.trans hy)
  · simp only [List.mem_append, List.mem_filter, List.mem_singleton, bne_iff_ne, ne_eq]
    constructor
    · rintro (h | rfl)
      · exact h.1
      · exact hi
    · intro h
      by_cases ha : a = i
      · exact .inr ha
      · exact .inl ⟨h, ha⟩
theorem endF1 {E' C : AEnv} {cx CS : ASt} {b K i k : Nat} {f f' : Nat → Option Blk} {e : TypeId} {m g L : Nat} {xs ys : List (List V)} (hi : i < K) (hE : AllR N (i + b) S' [k] E' C) (hB : AllB N (i + b) S' [k] (cx ++ fam b K f ++ S) CS)
    (hF : ∀ j, j < K → j ≠ i → OldB N (i + b) S' [k] (cx ++ fam b K f ++ S) (j + b) (f' j)) (hs : slk S' k = some (.cells e m g L xs)) (hcl : RnX N (nm (i + b) (slk S') [k]) (slk S') (dropped N [k]) xs ys) (hf : f' i = some (.cells e m 0 0 ys)) (h1 : f i = some .hole) (h2 : slk S' (i + b) = some .hole) (hk : N ≤ k) (hN : b + K ≤ N)
    (hS : ∀ id, id < N → id ∉ (cx ++ fam b K f).map (·.1) → slk S' id = slk S id) (hky : CS.map (·.1) = cx.map (·.1) := by rfl) (hnd : ndB (cx.map (·.1)) = true := by rfl) (ho : outF b K (cx.map (·.1)) = true := by rfl) : EndA N S (cx ++ fam b K f ++ S) E' S' C (CS ++ fam b K f') := fun NN => by
  have hout : ∀ id ∈ cx.map (·.1), id < b ∨ b + K ≤ id := fun id hid => by
    have := List.all_eq_true.1 ho id hid
    simpa [Bool.or_eq_true, Nat.blt_eq, Nat.ble_eq] using this
  let fx : ASt := ((List.range K).filter (fun j => j != i)).map fun j => (j + b, f' j)
  have hfk : fx.map (·.1) = ((List.range K).filter (fun j => j != i)).map fun j => j + b := by simp only [fx, List.map_map]; rfl
  have hfm : ∀ id, id ∈ fx.map (·.1) → b ≤ id ∧ id < b + K ∧ id ≠ i + b := fun id hid => by
    rw [hfk] at hid
    obtain ⟨j, hj, rfl⟩ := List.mem_map.1 hid
    simp at hj
    omega
  have hperm : ((CS ++ fx) ++ [(i + b, some (Blk.cells e m 0 0 ys))]).map (·.1) |>.Perm ((cx ++ fam b K f).map (·.1)) := by
    rw [List.map_append, List.map_append, List.map_append, hky, List.append_assoc, hfk]
    refine List.Perm.append_left _ ?_
    have hq : (fam b K f).map (·.1) = (List.range K).map fun j => j + b := by unfold fam; rw [List.map_map]; rfl
    have := (filter_ne_perm (i := i) List.nodup_range (List.mem_range.2 hi)).map (fun j => j + b)
    rw [List.map_append] at this
    rw [hq]
    exact this
  have hEnd := ends_of (CN := [(i + b, some (Blk.cells e m 0 0 ys))]) (ks := [k]) (NN := NN) (t := i + b) (cx := cx ++ fam b K f) (CS := CS ++ fx) rfl rfl hperm (outF_nd ho hnd) (by simp only [List.length_singleton]; omega) (fun id a c => by
    simp only [List.length_singleton] at c
    obtain rfl : id = i + b := by omega
    refine ⟨?_, h2⟩
    rw [List.append_assoc, slk_app.2 (fun q => by have := hout _ q; omega), slk_fam hi, h1]) (by simp) (fun q hq => by obtain rfl := List.mem_singleton.1 hq; exact hk) hE (AllB_append hB (AllB_map fun j hj => by
      simp at hj
      exact hF j hj.1 hj.2)) (SameS_of hS) rfl (fun j q hj => by
    have hj0 : j = 0 := by have := (List.getElem?_eq_some_iff.1 hj).1; simp at this; omega
    subst hj0
    simp at hj
    subst hj
    exact ⟨_, .cells e m 0 0 ys, hs, by simp [slk], RnB.cells hcl, .inr rfl⟩) (fun id hid => by
    simp only [List.length_singleton]
    rw [List.map_append, List.mem_append, hky] at hid
    rcases hid with hid | hid
    · have := hout id hid; omega
    · have := hfm id hid; omega)
  have hsl : slk (CS ++ fx ++ [(i + b, some (Blk.cells e m 0 0 ys))] ++ S) = slk (CS ++ fam b K f' ++ S) := by
    funext id
    by_cases hc : id ∈ CS.map (·.1)
    · rw [List.append_assoc, List.append_assoc, slk_app.1 hc, List.append_assoc, slk_app.1 hc]
    · rw [List.append_assoc, List.append_assoc, slk_app.2 hc, List.append_assoc, slk_app.2 hc]
      by_cases hr : b ≤ id ∧ id < b + K
      · obtain ⟨j, rfl⟩ : ∃ j, id = j + b := ⟨id - b, by omega⟩
        rw [slk_fam (by omega)]
        by_cases hj : j = i
        · subst hj
          rw [slk_app.2 (fun q => (hfm _ q).2.2 rfl), hf]
          simp [slk]
        · have hjm : j ∈ (List.range K).filter (fun j => j != i) := by simp; omega
          rw [slk_app.1 (by rw [hfk]; exact List.mem_map.2 ⟨j, hjm, rfl⟩)]
          exact slk_map hjm
      · rw [slk_fam_ne (by omega), slk_app.2 (fun q => by have := hfm _ q; omega), slk_app.2 (by simp; omega)]
  rw [hsl] at hEnd
  exact hEnd
end
end Go.Vm
namespace Go.Vm
open Go.RowKit
def BLt (k : Nat) : Blk → Prop
  | .cells _ _ _ _ xs => ∀ cs ∈ xs, ∀ v ∈ cs, Vlt k v ∧ v.one = true
  | .map _ es => ∀ p ∈ es, Vlt k p.1 ∧ Vlt k p.2
  | _ => True
def StLt (k : Nat) (S : Store) : Prop := ∀ id b, S id = some b → id < k ∧ BLt k b
def VM (P : Program) (f : FuncId) (args : List V) (S0 : Store) (k : Nat) (S1 : Store) (v : V) : Prop :=
  ∀ w Sb G us, WSim w Sb G S0 → (∀ id, k ≤ id → S0 id = none ∧ ∀ j, G id j = none) → Rvs w Sb G args us →
    Calls P f us.toArray w fun x w' => ∃ u Sb' G', x = .returned u ∧ Nxt w Sb G S0 w' Sb' G' S1 ∧ Rv w' Sb' G' v u ∧ ∀ id j, (id < k ∨ k < id) → S0 id = none → G' id j = G id j
section
variable {w w' : World} {Sb Sb' : Nat → Prop} {G G' G2 : Gh} {k : Nat}
theorem BlkOk.num {st : Store} (hs : WSim w Sb G st) (hG : ∀ id j E, id < k → G id j = some E → G2 id j = some E) {id i2 : Nat} {b : Blk} (h : BlkOk w Sb G id b) (hb : BLt k b) (he : ∀ j, G2 i2 j = G id j) : BlkOk w Sb G2 i2 b := by
  cases b with
  | cells e m g L xs =>
    exact h.rn (n := k) (f := fun _ _ => none) (s := st) (D := fun _ => False) hs (fun _ h => h) (fun _ _ _ h => h.elim) hG (fun _ _ _ _ _ h => by cases h) (RnX.keep hb) h.2.1 (fun j a b => ⟨j, a, b, he j, fun h => h⟩) fun j hj => (he j).trans (h.2.2.2.2.2 j hj)
  | map kt es =>
    obtain ⟨E, ms, cl, h1, h2, h3, h4⟩ := h
    refine ⟨E, ms, cl, (he 0).trans h1, h2, h3, fun i x y a c => ?_⟩
    have := hb x (List.mem_of_getElem? a)
    exact ⟨this.1.rv (h4 i x y a c).1 hG, this.2.rv (h4 i x y a c).2 hG⟩
  | void => trivial
  | hole => exact fun j => (he j).trans (h j)
theorem live_eq {s s' : Store} {id j : Nat} (h : s id = s' id) : live s id j ↔ live s' id j := by unfold live; rw [h]
end
def nN (n : Nat) : Option Blk → Nat | some _ => n + 1 | none => n
def over (st S0 S1 : Store) (k n : Nat) (nw : Option Blk) : Store := fun id => if id < k then (match S0 id with | some _ => S1 id | none => st id) else if id = n then (match nw with | some b => some b | none => st id) else st id
theorem VM.call {P : Program} {f : FuncId} {args : List V} {S0 S1 : Store} {k : Nat} {v v' : V} {st : Store} {n : Nat} {us : List (Nat × Blk)} {nw : Option Blk} (h : VM P f args S0 k S1 v) (hst : ∀ id b, S0 id = some b → st id = some b) (hlt : StLt k S0) {kk : Nat} (hkk : kk = k ∨ kk = k + 1 ∧ n = k ∧ nw.isSome = true) (hlt1 : ∀ id b, id < k → S1 id = some b → BLt kk b) (ha : ∀ a ∈ args, Vlt k a) (hk : k ≤ n) (hnw : S1 k = nw) (hb : ∀ b, nw = some b → BLt kk b) (hv : (v' = v ∧ Vlt kk v) ∨ ∃ g i c, v = .row k g i c ∧ v' = .row n g i c ∧ nw ≠ none) (hu : upd st us = over st S0 S1 k n nw) : VCall P f args st n (v', us, nN n nw) := by
  intro w Sb G xs N hs hfr hN1 hN2 hN3 hargs
  let G0 : Gh := fun id j => if id < k then G id j else none
  have g0 : ∀ id j E, id < k → G id j = some E → G0 id j = some E := fun id j E h1 h2 => by simp only [G0]; rw [if_pos h1]; exact h2
  have g0' : ∀ id j E, G0 id j = some E → id < k ∧ G id j = some E := fun id j E h1 => by
    simp only [G0] at h1
    by_cases hi : id < k
    · rw [if_pos hi] at h1; exact ⟨hi, h1⟩
    · rw [if_neg hi] at h1; cases h1
  have hl0 : ∀ id j, live S0 id j → live st id j ∧ id < k := fun id j hl => by
    obtain ⟨b, hb⟩ := live_some hl
    exact ⟨(live_eq ((hst id b hb).trans hb.symm)).2 hl, (hlt id b hb).1⟩
  have hs0 : WSim w Sb G0 S0 := ⟨hs.sub, fun id b hb => (hs.blk id b (hst id b hb)).num (k := k) hs g0 (hlt id b hb).2 fun j => by simp only [G0]; rw [if_pos (hlt id b hb).1], fun id j E h1 h2 => hs.off id j E (hl0 id j h1).1 (g0' _ _ _ h2).2,
    fun id j E id' j' E' h1 h2 h3 h4 => hs.dis id j E id' j' E' (hl0 _ _ h1).1 (hl0 _ _ h2).1 (g0' _ _ _ h3).2 (g0' _ _ _ h4).2⟩
  refine (h w Sb G0 xs hs0 (fun id hid => ⟨?_, fun j => by simp only [G0]; rw [if_neg (by omega)]⟩) ⟨hargs.1, fun i a u q r => (ha a (List.mem_of_getElem? q)).rv (hargs.2 i a u q r) g0⟩).mono ?_
  · cases hq : S0 id with
    | none => rfl
    | some b => have := (hlt id b hq).1; omega
  rintro x w' ⟨u, Sb', G', rfl, hN, hv', hg⟩
  have hown0 : ∀ b, Own S0 G0 b → Own st G b := fun b ⟨id, j, E, q1, q2, q3⟩ => ⟨id, j, E, (hl0 _ _ q1).1, (g0' _ _ _ q2).2, q3⟩
  let nb : Bool := nw.isSome
  let G2 : Gh := fun id j => if id < k then G' id j else if id = n ∧ nw.isSome = true then G' k j else G id j
  have a1 : ∀ id j, id < k → G2 id j = G' id j := fun id j h1 => by simp only [G2]; rw [if_pos h1]
  have a2 : ∀ j, nw.isSome = true → G2 n j = G' k j := fun j h1 => by simp only [G2]; rw [if_neg (by omega)]; simp [h1]
  have a3 : ∀ id j, k ≤ id → ¬ (id = n ∧ nw.isSome = true) → G2 id j = G id j := fun id j h1 h2 => by simp only [G2]; rw [if_neg (by omega), if_neg h2]
  have a4 : ∀ id j, id < k → S0 id = none → G2 id j = G id j := fun id j h1 h2 => by
    rw [a1 id j h1, hg id j (.inl h1) h2]
    simp only [G0]
    rw [if_pos h1]
  have hfrn : nw.isSome = true → st n = none ∧ ∀ j, G n j = none := fun h1 => by
    obtain ⟨b, hb⟩ := Option.isSome_iff_exists.1 h1
    refine hfr n (Nat.le_refl _) ?_
    show n < nN n nw
    rw [hb]
    exact Nat.lt_succ_self _
  have hGm : ∀ id j E, G id j = some E → G2 id j = some E := fun id j E hE => by
    by_cases h1 : id < k
    · rw [a1 id j h1]; exact hN.gh id j E (g0 id j E h1 hE)
    · by_cases h2 : id = n ∧ nw.isSome = true
      · rw [h2.1, (hfrn h2.2).2 j] at hE; cases hE
      · rw [a3 id j (by omega) h2]; exact hE
  have hG'2 : ∀ id j E, id < kk → G' id j = some E → G2 id j = some E := fun id j E h1 h2 => by
    by_cases h3 : id < k
    · rw [a1 id j h3]; exact h2
    · rcases hkk with rfl | ⟨rfl, rfl, h4⟩
      · exact absurd h1 h3
      · obtain rfl : id = n := by omega
        rw [a2 j h4]; exact h2
  have hkeep : ∀ b, b < w.heap.size → ¬ Own S0 G0 b → w'.heap[b]? = w.heap[b]? := hN.keep
  have hsbk : ∀ b, Sb b → w'.heap[b]? = w.heap[b]? := fun b hb => hkeep b (hs.sub b hb) fun q => hs.stays hb (hown0 b q)
  have hnb : ∀ b, nw = some b → S1 k = some b := fun b h1 => hnw.trans h1
  have hkind : ∀ id b, over st S0 S1 k n nw id = some b → (id < k ∧ S0 id ≠ none ∧ S1 id = some b) ∨ (id = n ∧ nw = some b ∧ S1 k = some b) ∨ (st id = some b ∧ S0 id = none ∧ ∀ j, G2 id j = G id j) := fun id b hb' => by
    unfold over at hb'
    by_cases h1 : id < k
    · rw [if_pos h1] at hb'
      cases hq : S0 id with
      | none => rw [hq] at hb'; exact .inr (.inr ⟨hb', rfl, fun j => a4 id j h1 hq⟩)
      | some b0 => rw [hq] at hb'; exact .inl ⟨h1, by simp, hb'⟩
    · rw [if_neg h1] at hb'
      have hq0 : S0 id = none := by
        cases hq : S0 id with
        | none => rfl
        | some b0 => exact absurd (hlt id b0 hq).1 h1
      by_cases h2 : id = n
      · rw [if_pos h2] at hb'
        cases hq : nw with
        | none => rw [hq] at hb'; exact .inr (.inr ⟨hb', hq0, fun j => a3 id j (by omega) (by rw [hq]; simp)⟩)
        | some b0 =>
          rw [hq] at hb'
          cases hb'
          exact .inr (.inl ⟨h2, rfl, hnb b hq⟩)
      · rw [if_neg h2] at hb'
        exact .inr (.inr ⟨hb', hq0, fun j => a3 id j (by omega) (fun q => h2 q.1)⟩)
  have hlive : ∀ id j E, live (over st S0 S1 k n nw) id j → G2 id j = some E → (∃ id0, live S1 id0 j ∧ G' id0 j = some E ∧ ((id < k ∧ id0 = id) ∨ (id = n ∧ id0 = k))) ∨ (live st id j ∧ G id j = some E ∧ S0 id = none) := fun id j E hl hE => by
    obtain ⟨b, hb⟩ := live_some hl
    rcases hkind id b hb with ⟨q1, q2, q3⟩ | ⟨q1, q2, q3⟩ | ⟨q1, q2, q3⟩
    · exact .inl ⟨id, (live_eq (hb.trans q3.symm)).1 hl, by rw [← a1 id j q1]; exact hE, .inl ⟨q1, rfl⟩⟩
    · refine .inl ⟨k, ?_, ?_, .inr ⟨q1, rfl⟩⟩
      · unfold live at hl ⊢
        rw [hb] at hl
        rw [q3]
        exact hl
      · subst q1
        rw [← a2 j (by rw [q2]; rfl)]
        exact hE
    · exact .inr ⟨(live_eq (hb.trans q1.symm)).1 hl, by rw [← q3 j]; exact hE, q2⟩
  have hcal : ∀ id j E, live st id j → G id j = some E → S0 id = none → ¬ Own S0 G0 E.blk := fun id j E h1 h2 h3 ⟨id2, j2, E2, q1, q2, q3⟩ => by
    have := hs.dis _ _ _ _ _ _ (hl0 _ _ q1).1 h1 (g0' _ _ _ q2).2 h2 q3
    subst this
    obtain ⟨b, hb⟩ := live_some q1
    rw [h3] at hb
    cases hb
  have hsbn : ∀ b, Sb' b → Sb b ∨ Own S0 G0 b ∨ w.heap.size ≤ b := hN.sbn
  have hcal2 : ∀ id j E, live st id j → G id j = some E → S0 id = none → ¬ Sb' E.blk := fun id j E h1 h2 h3 hS => by
    rcases hsbn _ hS with q | q | q
    · exact hs.off id j E h1 h2 q
    · exact hcal id j E h1 h2 h3 q
    · have := hs.own_lt ⟨id, j, E, h1, h2, rfl⟩; omega
  have hmix : ∀ id0 j0 E0, live S1 id0 j0 → G' id0 j0 = some E0 → ∀ id j E, live st id j → G id j = some E → S0 id = none → E0.blk ≠ E.blk := fun id0 j0 E0 h1 h2 id j E h3 h4 h5 he => by
    rcases hN.own E0.blk ⟨id0, j0, E0, h1, h2, rfl⟩ with q | q
    · exact hcal id j E h3 h4 h5 (he ▸ q)
    · have := hs.own_lt ⟨id, j, E, h3, h4, rfl⟩; omega
  refine ⟨u, Sb', G2, rfl, ?_, ?_, fun id j hid hs0' => ?_⟩
  · show Nxt w Sb G st w' Sb' G2 (upd st us)
    rw [hu]
    refine ⟨⟨hN.sim.sub, fun id b hb' => ?_, fun id j E hl hE hS => ?_, fun id j E id' j' E' h1 h2 h3 h4 h5 => ?_⟩, hN.os, hN.tape, hN.output, hN.size, fun b hb hno => hkeep b hb fun q => hno (hown0 b q), fun b ⟨id, j, E, q1, q2, q3⟩ => ?_, hN.sb, hGm, fun b hb => (hsbn b hb).elim .inl fun q => q.elim (fun q => .inr (.inl (hown0 b q))) fun q => .inr (.inr q)⟩
    · rcases hkind id b hb' with ⟨q1, q2, q3⟩ | ⟨q1, q2, q3⟩ | ⟨q1, q2, q3⟩
      · exact (hN.sim.blk id b q3).num (k := kk) hN.sim hG'2 (hlt1 id b q1 q3) (fun j => a1 id j q1)
      · subst q1
        exact (hN.sim.blk k b q3).num (k := kk) hN.sim hG'2 (hb b q2) (fun j => a2 j (by rw [q2]; rfl))
      · refine (hs.blk id b q1).mono (fun j E r1 r2 => ?_) hsbk hN.sb hGm q3
        have hlv : live st id j := by unfold live at r2 ⊢; rw [q1]; exact r2
        exact hkeep _ (hs.own_lt ⟨id, j, E, hlv, r1, rfl⟩) (hcal id j E hlv r1 q2)
    · rcases hlive id j E hl hE with ⟨id0, r1, r2, _⟩ | ⟨r1, r2, r3⟩
      · exact hN.sim.off _ _ _ r1 r2 hS
      · exact hcal2 id j E r1 r2 r3 hS
    · rcases hlive id j E h1 h3 with ⟨id0, r1, r2, r3⟩ | ⟨r1, r2, r3⟩
      · rcases hlive id' j' E' h2 h4 with ⟨id1, t1, t2, t3⟩ | ⟨t1, t2, t3⟩
        · have := hN.sim.dis _ _ _ _ _ _ r1 t1 r2 t2 h5
          omega
        · exact absurd h5 (hmix id0 j E r1 r2 id' j' E' t1 t2 t3)
      · rcases hlive id' j' E' h2 h4 with ⟨id1, t1, t2, t3⟩ | ⟨t1, t2, t3⟩
        · exact absurd h5.symm (hmix id1 j' E' t1 t2 id j E r1 r2 r3)
        · exact hs.dis _ _ _ _ _ _ r1 t1 r2 t2 h5
    · rcases hlive id j E q1 q2 with ⟨id0, r1, r2, _⟩ | ⟨r1, r2, _⟩
      · exact (hN.own b ⟨id0, j, E, r1, r2, q3⟩).elim (fun q => .inl (hown0 b q)) .inr
      · exact .inl ⟨id, j, E, r1, r2, q3⟩
  · rcases hv with ⟨rfl, q⟩ | ⟨g, i, c, rfl, rfl, q⟩
    · exact q.rv hv' hG'2
    · have hsome : nw.isSome = true := by cases hq : nw with | none => exact (q hq).elim | some b => rfl
      cases hv' with
      | row g1 g2 g3 g4 g5 g6 => exact .row ((a2 g hsome).trans g1) g2 g3 g4 g5 g6
  · by_cases h1 : id < k
    · have hq0 : S0 id = none := by
        cases hq : S0 id with
        | none => rfl
        | some b0 => rw [hst id b0 hq] at hs0'; cases hs0'
      exact a4 id j h1 hq0
    · refine a3 id j (by omega) fun q => ?_
      cases hq : nw with
      | none => rw [hq] at q; simp at q
      | some b =>
        have h2 : id < n ∨ nN n nw ≤ id := hid
        rw [hq] at h2
        have := q.1
        simp only [nN] at h2
        omega
def RetM (P : Program) (N : Nat) (rs : Array ResultVar) (S0 : ASt) (k : Nat) (S1 : ASt) (v : V) : XPost := fun x E S _ => (x = .normal ∨ x = .ret) ∧ ∃ ws us m, vresults P (slk S) (toL N E) rs.toList = some ws ∧ Closes (slk S0) k (k + 1) (slk S) (vjoin ws) (v, us, m) ∧ m ≤ k + 1 ∧ upd (slk S0) us = slk S1
theorem a_vm {P : Program} {f : FuncId} {fn : Func} {c : Code} {N k : Nat} {rs : Array ResultVar} {args : List V} {S0 S1 : ASt} {v : V} (hf : P.funcs[f]? = some fn) (h : awp P N c (RetM P N rs S0 k S1 v) (argE 0 args) S0 (k + 1)) (hb : fn.body = some c := by rfl) (hN : fn.ntmps = N := by rfl) (hr : fn.results = rs := by rfl) (hl : Nat.ble args.length N = true := by rfl) (hc : chkA N c = true := by kernel_rfl) : VM P f args (slk S0) k (slk S1) v := by
  subst hN hr
  intro w Sb G us hs hfr hargs
  have hlen := hargs.1
  have hfree : Free (slk S0) G (k + 1) := fun id hid => hfr id (by omega)
  refine calls_vwp hf hb (vwp_env (args_sub (by simpa [Nat.ble_eq] using hl)) (h hc)) ?_ hs hfree ?_
  · have : us.toArray.toList ++ List.replicate (fn.ntmps - us.toArray.size) undef = us ++ List.replicate (fn.ntmps - args.length) undef := by simp [hlen]
    rw [this]
    exact hargs.append ⟨by simp, fun i v u a b => by
      rw [List.getElem?_replicate] at a b
      split at a
      · rename_i hi
        rw [if_pos hi] at b
        cases a
        cases b
        exact undef_rv
      · cases a⟩
  · rintro x _ _ n' Sb' G' w' tmps ⟨E', S', rfl, rfl, hx, ws, us', m, hvs, hcl, hm, hup⟩ r1 r2
    obtain ⟨u, q1, q2⟩ := results_rv (P := P) (a := ⟨tmps, []⟩) r2.nxt.sim r1 hvs
    obtain ⟨G2, Sb2, t1, t2, t3, _⟩ := close hs hfree (fun i hi _ => .inl (hfr i hi)) hm r2 q2 hcl
    rw [hup] at t1
    have h3 : ∀ id j, (id < k ∨ k < id) → slk S0 id = none → G2 id j = G id j := fun id j hid h0 => t3 id j (hid.elim .inl fun q => .inr (Nat.le_trans hm q)) h0
    exact ⟨hx, u, q1, u, Sb2, G2, rfl, t1, t2, h3⟩
section
variable {P : Program} {N k n : Nat} {rs : Array ResultVar} {S0 S : ASt} {v : V} {E : AEnv} {x : Exit} {ws : List V}
theorem retMu {CS : ASt} (hx : x = .normal ∨ x = .ret) (hr : ResL P N E S rs.toList ws) (hv : Rn (k + 1) (nm k (slk S) []) (slk S) (dropped (k + 1) []) (vjoin ws) v) (hB : AllB (k + 1) k S [] S0 CS) (hnd : ndB (CS.map (·.1)) = true := by rfl) (hS : SameS (CS.map (·.1)) S S0 (k + 1) := by repeat' (first | exact trivial | refine And.intro ?_ ?_ | rfl)) : RetM P N rs S0 k (CS ++ S0) v x E S n := by
  have hnd' := ndB_nd hnd
  have hupC : ∀ id, upd (slk S0) (upsA CS) id = if id ∈ CS.map (·.1) then slk CS id else slk S0 id := fun id => upsA_at (fun id h1 h2 => (hB.at id h2).none_of h1) hnd'
  refine ⟨hx, ws, upsA CS, k, hr.eq, ⟨[], upsA CS, [], by simp [numbered], rfl, fun p hp => ?_, List.nodup_nil, fun q hq => by simp at hq, rfl, hv, fun id hid _ => ?_, fun j q b hj => by simp at hj⟩, Nat.le_succ k, ?_⟩
  · have hm : p.1 ∈ CS.map (·.1) := List.mem_map.2 ⟨_, upsA_mem hp, rfl⟩
    have := hB.at p.1 hm
    rw [slk_of_mem hnd' (upsA_mem hp)] at this
    have := this.1
    simp only [List.length_nil, Nat.add_zero]
    omega
  · rw [hupC id]
    by_cases hm : id ∈ CS.map (·.1)
    · rw [if_pos hm]
      have := hB.at id hm
      cases hc : slk CS id with
      | none =>
        rw [hc] at this
        exact .inl ⟨this.1.trans this.2.symm, this.2.symm⟩
      | some b =>
        rw [hc] at this
        obtain ⟨_, b0, q1, q2, q3⟩ := this
        exact .inr ⟨b0, b, q1, rfl, q2, q3⟩
    · rw [if_neg hm]
      exact .inl ⟨hS.at id hid hm, rfl⟩
  · funext id
    rw [hupC id]
    by_cases hm : id ∈ CS.map (·.1)
    · rw [if_pos hm, slk_app.1 hm]
    · rw [if_neg hm, slk_app.2 hm]
theorem retMk {CS : ASt} {id : Nat} {b0 b : Blk} (hx : x = .normal ∨ x = .ret) (hr : ResL P N E S rs.toList ws) (hv : Rn (k + 1) (nm k (slk S) [id]) (slk S) (dropped (k + 1) [id]) (vjoin ws) v) (hid : Nat.ble (k + 1) id = true) (hs : slk S id = some b0) (hX : RnBk (k + 1) k S [id] b0 b) (hh : hdr b = none ∨ hdr b = some (0, 0)) (hB : AllB (k + 1) k S [id] S0 CS) (hlow : CS.all (fun p => Nat.blt p.1 k) = true := by rfl) (hnd : ndB (CS.map (·.1)) = true := by rfl) (hS : SameS (CS.map (·.1)) S S0 (k + 1) := by repeat' (first | exact trivial | refine And.intro ?_ ?_ | rfl)) : RetM P N rs S0 k ((k, some b) :: (CS ++ S0)) v x E S n := by
  have hnd' := ndB_nd hnd
  have hlow' : ∀ i ∈ CS.map (·.1), i < k := fun i hi => by
    obtain ⟨p, hp, rfl⟩ := List.mem_map.1 hi
    have := List.all_eq_true.1 hlow p hp
    simpa [Nat.blt_eq] using this
  have hupC : ∀ id, upd (slk S0) (upsA CS) id = if id ∈ CS.map (·.1) then slk CS id else slk S0 id := fun id => upsA_at (fun id h1 h2 => (hB.at id h2).none_of h1) hnd'
  refine ⟨hx, ws, upsA CS ++ [(k, b)], k + 1, hr.eq, ⟨[id], upsA CS, [b], rfl, rfl, fun p hp => ?_, by simp, fun q hq => by obtain rfl := List.mem_singleton.1 hq; simpa [Nat.ble_eq] using hid, rfl, hv, fun i hi hto => ?_, fun j q c hj hc => ?_⟩, Nat.le_refl _, ?_⟩
  · have := hlow' p.1 (List.mem_map.2 ⟨_, upsA_mem hp, rfl⟩)
    simp only [List.length_singleton]
    omega
  · simp only [List.length_singleton] at hto
    rw [hupC i]
    by_cases hm : i ∈ CS.map (·.1)
    · rw [if_pos hm]
      have := hB.at i hm
      cases hc : slk CS i with
      | none =>
        rw [hc] at this
        exact .inl ⟨this.1.trans this.2.symm, this.2.symm⟩
      | some b =>
        rw [hc] at this
        obtain ⟨_, b0, q1, q2, q3⟩ := this
        exact .inr ⟨b0, b, q1, rfl, q2, q3⟩
    · rw [if_neg hm]
      exact .inl ⟨hS.at i hi hm, rfl⟩
  · have hj0 : j = 0 := by have := (List.getElem?_eq_some_iff.1 hj).1; simp at this; omega
    subst hj0
    simp at hj hc
    subst hj hc
    exact ⟨_, hs, hX, hh⟩
  · funext i
    rw [upd_app]
    show put _ k b i = _
    unfold put
    rw [hupC i]
    by_cases h2 : i = k
    · subst h2
      rw [if_pos rfl]
      simp [slk]
    · rw [if_neg h2]
      have hne : slk ((k, some b) :: (CS ++ S0)) i = slk (CS ++ S0) i := by simp [slk, beq_no (fun q => h2 q.symm)]
      rw [hne]
      by_cases hm : i ∈ CS.map (·.1)
      · rw [if_pos hm, slk_app.1 hm]
      · rw [if_neg hm, slk_app.2 hm]
end
def InS (S : ASt) : ASt → Prop
  | [] => True
  | p :: r => slk S p.1 = p.2 ∧ InS S r
theorem InS.at {S : ASt} : ∀ {S0 : ASt}, InS S S0 → ∀ id b, slk S0 id = some b → slk S id = some b
  | [], _, id, b, h => by cases h
  | p :: r, h, id, b, hb => by
    by_cases hp : p.1 = id
    · subst hp
      have hl : slk (p :: r) p.1 = p.2 := by simp [slk]
      rw [hl] at hb
      rw [h.1, hb]
    · have hl : slk (p :: r) id = slk r id := by simp [slk, beq_no hp]
      rw [hl] at hb
      exact InS.at h.2 id b hb
def LentL (k : Nat) : ASt → Prop
  | [] => True
  | p :: r => (p.1 < k ∧ ∀ b, p.2 = some b → BLt k b) ∧ LentL k r
theorem LentL.at {k : Nat} : ∀ {S0 : ASt}, LentL k S0 → StLt k (slk S0)
  | [], _, id, b, h => by cases h
  | p :: r, h, id, b, hb => by
    by_cases hp : p.1 = id
    · subst hp
      have hl : slk (p :: r) p.1 = p.2 := by simp [slk]
      rw [hl] at hb
      exact ⟨h.1.1, h.1.2 b hb⟩
    · have hl : slk (p :: r) id = slk r id := by simp [slk, beq_no hp]
      rw [hl] at hb
      exact LentL.at h.2 id b hb
def VltK (k : Nat) : List V → Prop
  | [] => True
  | v :: r => Vlt k v ∧ VltK k r
theorem VltK.all {k : Nat} : ∀ {l : List V}, VltK k l → ∀ v ∈ l, Vlt k v
  | v :: r, h, x, hx => by
    rcases List.mem_cons.1 hx with rfl | hx
    · exact h.1
    · exact VltK.all h.2 x hx
section
variable {P : Program} {N : Nat} {ops : Array Oper} {K : APost} {l : List Oper} {E : AEnv} {S S0 : ASt} {n k : Nat} {v : V}
theorem slk_dom {S0 : ASt} (h : LentL k S0) : slk S0 k = none := by
  cases hq : slk S0 k with
  | none => rfl
  | some b => have := (h.at k b hq).1; omega
theorem ar_m1 {d m c : Nat} {f : FuncId} {cargs : Array Operand} {ts : Array TypeId} {ty : TypeId} {pos : String} {aft : Array Edge} {args : List V} {e : TypeId} {xs : List (List V)} (h : VM P f args (slk S0) k (slk ((k, some (.cells e m 0 0 xs)) :: S0)) (.row k 0 0 c)) (hlt : LentL k S0) (hcl : ∀ cs ∈ xs, ∀ v ∈ cs, Vlt 0 v ∧ v.one = true) (K' : arun P N ops true K l ((d, .row n 0 0 c) :: E) ((n, some (.cells e m 0 0 xs)) :: S) (n + 1)) (hx : cargs.toList.map (aev E) = args := by rfl) (ha : VltK k args := by repeat' first | exact trivial | exact Vlt.int _ _ | exact Rp.lt _ _ _ _ | exact Rp.agg _ _ _ | exact Vlt.bool _ | exact Vlt.ptr (by decide) | exact Vlt.str _ | exact Vlt.nil | refine And.intro ?_ ?_) (hin : InS S S0 := by repeat' (first | exact trivial | refine And.intro rfl ?_)) (hk : Nat.ble k n = true := by rfl) (hp : plainFunc P f = true := by kernel_rfl) : arun P N ops true K (⟨some d, .call ⟨.value (.func f), cargs, ts⟩, ty, pos, aft, none⟩ :: l) E S n := by
  have hk' : k ≤ n := by simpa [Nat.ble_eq] using hk
  have hd := slk_dom hlt
  have hb : BLt k (.cells e m 0 0 xs) := fun cs hc v hv => ⟨(hcl cs hc v hv).1.mono (Nat.zero_le k), (hcl cs hc v hv).2⟩
  have hnk : slk ((k, some (.cells e m 0 0 xs)) :: S0) k = some (.cells e m 0 0 xs) := by simp [slk]
  refine ar_call (us := [(n, .cells e m 0 0 xs)]) (n' := n + 1) (h.call (v' := .row n 0 0 c) (nw := some (.cells e m 0 0 xs)) hin.at hlt.at (kk := k) (.inl rfl) (fun id b hid hb => ?_) ha.all hk' hnk (fun b hb' => by cases hb'; exact hb) (.inr ⟨0, 0, c, rfl, rfl, by simp⟩) ?_) _ K' (upd_one _ _) (fun p hp => .inl (by obtain rfl := List.mem_singleton.1 hp; exact ⟨Nat.le_refl _, Nat.lt_succ_self _⟩)) (Nat.le_succ n) hx hp
  · have : slk ((k, some (.cells e m 0 0 xs)) :: S0) id = slk S0 id := by simp [slk, beq_no (show k ≠ id by omega)]
    rw [this] at hb
    exact (hlt.at id b hb).2
  · funext id
    unfold over
    have hup : upd (slk S) [(n, .cells e m 0 0 xs)] id = if id = n then some (.cells e m 0 0 xs) else slk S id := rfl
    rw [hup]
    by_cases h1 : id < k
    · rw [if_pos h1, if_neg (by omega)]
      cases hq : slk S0 id with
      | none => rfl
      | some b =>
        have : slk ((k, some (.cells e m 0 0 xs)) :: S0) id = slk S0 id := by simp [slk, beq_no (show k ≠ id by omega)]
        simp only
        rw [this, hq]
        exact hin.at id b hq
    · rw [if_neg h1]
theorem ar_mu {d : Nat} {f : FuncId} {cargs : Array Operand} {ts : Array TypeId} {ty : TypeId} {pos : String} {aft : Array Edge} {args : List V} {CS : ASt} (h : VM P f args (slk S0) k (slk (CS ++ S0)) v) (hlt : LentL k S0) (hlc : LentL k CS) (hsome : CS.all (fun p => p.2.isSome && (slk S0 p.1).isSome) = true := by rfl) (hnd : ndB (CS.map (·.1)) = true := by rfl) (hv : Vlt 0 v) (K' : arun P N ops true K l ((d, v) :: E) (CS ++ S) n) (hx : cargs.toList.map (aev E) = args := by rfl) (ha : VltK k args := by repeat' first | exact trivial | exact Vlt.int _ _ | exact Rp.lt _ _ _ _ | exact Rp.agg _ _ _ | exact Vlt.bool _ | exact Vlt.ptr (by decide) | exact Vlt.str _ | exact Vlt.nil | refine And.intro ?_ ?_) (hin : InS S S0 := by repeat' (first | exact trivial | refine And.intro rfl ?_)) (hk : Nat.ble k n = true := by rfl) (hp : plainFunc P f = true := by kernel_rfl) : arun P N ops true K (⟨some d, .call ⟨.value (.func f), cargs, ts⟩, ty, pos, aft, none⟩ :: l) E S n := by
  have hk' : k ≤ n := by simpa [Nat.ble_eq] using hk
  have hs : ∀ p ∈ CS, p.2.isSome = true ∧ (slk S0 p.1).isSome = true := fun p hp => by
    have := List.all_eq_true.1 hsome p hp
    simpa using this
  have hsl : ∀ p ∈ CS, slk S0 p.1 ≠ none := fun p hp q => by have := (hs p hp).2; rw [q] at this; cases this
  have hd : slk (CS ++ S0) k = none := by
    rw [slk_app.2 (fun q => by
      obtain ⟨p, hp, e⟩ := List.mem_map.1 q
      obtain ⟨b, hb⟩ := Option.isSome_iff_exists.1 (hs p hp).2
      have := (hlt.at _ b hb).1
      omega)]
    exact slk_dom hlt
  have hnd' := ndB_nd hnd
  have hup : ∀ (T : ASt) id, upd (slk T) (upsA CS) id = if id ∈ CS.map (·.1) then slk CS id else slk T id := fun T id => upsA_at (fun id h1 h2 => by
    obtain ⟨p, hp, rfl⟩ := List.mem_map.1 h2
    rw [slk_of_mem hnd' hp] at h1
    have := (hs p hp).1
    rw [h1] at this
    cases this) hnd'
  have hin2 : ∀ p ∈ CS, slk S p.1 ≠ none := fun p hp q => by
    obtain ⟨b, hb⟩ := Option.isSome_iff_exists.1 (hs p hp).2
    rw [hin.at _ b hb] at q
    cases q
  refine ar_call (us := upsA CS) (n' := n) (h.call (v' := v) (nw := none) hin.at hlt.at (kk := k) (.inl rfl) (fun id b hid hb => ?_) ha.all hk' hd (fun b hb => by cases hb) (.inl ⟨rfl, hv.mono (Nat.zero_le k)⟩) ?_) (CS ++ S) K' ?_ (fun p hp => .inr (hin2 _ (upsA_mem hp))) (Nat.le_refl n) hx hp
  · by_cases hm : id ∈ CS.map (·.1)
    · rw [slk_app.1 hm] at hb
      exact (hlc.at id b hb).2
    · rw [slk_app.2 hm] at hb
      exact (hlt.at id b hb).2
  · funext id
    rw [hup S id]
    unfold over
    by_cases h1 : id < k
    · rw [if_pos h1]
      by_cases hm : id ∈ CS.map (·.1)
      · rw [if_pos hm]
        obtain ⟨p, hp, rfl⟩ := List.mem_map.1 hm
        cases hq : slk S0 p.1 with
        | none => exact absurd hq (hsl p hp)
        | some b => simp only; rw [slk_app.1 hm]
      · rw [if_neg hm]
        cases hq : slk S0 id with
        | none => rfl
        | some b =>
          simp only
          rw [slk_app.2 hm, hq]
          exact hin.at id b hq
    · have hm : id ∉ CS.map (·.1) := fun q => by
        obtain ⟨p, hp, rfl⟩ := List.mem_map.1 q
        obtain ⟨b, hb⟩ := Option.isSome_iff_exists.1 (hs p hp).2
        have := (hlt.at _ b hb).1
        omega
      rw [if_neg h1, if_neg hm]
      by_cases h2 : id = n
      · rw [if_pos h2]
      · rw [if_neg h2]
  · funext id
    rw [hup S id]
    by_cases hm : id ∈ CS.map (·.1)
    · rw [if_pos hm, slk_app.1 hm]
    · rw [if_neg hm, slk_app.2 hm]
theorem ar_mk {d : Nat} {f : FuncId} {cargs : Array Operand} {ts : Array TypeId} {ty : TypeId} {pos : String} {aft : Array Edge} {args : List V} {CS : ASt} {nwb : Blk} (h : VM P f args (slk S0) n (slk ((n, some nwb) :: (CS ++ S0))) v) (hlt : LentL n S0) (hlc : LentL (n + 1) CS) (hnb : BLt (n + 1) nwb) (hsome : CS.all (fun p => p.2.isSome && (slk S0 p.1).isSome) = true := by rfl) (hnd : ndB (CS.map (·.1)) = true := by rfl) (hv : Vlt (n + 1) v) (K' : arun P N ops true K l ((d, v) :: E) ((n, some nwb) :: (CS ++ S)) (n + 1)) (hx : cargs.toList.map (aev E) = args := by rfl) (ha : VltK n args := by repeat' first | exact trivial | exact Vlt.int _ _ | exact Rp.lt _ _ _ _ | exact Rp.agg _ _ _ | exact Vlt.bool _ | exact Vlt.ptr (by decide) | exact Vlt.row (by decide) | exact Vlt.str _ | exact Vlt.nil | refine And.intro ?_ ?_) (hin : InS S S0 := by repeat' (first | exact trivial | refine And.intro rfl ?_)) (hp : plainFunc P f = true := by kernel_rfl) : arun P N ops true K (⟨some d, .call ⟨.value (.func f), cargs, ts⟩, ty, pos, aft, none⟩ :: l) E S n := by
  have hs : ∀ p ∈ CS, p.2.isSome = true ∧ (slk S0 p.1).isSome = true := fun p hp => by
    have := List.all_eq_true.1 hsome p hp
    simpa using this
  have hsl : ∀ p ∈ CS, slk S0 p.1 ≠ none := fun p hp q => by have := (hs p hp).2; rw [q] at this; cases this
  have hlow : ∀ p ∈ CS, p.1 < n := fun p hp => by
    obtain ⟨b, hb⟩ := Option.isSome_iff_exists.1 (hs p hp).2
    exact (hlt.at _ b hb).1
  have hd : slk ((n, some nwb) :: (CS ++ S0)) n = some nwb := by simp [slk]
  have hnd' := ndB_nd hnd
  have hup : ∀ (T : ASt) id, upd (slk T) (upsA CS) id = if id ∈ CS.map (·.1) then slk CS id else slk T id := fun T id => upsA_at (fun id h1 h2 => by
    obtain ⟨p, hp, rfl⟩ := List.mem_map.1 h2
    rw [slk_of_mem hnd' hp] at h1
    have := (hs p hp).1
    rw [h1] at this
    cases this) hnd'
  have hin2 : ∀ p ∈ CS, slk S p.1 ≠ none := fun p hp q => by
    obtain ⟨b, hb⟩ := Option.isSome_iff_exists.1 (hs p hp).2
    rw [hin.at _ b hb] at q
    cases q
  have hupn : ∀ (T : ASt) id, upd (slk T) (upsA CS ++ [(n, nwb)]) id = if id = n then some nwb else if id ∈ CS.map (·.1) then slk CS id else slk T id := fun T id => by
    rw [upd_app]
    show put _ n nwb id = _
    unfold put
    rw [hup T id]
  refine ar_call (us := upsA CS ++ [(n, nwb)]) (n' := n + 1) (h.call (v' := v) (nw := some nwb) hin.at hlt.at (kk := n + 1) (.inr ⟨rfl, rfl, rfl⟩) (fun id b hid hb => ?_) ha.all (Nat.le_refl n) hd (fun b hb => by cases hb; exact hnb) (.inl ⟨rfl, hv⟩) ?_) ((n, some nwb) :: (CS ++ S)) K' ?_ (fun p hp => ?_) (Nat.le_succ n) hx hp
  · have hne : slk ((n, some nwb) :: (CS ++ S0)) id = slk (CS ++ S0) id := by simp [slk, beq_no (show n ≠ id by omega)]
    rw [hne] at hb
    by_cases hm : id ∈ CS.map (·.1)
    · rw [slk_app.1 hm] at hb
      exact (hlc.at id b hb).2
    · rw [slk_app.2 hm] at hb
      have := (hlt.at id b hb).2
      cases b with
      | cells e m g L xs => exact fun cs hc v hv => ⟨(this cs hc v hv).1.mono (Nat.le_succ n), (this cs hc v hv).2⟩
      | map kt es => exact fun p hp => ⟨(this p hp).1.mono (Nat.le_succ n), (this p hp).2.mono (Nat.le_succ n)⟩
      | void => trivial
      | hole => trivial
  · funext id
    rw [hupn S id]
    unfold over
    by_cases h1 : id < n
    · rw [if_pos h1, if_neg (show ¬ id = n by omega)]
      have hne : slk ((n, some nwb) :: (CS ++ S0)) id = slk (CS ++ S0) id := by simp [slk, beq_no (show n ≠ id by omega)]
      by_cases hm : id ∈ CS.map (·.1)
      · rw [if_pos hm]
        obtain ⟨p, hp, rfl⟩ := List.mem_map.1 hm
        cases hq : slk S0 p.1 with
        | none => exact absurd hq (hsl p hp)
        | some b => simp only; rw [hne, slk_app.1 hm]
      · rw [if_neg hm]
        cases hq : slk S0 id with
        | none => rfl
        | some b =>
          simp only
          rw [hne, slk_app.2 hm, hq]
          exact hin.at id b hq
    · have hm : id ∉ CS.map (·.1) := fun q => by
        obtain ⟨p, hp, rfl⟩ := List.mem_map.1 q
        exact h1 (hlow p hp)
      rw [if_neg h1, if_neg hm]
  · funext id
    rw [hupn S id]
    by_cases h2 : id = n
    · subst h2
      rw [if_pos rfl]
      simp [slk]
    · rw [if_neg h2]
      have hne : slk ((n, some nwb) :: (CS ++ S)) id = slk (CS ++ S) id := by simp [slk, beq_no (fun q => h2 q.symm)]
      rw [hne]
      by_cases hm : id ∈ CS.map (·.1)
      · rw [if_pos hm, slk_app.1 hm]
      · rw [if_neg hm, slk_app.2 hm]
  · rcases List.mem_append.1 hp with q | q
    · exact .inr (hin2 _ (upsA_mem q))
    · obtain rfl := List.mem_singleton.1 q
      exact .inl ⟨Nat.le_refl _, Nat.lt_succ_self _⟩
end
end Go.Vm
