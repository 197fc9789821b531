/-
  The machine's loads and stores stand for the model's. No program is named here. The machine's new blocks stand for the model's. No program is named here. The machine's append stands for the model's. No program is named here. The machine's append stands for the model's: the step.
-/
import Derived.Test.YtofcjmjokokajaaGreatQa
namespace Go.Vm
open Go.RowKit
theorem seg_get {α : Type} (l vs : List α) (a : Nat) (h : a + vs.length ≤ l.length) (k : Nat) : (l.take a ++ (vs ++ l.drop (a + vs.length)))[k]? = if a ≤ k ∧ k < a + vs.length then vs[k - a]? else l[k]? := by
  have hl : (l.take a).length = a := by rw [List.length_take]; omega
  by_cases h1 : k < a
  · rw [if_neg (by omega), List.getElem?_append_left (by omega), List.getElem?_take, if_pos h1]
  · rw [List.getElem?_append_right (by omega), hl]
    by_cases h2 : k < a + vs.length
    · rw [if_pos (by omega), List.getElem?_append_left (by omega)]
    · rw [if_neg (by omega), List.getElem?_append_right (by omega), List.getElem?_drop]
      congr 1
      omega
theorem splice_len (cs vs : List V) (o : Nat) (h : o + vs.length ≤ cs.length) : (splice cs o vs).length = cs.length := by
  unfold splice
  simp only [List.length_append, List.length_take, List.length_drop]
  omega
theorem row_lt {i i' m j : Nat} (h : i < i') (hj : j < m) : i * m + j < i' * m := by
  have := Nat.mul_le_mul_right m h
  rw [Nat.succ_mul] at this
  omega
section
variable {P : Program} {w w' : World} {Sb : Nat → Prop} {G : Gh} {st : Store}
theorem run_isAgg {t : TypeId} {u : TypeDesc} (h : P.underlying t = some u) : (isAgg t).run P w = .ok (aggOf u) w := by
  unfold isAgg
  cases u <;> simp [run_underlying h, aggOf]
theorem run_sizeOf {t : TypeId} {i : TypeInfo} (h : P.info? t = some i) : (sizeOf t).run P w = .ok i.size w := by simp [sizeOf, typeInfo, h]
theorem load_part {t : TypeId} {ti : TI} (ht : tinfo P t = some ti) {b base o : Nat} {cs : List V} (hc : ∀ (j : Nat) (v : V), cs[j]? = some v → ∃ u, w.cell? ⟨b, base + j, none⟩ = some u ∧ Rv w Sb G v u) (h1 : ∀ v ∈ cs, v.one = true)
    {v : V} (h : vpart ti.agg o ti.size cs = some v) : ∃ u, (loadVar t ⟨b, base + o, none⟩).run P w = .ok u w ∧ Rv w Sb G v u := by
  obtain ⟨i, d, hi, hd, _, hs, _, hagg, _⟩ := tinfo_spec ht
  unfold vpart at h
  cases ha : ti.agg with
  | true =>
    rw [ha, if_pos rfl] at h
    rw [ha] at hagg
    split at h
    · rename_i hle
      cases h
      have hex : ∀ j, j < ti.size → ∃ u, w.cell? ⟨b, base + o + j, none⟩ = some u ∧ ∀ v, cs[o + j]? = some v → Rv w Sb G v u := fun j hj => by
        have hj' : o + j < cs.length := by omega
        obtain ⟨u, q1, q2⟩ := hc (o + j) _ (List.getElem?_eq_getElem hj')
        refine ⟨u, by rw [Nat.add_assoc]; exact q1, fun v hv => ?_⟩
        rw [List.getElem?_eq_getElem hj'] at hv
        cases hv
        exact q2
      have hload := run_loadCells (P := P) w ⟨b, base + o, none⟩ ti.size (fun j => (w.cell? ⟨b, base + o + j, none⟩).getD undef) (fun j hj => by
        obtain ⟨u, q1, _⟩ := hex j hj
        rw [addr_add, q1]; rfl)
      refine ⟨_, ?_, .agg (us := ((List.range ti.size).map fun j => (w.cell? ⟨b, base + o + j, none⟩).getD undef).toArray) ?_ ?_ ?_⟩
      · unfold loadVar
        simp only [Sem.run_bind, run_isAgg hd, Result.andThen_ok, ← hagg, if_true, run_sizeOf hi, ← hs, hload, Sem.run_pure]
      · simp only [List.size_toArray, List.length_map, List.length_range, List.length_take, List.length_drop]; omega
      · intro v hv
        exact h1 v (List.mem_of_mem_drop (List.mem_of_mem_take hv))
      · intro j v u hv hu
        rw [List.getElem?_take] at hv
        split at hv
        · rename_i hj
          rw [List.getElem?_drop] at hv
          obtain ⟨u', q1, q2⟩ := hex j hj
          simp [hj, q1] at hu
          subst hu
          exact q2 v hv
        · cases hv
    · cases h
  | false =>
    rw [ha] at h hagg
    simp only [Bool.false_eq_true, if_false] at h
    obtain ⟨u, q1, q2⟩ := hc o v h
    refine ⟨u, ?_, q2⟩
    unfold loadVar
    simp [run_isAgg hd, ← hagg, run_load, q1]
theorem turn_cells {e : TypeId} {m : Nat} {xs : List (List V)} {E : Ent} (h : TurnOk w Sb G e m xs E) {i : Nat} {cs : List V} (hi : i < E.len) (hc : xs[i]? = some cs) :
    ∀ (j : Nat) (v : V), cs[j]? = some v → ∃ u, w.cell? ⟨E.blk, i * E.wid + j, none⟩ = some u ∧ Rv w Sb G v u := fun j v hv => by
  obtain ⟨cur, h1, h2, h3, h4, h5, h6, h7⟩ := h
  obtain ⟨u, q1, q2⟩ := h7 i cs j v hi hc hv
  exact ⟨u, by rw [h1, cell_of_row _ _ _ _ _ _ h2]; exact q1, q2⟩
theorem vload_rv (hs : WSim w Sb G st) {t : TypeId} {ti : TI} (ht : tinfo P t = some ti) {p v : V} {a : Value} (hp : Rv w Sb G p a) (h : vload st ti.agg ti.size p = some v) :
    ∃ u, (Instr.loadAt t a).run P w = .ok u w ∧ Rv w Sb G v u := by
  unfold vload at h
  split at h
  · rename_i id g i o
    split at h
    · rename_i e m k L xs hst
      split at h
      · rename_i hg
        cases hp
        rename_i E hE hi ho
        obtain ⟨hm, hL, hcs, hT, hlen, _⟩ := hs.blk id _ hst
        obtain ⟨E', hE', hT⟩ := hT g hg.1 hg.2
        rw [hE] at hE'
        cases hE'
        cases hx : xs[i]? with
        | none => rw [hx] at h; cases h
        | some cs =>
          rw [hx] at h
          have := load_part (P := P) ht (base := i * E.wid) (turn_cells hT hi hx) (hcs cs (List.mem_of_getElem? hx)).2 h
          simpa [Instr.loadAt, Instr.sureAddr] using this
      · cases h
    · cases h
  · rename_i cs
    cases hp
    rename_i b o f hb hn ho hcell hv
    have := load_part (P := P) (o := 0) ht (base := o) (fun j v q => ⟨f j, hcell j v q, hv j v q⟩) ho h
    simpa [Instr.loadAt, Instr.sureAddr] using this
  · cases h
theorem vstore_rv (hs : WSim w Sb G st) {t : TypeId} {ti : TI} (ht : tinfo P t = some ti) {p v : V} {a uv : Value} (hp : Rv w Sb G p a) (hv : Rv w Sb G v uv) {us : List (Nat × Blk)} (h : vstore st ti.size v p = some us) :
    ∃ w', (Instr.storeAt t a uv).run P w = .ok () w' ∧ Nxt w Sb G st w' Sb G (upd st us) := by
  obtain ⟨ii, d, hii, hd, _, hsz, _, hagg, _⟩ := tinfo_spec ht
  unfold vstore at h
  split at h
  · rename_i id g i o
    split at h
    · rename_i e m k L xs hst
      split at h
      · rename_i hc
        obtain ⟨rfl, hlen, hom, hone⟩ := hc
        cases hp
        rename_i E hE hi ho
        obtain ⟨hm, hL, hcs, hT, hfull, hnone⟩ := hs.blk id _ hst
        obtain ⟨E', hE', hT⟩ := hT g hL (Nat.le_refl _)
        rw [hE] at hE'
        cases hE'
        cases hx : xs[i]? with
        | none => rw [hx] at h; cases h
        | some cs =>
          rw [hx] at h
          cases h
          obtain ⟨hrel, hu1⟩ := hv.cells hone
          obtain ⟨cur, h1, h2, h3, h4, h5, h6, h7⟩ := hT
          have hclen := (hcs cs (List.mem_of_getElem? hx)).1
          have hul : uv.cells.toList.length = ti.size := by rw [hrel.1, hlen]
          have hfit : i * m + o + ti.size ≤ cur.size := by
            have h9 : (i + 1) * m ≤ E.cap * m := Nat.mul_le_mul_right m (by omega)
            rw [Nat.succ_mul] at h9
            omega
          have hrun := run_storeCells_at P E.blk (i * m + o) e uv.cells.toList 0 cur w h2 (by rw [hul]; omega) hu1
          simp only [Nat.add_zero, List.append_assoc] at hrun
          rw [hul] at hrun
          refine ⟨w.setRow E.blk (cur.toList.take (i * m + o) ++ (uv.cells.toList ++ cur.toList.drop (i * m + o + ti.size))).toArray, ?_, ?_⟩
          · unfold Instr.storeAt Instr.sureAddr storeVar
            have hszz : uv.cells.size = ii.size := by rw [← hsz, ← hul]; simp
            simp only [Sem.run_bind, Sem.run_pure, Result.andThen_ok, run_sizeOf hii, hszz, ne_eq, not_true_eq_false, if_false]
            rw [h1]
            exact hrun
          · simp only [upd]
            have hset := setRow_heap w E.blk cur (cur.toList.take (i * m + o) ++ (uv.cells.toList ++ cur.toList.drop (i * m + o + ti.size))).toArray e (0, 0) h2
            refine Nxt.turn hs rfl rfl rfl (by simp) (fun k hk hne => setRow_other w E.blk k _ (fun q => hne g E ((live_cells hst).2 ⟨hL, Nat.le_refl _⟩) hE q.symm)) (fun _ _ _ h => h) (fun _ _ _ => rfl)
              (fun k F hl hF => .inr ⟨g, E, (live_cells hst).2 ⟨hL, Nat.le_refl _⟩, hE, by
                have : k = g := by
                  have := hl
                  simp only [live] at this
                  omega
                subst this
                rw [hE] at hF
                cases hF
                rfl⟩) (fun hmono => ?_)
            have hsl : ∀ k, (cur.toList.take (i * m + o) ++ (uv.cells.toList ++ cur.toList.drop (i * m + o + ti.size)))[k]? = if i * m + o ≤ k ∧ k < i * m + o + ti.size then uv.cells.toList[k - (i * m + o)]? else cur.toList[k]? := fun k => by
              have := seg_get cur.toList uv.cells.toList (i * m + o) (by rw [hul]; simpa using hfit) k
              rw [hul] at this
              exact this
            have hspl : ∀ k, (splice cs o (vcells v))[k]? = if o ≤ k ∧ k < o + ti.size then (vcells v)[k - o]? else cs[k]? := fun k => by
              have := seg_get cs (vcells v) o (by omega) k
              unfold splice
              rw [hlen] at this ⊢
              exact this
            have hsplen : (splice cs o (vcells v)).length = m := by rw [splice_len _ _ _ (by omega)]; exact hclen
            refine ⟨hm, Nat.le_refl _, fun c hc => ?_, fun k a b => ⟨E, by rw [show k = g by omega]; exact hE, _, h1, hset, ?_, h4, h5, by simpa using h6, fun i' cs' j x hi' hcs' hx' => ?_⟩, fun E' hE' => by rw [hE] at hE'; cases hE'; simpa using hfull E hE, hnone⟩
            · rcases List.mem_or_eq_of_mem_set hc with hc | rfl
              · exact hcs c hc
              · refine ⟨hsplen, fun x hx' => ?_⟩
                unfold splice at hx'
                rcases List.mem_append.1 hx' with hx' | hx'
                · exact (hcs cs (List.mem_of_getElem? hx)).2 x (List.mem_of_mem_take hx')
                · rcases List.mem_append.1 hx' with hx' | hx'
                  · simpa using List.all_eq_true.1 hone x hx'
                  · exact (hcs cs (List.mem_of_getElem? hx)).2 x (List.mem_of_mem_drop hx')
            · simp only [List.size_toArray, List.length_append, List.length_take, List.length_drop, Array.length_toList, hul]
              omega
            · rw [List.getElem?_set] at hcs'
              have hget : ∀ k, ((cur.toList.take (i * m + o) ++ (uv.cells.toList ++ cur.toList.drop (i * m + o + ti.size))).toArray)[k]? = if i * m + o ≤ k ∧ k < i * m + o + ti.size then uv.cells.toList[k - (i * m + o)]? else cur[k]? := fun k => by
                have := hsl k
                simpa using this
              rw [hget]
              have hil : i < xs.length := (List.getElem?_eq_some_iff.1 hx).1
              by_cases hii' : i = i'
              · subst hii'
                rw [if_pos rfl, if_pos hil] at hcs'
                cases hcs'
                rw [hspl] at hx'
                by_cases hin : o ≤ j ∧ j < o + ti.size
                · rw [if_pos hin] at hx'
                  rw [if_pos (by omega), show i * m + j - (i * m + o) = j - o by omega]
                  obtain ⟨u', q1, q2⟩ := hrel.at hx'
                  exact ⟨u', q1, hmono _ _ q2⟩
                · rw [if_neg hin] at hx'
                  rw [if_neg (by omega)]
                  obtain ⟨u', q1, q2⟩ := h7 i cs j x hi hx hx'
                  exact ⟨u', q1, hmono _ _ q2⟩
              · rw [if_neg hii'] at hcs'
                have hjm : j < m := by
                  have := (hcs cs' (List.mem_of_getElem? hcs')).1
                  have := (List.getElem?_eq_some_iff.1 hx').1
                  omega
                obtain ⟨u', q1, q2⟩ := h7 i' cs' j x hi' hcs' hx'
                refine ⟨u', ?_, hmono _ _ q2⟩
                rw [if_neg]
                · exact q1
                · rintro ⟨a1, a2⟩
                  rcases Nat.lt_or_ge i i' with hlt | hge
                  · have := row_lt (m := m) (j := o + ti.size - 1) hlt (by omega)
                    omega
                  · have := row_lt (m := m) (j := j) (show i' < i by omega) hjm
                    omega
      · cases h
    · cases h
  · cases h
end
end Go.Vm
namespace Go.Vm
open Go.RowKit
section
variable {P : Program} {w w' : World} {Sb : Nat → Prop} {G : Gh} {st : Store}
theorem live_new (e : TypeId) (m : Nat) (xs : List (List V)) (id k : Nat) : live (fun _ => some (.cells e m 0 0 xs)) id k ↔ k = 0 := by simp [live]
theorem gput_zero {n k : Nat} {E : Ent} (_ : 0 ≤ k) (b : k ≤ 0) : gput G n 0 E n k = some E := by
  obtain rfl : k = 0 := by omega
  exact gput_same ..
theorem Nxt.row (hs : WSim w Sb G st) {n : Nat} (h1 : st n = none) (h2 : ∀ k, G n k = none) (e : TypeId) {m cap : Nat} {xs : List (List V)} {cur : Array Value} (hm : 0 < m) (hxs : ∀ cs ∈ xs, cs.length = m ∧ ∀ v ∈ cs, v.one = true) (hsz : cur.size = cap * m)
    (hl : xs.length ≤ cap) (hcm : cap ≤ maxLen) (hc : ∀ (i : Nat) (cs : List V) (j : Nat) (v : V), xs[i]? = some cs → cs[j]? = some v → ∃ u, cur[i * m + j]? = some u ∧ Rv w Sb G v u) :
    Nxt w Sb G st (w.alloc (.cells cur e)) Sb (gput G n 0 ⟨w.heap.size, cap, xs.length, m⟩) (put st n (.cells e m 0 0 xs)) := by
  refine Nxt.new hs h1 h2 _ _ _ rfl (live_new e m xs n) (fun hmono => ⟨hm, Nat.le_refl _, hxs, fun k a b => ⟨⟨w.heap.size, cap, xs.length, m⟩, gput_zero a b, cur, rfl, heap_alloc_new _ _, hsz, hl, hcm, Nat.le_refl _, fun i cs j v _ q1 q2 => ?_⟩, fun E hE => ?_, fun k hk => by rw [gput_ne _ _ (fun q => by omega)]; exact h2 k⟩)
  · obtain ⟨u, r1, r2⟩ := hc i cs j v q1 q2
    exact ⟨u, r1, hmono _ _ r2⟩
  · rw [gput_same] at hE
    cases hE
    rfl
theorem rv_new_ptr (n cap len m : Nat) (hl : 0 < len) (hm : 0 < m) : Rv w' Sb (gput G n 0 ⟨w.heap.size, cap, len, m⟩) (.ptr n 0 0 0) (.pointer (some ⟨w.heap.size, 0, none⟩)) := by
  have := Rv.ptr (w := w') (Sb := Sb) (i := 0) (o := 0) (gput_same G n 0 ⟨w.heap.size, cap, len, m⟩) hl hm
  simpa using this
theorem rv_new_row (n cap len m : Nat) (hm : 0 < m) : Rv w' Sb (gput G n 0 ⟨w.heap.size, cap, len, m⟩) (.row n 0 0 len) (.slice (some ⟨w.heap.size, 0, none⟩) len cap) :=
  Rv.row (gput_same G n 0 _) (by simp) hm (by simp) rfl (fun _ => by simp)
theorem valloc_rv (hs : WSim w Sb G st) {n : Nat} (h1 : st n = none) (h2 : ∀ k, G n k = none) (e : TypeId) {cs : List V} {cur : Array Value} {o : Out} (h : valloc e cs n = some o) (hr : Rvs w Sb G cs cur.toList) :
    ∃ w' G', (newRow e cur).run P w = .ok ⟨w.heap.size, 0, none⟩ w' ∧ Nxt w Sb G st w' Sb G' (upd st o.2.1) ∧ Rv w' Sb G' o.1 (.pointer (some ⟨w.heap.size, 0, none⟩)) ∧ o.2.2 = n + 1 ∧ ∀ id k, id ≠ n → G' id k = G id k := by
  unfold valloc at h
  split at h
  · rename_i hc
    cases h
    have hsz : cur.size = cs.length := by have := hr.1; simpa using this
    refine ⟨w.alloc (.cells cur e), gput G n 0 ⟨w.heap.size, 1, 1, cs.length⟩, by simp [newRow], ?_, ?_, rfl, fun id k hne => gput_ne _ _ (fun q => hne q.1)⟩
    · have := Nxt.row hs h1 h2 e (m := cs.length) (cap := 1) (xs := [cs]) (cur := cur) hc.1 (by simpa using hc.2) (by omega) (Nat.le_refl _) (by unfold maxLen; omega) (fun i c j v q1 q2 => by
        cases i with
        | succ i => simp at q1
        | zero =>
          simp at q1
          subst q1
          obtain ⟨u, r1, r2⟩ := hr.at q2
          exact ⟨u, by simpa using r1, r2⟩)
      exact this
    · exact rv_new_ptr n 1 1 cs.length (by omega) hc.1
  · cases h
theorem fold_get (off : Nat) : ∀ (l : List Value) (k : Nat) (cells : Array Value), off + k + l.length ≤ cells.size → ∀ i, ((l.zipIdx k).foldl (fun cs (x : Value × Nat) => cs.setIfInBounds (off + x.2) x.1) cells)[i]? = if off + k ≤ i ∧ i < off + k + l.length then l[i - (off + k)]? else cells[i]?
  | [], k, cells, _, i => by simp; intro h1 h2; omega
  | x :: l, k, cells, h, i => by
    have := fold_get off l (k + 1) (cells.setIfInBounds (off + k) x) (by simp at h ⊢; omega) i
    simp only [List.zipIdx_cons, List.foldl_cons]
    rw [this]
    simp only [List.length_cons] at h ⊢
    by_cases h1 : off + (k + 1) ≤ i ∧ i < off + (k + 1) + l.length
    · rw [if_pos h1, if_pos (by omega), show i - (off + k) = (i - (off + (k + 1))) + 1 by omega]
      rfl
    · rw [if_neg h1]
      by_cases h2 : i = off + k
      · subst h2
        rw [if_pos (by omega), Nat.sub_self]
        have : off + k < cells.size := by omega
        simp [this]
      · rw [if_neg (by omega), Array.getElem?_setIfInBounds_ne (by omega)]
theorem fold_size (off : Nat) : ∀ (l : List Value) (k : Nat) (cells : Array Value), ((l.zipIdx k).foldl (fun cs (x : Value × Nat) => cs.setIfInBounds (off + x.2) x.1) cells).size = cells.size
  | [], _, _ => rfl
  | x :: l, k, cells => by
    simp only [List.zipIdx_cons, List.foldl_cons]
    rw [fold_size off l (k + 1)]
    simp
theorem vfill_rv {place : Nat → Option (Nat × Nat)} : ∀ {ps : List (Nat × V)} {us : List (Nat × Value)} {cells cs : List V} {cur : Array Value}, us.length = ps.length → (∀ (i : Nat) (p : Nat × V) (q : Nat × Value), ps[i]? = some p → us[i]? = some q → q.1 = p.1 ∧ Rv w Sb G p.2 q.2) →
    Rvs w Sb G cells cur.toList → (∀ v ∈ cells, v.one = true) → vfill place cells ps = some cs → ∃ cur', Instr.fill place cur us = some cur' ∧ Rvs w Sb G cs cur'.toList ∧ cs.length = cells.length ∧ ∀ v ∈ cs, v.one = true
  | [], us, cells, cs, cur, hl, _, hr, ho, h => by
    have : us = [] := List.eq_nil_of_length_eq_zero (by simpa using hl)
    subst this
    simp only [vfill] at h
    cases h
    exact ⟨cur, rfl, hr, rfl, ho⟩
  | (i, v) :: ps, us, cells, cs, cur, hl, hp, hr, ho, h => by
    cases us with
    | nil => simp at hl
    | cons q us =>
      obtain ⟨j, u⟩ := q
      obtain ⟨hji, hv⟩ := hp 0 _ _ rfl rfl
      simp only at hji hv
      subst hji
      simp only [vfill] at h
      cases hpl : place j with
      | none => rw [hpl] at h; cases h
      | some os =>
        obtain ⟨off, size⟩ := os
        rw [hpl] at h
        simp only at h
        split at h
        · rename_i hc
          obtain ⟨h1, h2, h3⟩ := hc
          obtain ⟨hrel, _⟩ := hv.cells h3
          have hul : u.cells.size = size := by have := hrel.1; rw [← h1, ← this]; simp
          have hcl : cur.size = cells.length := by have := hr.1; simpa using this
          have hget := fold_get off u.cells.toList 0 cur (by simp; omega)
          have hsize := fold_size off u.cells.toList 0 cur
          have hspl : ∀ k, (splice cells off (vcells v))[k]? = if off ≤ k ∧ k < off + size then (vcells v)[k - off]? else cells[k]? := fun k => by
            have := seg_get cells (vcells v) off (by omega) k
            unfold splice
            rw [h1] at this ⊢
            exact this
          have hl2 : (splice cells off (vcells v)).length = cells.length := splice_len _ _ _ (by omega)
          have := vfill_rv (place := place) (ps := ps) (us := us) (cells := splice cells off (vcells v)) (cs := cs) (cur := (u.cells.toList.zipIdx).foldl (fun cs (x : Value × Nat) => cs.setIfInBounds (off + x.2) x.1) cur) (by simpa using hl) (fun i p q a b => hp (i + 1) p q (by simpa using a) (by simpa using b)) ⟨by rw [hl2, ← hcl, ← hsize]; simp, fun k x y a b => by
            rw [hspl] at a
            have hb := hget k
            simp only [Nat.add_zero, Array.length_toList, hul] at hb
            rw [Array.getElem?_toList, hb] at b
            split at a
            · rename_i hin
              rw [if_pos hin] at b
              exact hrel.2 _ _ _ a b
            · rename_i hin
              rw [if_neg hin] at b
              exact hr.2 _ _ _ a (by simpa using b)⟩ (fun x hx => by
            unfold splice at hx
            rcases List.mem_append.1 hx with hx | hx
            · exact ho x (List.mem_of_mem_take hx)
            · rcases List.mem_append.1 hx with hx | hx
              · simpa using List.all_eq_true.1 h3 x hx
              · exact ho x (List.mem_of_mem_drop hx)) h
          obtain ⟨cur', q1, q2, q3, q4⟩ := this
          refine ⟨cur', ?_, q2, by omega, q4⟩
          simp only [Instr.fill, hpl]
          rw [if_neg (by simp [hul]; omega)]
          rw [← q1, ← Array.foldl_toList, Array.toList_zipIdx]
        · cases h
end
end Go.Vm
namespace Go.Vm
open Go.RowKit
theorem divmod {k n m : Nat} (h : k < n * m) : k / m < n ∧ k % m < m ∧ k / m * m + k % m = k := by
  have hm : 0 < m := by
    rcases Nat.eq_zero_or_pos m with rfl | hm
    · simp at h
    · exact hm
  exact ⟨Nat.div_lt_of_lt_mul (by rwa [Nat.mul_comm]), Nat.mod_lt _ hm, by rw [Nat.mul_comm]; exact Nat.div_add_mod k m⟩
section
variable {P : Program} {w w' : World} {Sb : Nat → Prop} {G : Gh} {st : Store}
def CellsAt (w : World) (Sb : Nat → Prop) (G : Gh) (b o m : Nat) (ys : List (List V)) : Prop :=
  ∀ (i : Nat) (cs : List V) (j : Nat) (v : V), ys[i]? = some cs → cs[j]? = some v → ∃ u, w.cell? ⟨b, o + i * m + j, none⟩ = some u ∧ Rv w Sb G v u
theorem vseq_at (hs : WSim w Sb G st) {x : V} {u : Value} (hx : Rv w Sb G x u) {ys : List (List V)} (h : vseq st x = some ys) (hstr : ∀ s, x ≠ .str s) :
    ∃ a c, u = .slice a ys.length c ∧ (∀ cs ∈ ys, ∀ v ∈ cs, v.one = true) ∧ (ys = [] ∨ ∃ b o m, a = some ⟨b, o, none⟩ ∧ (∀ cs ∈ ys, cs.length = m) ∧ CellsAt w Sb G b o m ys) := by
  unfold vseq at h
  split at h
  · cases h; cases hx
    exact ⟨_, _, rfl, by simp, .inl rfl⟩
  · cases h
    cases hx with
    | list f hb hm hc hcm hl ho hcell hv =>
      exact ⟨_, _, rfl, fun cs hcs v hv => by obtain ⟨i, hi, rfl⟩ := List.getElem_of_mem hcs; exact ho i _ v (List.getElem?_eq_getElem hi) hv, .inr ⟨_, _, _, rfl, fun cs hcs => by obtain ⟨i, hi, rfl⟩ := List.getElem_of_mem hcs; exact hl i _ (List.getElem?_eq_getElem hi), fun i cs j v a b => ⟨_, hcell i cs j v a b, hv i cs j v a b⟩⟩⟩
    | list0 hcm => exact ⟨_, _, rfl, by simp, .inl rfl⟩
  · rename_i id g i n
    split at h
    · rename_i e m k L xs hst
      split at h
      · rename_i hc
        cases h
        cases hx
        rename_i c E a hsome hwid hE hn hcap ha
        obtain ⟨hm, hL, hcs, hT, hfull, _⟩ := hs.blk id _ hst
        obtain ⟨E', hE', hT⟩ := hT g hc.1 hc.2.1
        rw [hE] at hE'
        cases hE'
        have hlen : ((xs.drop i).take n).length = n := by rw [List.length_take, List.length_drop]; omega
        refine ⟨a, c, by rw [hlen], fun cs hcs' v hv => (hcs cs (List.mem_of_mem_drop (List.mem_of_mem_take hcs'))).2 v hv, ?_⟩
        by_cases hn0 : n = 0
        · left; subst hn0; simp
        · right
          refine ⟨E.blk, i * E.wid, m, ha (.inr (by omega)), fun cs hcs' => (hcs cs (List.mem_of_mem_drop (List.mem_of_mem_take hcs'))).1, fun i' cs j v q1 q2 => ?_⟩
          rw [List.getElem?_take] at q1
          split at q1
          · rename_i hi'
            rw [List.getElem?_drop] at q1
            have hwm : E.wid = m := by obtain ⟨cur, r1, _⟩ := hT; exact r1
            have := turn_cells hT (show i + i' < E.len by omega) q1 j v q2
            rw [hwm, Nat.add_mul] at this
            rw [hwm]
            exact this
          · cases q1
      · cases h
    · cases h
  · exact absurd rfl (hstr _)
  · cases h
theorem news_of {b o m : Nat} {ys : List (List V)} (hm : ∀ cs ∈ ys, cs.length = m) (hone : ∀ cs ∈ ys, ∀ v ∈ cs, v.one = true) (hc : CellsAt w Sb G b o m ys) :
    ∃ news : List Value, news.length = ys.length * m ∧ (∀ w', w'.heap = w.heap → (loadCells ⟨b, o, none⟩ (ys.length * m)).run P w' = .ok news.toArray w') ∧ (∀ x ∈ news, x.oneCell' = true) ∧
      ∀ (i : Nat) (cs : List V) (j : Nat) (v : V), ys[i]? = some cs → cs[j]? = some v → ∃ u, news[i * m + j]? = some u ∧ Rv w Sb G v u := by
  have hex : ∀ k, k < ys.length * m → ∃ u, w.cell? ⟨b, o + k, none⟩ = some u ∧ u.oneCell' = true ∧ ∀ cs v, ys[k / m]? = some cs → cs[k % m]? = some v → Rv w Sb G v u := fun k hk => by
    obtain ⟨h1, h2, h3⟩ := divmod hk
    have hcs := List.getElem?_eq_getElem h1
    have hl := hm _ (List.getElem_mem h1)
    have hv : (ys[k / m])[k % m]? = some ((ys[k / m])[k % m]'(by omega)) := List.getElem?_eq_getElem (by omega)
    obtain ⟨u, q1, q2⟩ := hc _ _ _ _ hcs hv
    refine ⟨u, by rw [← q1, Nat.add_assoc, h3], q2.one (hone _ (List.getElem_mem h1) _ (List.getElem_mem _)), fun cs v r1 r2 => ?_⟩
    rw [hcs] at r1
    cases r1
    rw [hv] at r2
    cases r2
    exact q2
  refine ⟨(List.range (ys.length * m)).map fun k => (w.cell? ⟨b, o + k, none⟩).getD undef, by simp, fun w' hw => ?_, fun x hx => ?_, fun i cs j v q1 q2 => ?_⟩
  · refine run_loadCells (P := P) w' ⟨b, o, none⟩ (ys.length * m) (fun k => (w.cell? ⟨b, o + k, none⟩).getD undef) (fun k hk => ?_)
    obtain ⟨u, r1, _⟩ := hex k hk
    rw [addr_add, r1]
    unfold World.cell? at r1 ⊢
    rw [hw]
    exact r1
  · simp only [List.mem_map, List.mem_range] at hx
    obtain ⟨k, hk, rfl⟩ := hx
    obtain ⟨u, r1, r2, _⟩ := hex k hk
    rw [r1]
    exact r2
  · have hi : i < ys.length := (List.getElem?_eq_some_iff.1 q1).1
    have hj : j < m := by have := hm cs (List.mem_of_getElem? q1); have := (List.getElem?_eq_some_iff.1 q2).1; omega
    have hk : i * m + j < ys.length * m := row_lt hi hj
    obtain ⟨u, r1, _⟩ := hc i cs j v q1 q2
    obtain ⟨u', s1, s2, s3⟩ := hex _ hk
    have hdm : (i * m + j) / m = i ∧ (i * m + j) % m = j := by
      constructor
      · rw [Nat.add_comm, Nat.add_mul_div_right _ _ (by omega), Nat.div_eq_of_lt hj, Nat.zero_add]
      · rw [Nat.add_comm, Nat.add_mul_mod_self_right]; exact Nat.mod_eq_of_lt hj
    refine ⟨u', ?_, s3 cs v (by rw [hdm.1]; exact q1) (by rw [hdm.2]; exact q2)⟩
    simp [hk, s1]
theorem okw_len (hs : WSim w Sb G st) {x : V} {u : Value} (hx : Rv w Sb G x u) {ys : List (List V)} (h : vseq st x = some ys) {m : Nat} (hm : okw st m x = true) : ∀ cs ∈ ys, cs.length = m := by
  unfold okw at hm
  split at hm
  · cases h; simp
  · rename_i k xs
    cases h
    cases hx with
    | list f hb hm' hc hcm hl ho hcell hv =>
      intro cs hcs
      obtain ⟨i, hi, rfl⟩ := List.getElem_of_mem hcs
      rw [hl i _ (List.getElem?_eq_getElem hi)]
      simpa using hm
    | list0 => simp
  · rename_i id g i n
    split at hm
    · rename_i e k G' L xs hst
      simp only [vseq, hst] at h
      split at h
      · cases h
        obtain ⟨_, _, hcs, _⟩ := hs.blk id _ hst
        intro cs hcs'
        rw [(hcs cs (List.mem_of_mem_drop (List.mem_of_mem_take hcs'))).1]
        simp at hm
        exact hm.1
      · cases h
    · cases hm
  · cases h
    intro cs hcs
    simp only [List.mem_map] at hcs
    obtain ⟨b, _, rfl⟩ := hcs
    have : m = 1 := by simpa using hm
    subst this
    rfl
  · cases hm
theorem vseq_news (hs : WSim w Sb G st) {x : V} {u : Value} (hx : Rv w Sb G x u) {ys : List (List V)} (h : vseq st x = some ys) {m : Nat} (hm : ∀ cs ∈ ys, cs.length = m) :
    (Builtin.lenOf u).run P w = .ok ys.length w ∧ ∃ news : List Value, news.length = ys.length * m ∧ (∀ w', w'.heap = w.heap → (Builtin.firstCells m ys.length u).run P w' = .ok news.toArray w') ∧ (∀ x ∈ news, x.oneCell' = true) ∧ (∀ cs ∈ ys, ∀ v ∈ cs, v.one = true) ∧
      ∀ (i : Nat) (cs : List V) (j : Nat) (v : V), ys[i]? = some cs → cs[j]? = some v → ∃ u, news[i * m + j]? = some u ∧ Rv w Sb G v u := by
  by_cases hstr : ∃ s, x = .str s
  · obtain ⟨s, rfl⟩ := hstr
    cases hx
    simp only [vseq] at h
    cases h
    have hone : ∀ cs ∈ s.data.toList.map (fun b => [V.int .u8 b.toNat]), ∀ v ∈ cs, v.one = true := by
      intro cs hcs v hv
      simp only [List.mem_map] at hcs
      obtain ⟨b, _, rfl⟩ := hcs
      simp at hv
      subst hv
      rfl
    have hlen : (s.data.toList.map (fun b => [V.int .u8 b.toNat])).length = s.size := by simp
    refine ⟨by simp [Builtin.lenOf], s.data.toList.map fun b => .int .u8 b.toNat, ?_, fun w' _ => ?_, fun x hx => ?_, hone, fun i cs j v q1 q2 => ?_⟩
    · cases hd : s.data.toList with
      | nil => simp
      | cons b r =>
        have : m = 1 := (hm [.int .u8 b.toNat] (by rw [hd]; simp)).symm
        subst this
        simp
    · rw [hlen]
      simp [Builtin.firstCells]
      apply Array.ext'
      simp
    · simp only [List.mem_map] at hx
      obtain ⟨b, _, rfl⟩ := hx
      rfl
    · have hi := q1
      rw [List.getElem?_map] at hi
      cases hb : s.data.toList[i]? with
      | none => rw [hb] at hi; cases hi
      | some b =>
        rw [hb] at hi
        simp at hi
        subst hi
        have : m = 1 := (hm _ (List.mem_of_getElem? q1)).symm
        subst this
        cases j with
        | succ j => simp at q2
        | zero =>
          simp at q2
          subst q2
          exact ⟨.int .u8 b.toNat, by simp only [Nat.mul_one, Nat.add_zero, List.getElem?_map, hb, Option.map_some], .int _ _⟩
  · obtain ⟨a, c, rfl, hone, hr⟩ := vseq_at hs hx h (fun s hs' => hstr ⟨s, hs'⟩)
    refine ⟨by simp [Builtin.lenOf], ?_⟩
    rcases hr with rfl | ⟨b, o, m', rfl, hm', hc⟩
    · refine ⟨[], by simp, fun w' _ => ?_, by simp, by simp, fun i cs j v q => by simp at q⟩
      cases a <;> simp [Builtin.firstCells, loadCells, loadCellsFrom]
    · cases hys : ys with
      | nil => exact ⟨[], by simp, fun w' _ => by simp [Builtin.firstCells, loadCells, loadCellsFrom], by simp, by simp, fun i cs j v q => by simp at q⟩
      | cons y r =>
        rw [← hys]
        have : m' = m := by rw [← hm' y (by rw [hys]; simp), ← hm y (by rw [hys]; simp)]
        subst this
        obtain ⟨news, q1, q2, q3, q4⟩ := news_of (P := P) hm hone hc
        exact ⟨news, q1, fun w' hw => by simpa [Builtin.firstCells] using q2 w' hw, q3, hone, q4⟩
end
end Go.Vm
namespace Go.Vm
open Go.RowKit
section
variable {P : Program} {w : World} {Sb : Nat → Prop} {G : Gh} {st : Store}
theorem app_nil (w : World) {t u ty e e2 : TypeId} {i : TypeInfo} {z x : Value} (ht : P.underlying t = some (.slice e)) (hu : P.underlying u = some (.slice e2) ∨ P.underlying u = some .string) (hi : P.info? e = some i) (hz : i.zero = some z)
    {k : Nat} {news : List Value} (hx : (Builtin.lenOf x).run P w = .ok k w) (hf : (Builtin.firstCells i.size k x).run P w.drew = .ok news.toArray w.drew) (h0 : 0 < k) (h63 : (k : Int) ≤ 9223372036854775807) (h48 : k * i.bytes ≤ 281474976710656) :
    (Builtin.append_ #[t, u] ty #[.slice none 0 0, x]).run P w = .ok (.slice (some ⟨w.heap.size, 0, none⟩) k (grownCap w k 0 e)) (w.drew.alloc (.cells (news.toArray ++ Builtin.zeroCells z.cells (grownCap w k 0 e - k)) e)) := by
  have hn : k ≠ 0 := by omega
  have h63' : ¬ (9223372036854775807 < (k : Int)) := by omega
  have h48' : ¬ (281474976710656 < Builtin.nextslicecap k 0 * i.bytes) := by rw [nextslicecap_zero h0]; omega
  rcases hu with hu | hu <;>
    simp [Builtin.append_, run_underlying ht, run_underlying hu, sizeOf, typeInfo, zeroValue, hi, hz, hx, hn, h63', h48', Question.forced, run_firstCells_none, hf, newRow, grownCap]
theorem app_none (w : World) {t u ty e e2 : TypeId} {i : TypeInfo} {x : Value} (ht : P.underlying t = some (.slice e)) (hu : P.underlying u = some (.slice e2) ∨ P.underlying u = some .string) (hi : P.info? e = some i)
    {news : List Value} (hx : (Builtin.lenOf x).run P w = .ok 0 w) (hf : (Builtin.firstCells i.size 0 x).run P w = .ok news.toArray w) :
    (Builtin.append_ #[t, u] ty #[.slice none 0 0, x]).run P w = .ok (.slice none 0 0) w := by
  rcases hu with hu | hu <;>
    simp [Builtin.append_, run_underlying ht, run_underlying hu, sizeOf, typeInfo, hi, hx, hf]
theorem app_grow (w : World) {t u ty e e2 : TypeId} {i : TypeInfo} {z x : Value} (ht : P.underlying t = some (.slice e)) (hu : P.underlying u = some (.slice e2) ∨ P.underlying u = some .string) (hi : P.info? e = some i) (hz : i.zero = some z)
    (b : Addr) (sLen sCap : Nat) (olds : List Value) (hlo : olds.length = sLen * i.size) (holds : ∀ j v, olds[j]? = some v → w.cell? (b.add j) = some v)
    {k : Nat} {news : List Value} (hx : (Builtin.lenOf x).run P w = .ok k w) (hf : (Builtin.firstCells i.size k x).run P w.drew = .ok news.toArray w.drew)
    (hg : sCap < sLen + k) (h63 : ((sLen + k : Nat) : Int) ≤ 9223372036854775807) (hfit : Builtin.nextslicecap (sLen + k) sCap * i.bytes ≤ 281474976710656) :
    (Builtin.append_ #[t, u] ty #[.slice (some b) sLen sCap, x]).run P w = .ok (.slice (some ⟨w.heap.size, 0, none⟩) (sLen + k) (grownCap w (sLen + k) sCap e))
      (w.drew.alloc (.cells (olds.toArray ++ news.toArray ++ Builtin.zeroCells z.cells (grownCap w (sLen + k) sCap e - (sLen + k))) e)) := by
  have hn : ¬ (sLen + k ≤ sCap) := by omega
  have h63' : ¬ (9223372036854775807 < ((sLen : Int) + (k : Int))) := by omega
  have h48' : ¬ (281474976710656 < Builtin.nextslicecap (sLen + k) sCap * i.bytes) := by omega
  have hfo := run_firstCells_some (P := P) w.drew i.size sLen b sLen sCap olds hlo (by simpa using holds)
  rcases hu with hu | hu <;>
    (simp [Builtin.append_, run_underlying ht, run_underlying hu, sizeOf, typeInfo, zeroValue, hi, hz, hx, hn, h63', h48', Question.forced, hf, hfo, newRow, grownCap]
     congr 2
     apply Array.ext'
     simp [List.append_assoc])
theorem app_room (w : World) {t u ty e e2 : TypeId} {i : TypeInfo} {x : Value} (ht : P.underlying t = some (.slice e)) (hu : P.underlying u = some (.slice e2) ∨ P.underlying u = some .string) (hi : P.info? e = some i)
    (g sLen sCap : Nat) (cur : Array Value) (hg : w.heap[g]? = some (.cells cur e (0, 0)))
    {k : Nat} {news : List Value} (hx : (Builtin.lenOf x).run P w = .ok k w) (hf : (Builtin.firstCells i.size k x).run P w = .ok news.toArray w) (h1 : ∀ u ∈ news, u.oneCell' = true)
    (hroom : sLen + k ≤ sCap) (hfit : sLen * i.size + news.length ≤ cur.size) :
    (Builtin.append_ #[t, u] ty #[.slice (some ⟨g, 0, none⟩) sLen sCap, x]).run P w =
      .ok (.slice (some ⟨g, 0, none⟩) (sLen + k) sCap) (w.setRow g (cur.toList.take (sLen * i.size) ++ (news ++ cur.toList.drop (sLen * i.size + news.length))).toArray) := by
  have hst := run_storeCells_at P g (sLen * i.size) e news 0 cur w hg (by simpa using hfit) h1
  simp only [Nat.add_zero, List.append_assoc] at hst
  rcases hu with hu | hu <;>
    simp [Builtin.append_, run_underlying ht, run_underlying hu, sizeOf, typeInfo, hi, hx, hroom, hf, Addr.add_lit, hst]
theorem maxLen_of {n b : Nat} (hb : 0 < b) (h : n * b ≤ room) : n ≤ maxLen := by
  have : n * 1 ≤ n * b := Nat.mul_le_mul_left n hb
  unfold room at h
  unfold maxLen
  omega
theorem vappend_rv (hs : WSim w Sb G st) {n : Nat} {t u ty e e2 : TypeId} {i : TypeInfo} {z : Value} (ht : P.underlying t = some (.slice e)) (hu : P.underlying u = some (.slice e2) ∨ P.underlying u = some .string)
    (hi : P.info? e = some i) (hz : i.zero = some z) (hzs : z.cells.size = i.size) (hm : 0 < i.size) (hb : 0 < i.bytes) {s x : V} {us ux : Value} (hsv : Rv w Sb G s us) (hxv : Rv w Sb G x ux) {ys : List (List V)} (hseq : vseq st x = some ys) (hlen : ∀ cs ∈ ys, cs.length = i.size)
    {o : Out} (hfr : o.2.2 = n + 1 → st n = none ∧ ∀ k, G n k = none) (h : vappend st n e i.size i.bytes ys s = some o) :
    ∃ r w' G', (Builtin.append_ #[t, u] ty #[us, ux]).run P w = .ok r w' ∧ Nxt w Sb G st w' Sb G' (upd st o.2.1) ∧ Rv w' Sb G' o.1 r ∧ n ≤ o.2.2 ∧ ∀ id k, (id < n ∨ o.2.2 ≤ id) → st id = none → G' id k = G id k := by
  obtain ⟨hx, news, hnl, hf, hn1, hone, hrel⟩ := vseq_news (P := P) hs hxv hseq hlen
  unfold vappend at h
  split at h
  · cases hsv
    split at h
    · rename_i hy
      cases h
      rw [hy] at hx hf
      exact ⟨_, w, G, app_none w ht hu hi hx (hf w rfl), Nxt.refl hs, .nil, Nat.le_refl _, fun _ _ _ _ => rfl⟩
    · rename_i hy
      split at h
      · rename_i hbnd
        cases h
        obtain ⟨h1, h2⟩ := hfr rfl
        have hmax := maxLen_of hb hbnd
        have hcm : grownCap w ys.length 0 e ≤ maxLen := grownCap_le_maxLen w ys.length 0 e hmax
        have hge := grownCap_ge w ys.length 0 e
        have hN : Nxt w Sb G st w.drew Sb G st := Nxt.same hs rfl rfl rfl rfl
        have hR := Nxt.row hN.sim h1 h2 e (m := i.size) (cap := grownCap w ys.length 0 e) (xs := ys) (cur := news.toArray ++ Builtin.zeroCells z.cells (grownCap w ys.length 0 e - ys.length)) hm (fun cs hcs => ⟨hlen cs hcs, hone cs hcs⟩)
          (by rw [Array.size_append, size_zeroCells, hzs, List.size_toArray, hnl, ← Nat.add_mul]; congr 1; omega) hge hcm (fun a cs j v q1 q2 => by
            obtain ⟨y, r1, r2⟩ := hrel a cs j v q1 q2
            have hlt : a * i.size + j < news.length := (List.getElem?_eq_some_iff.1 r1).1
            exact ⟨y, by rw [Array.getElem?_append_left (by simpa using hlt)]; simpa using r1, hN.rv hs r2⟩)
        refine ⟨_, _, _, app_nil w ht hu hi hz hx (hf w.drew rfl) (by omega) (by unfold maxLen at hmax; omega) (by unfold room at hbnd; omega), hN.trans hR, rv_new_row n _ _ _ hm, by simp, fun id k hid _ => gput_ne _ _ (fun q => by simp at hid; omega)⟩
      · cases h
  · rename_i id g k
    split at h
    · rename_i e' m' g' L xs hst
      split at h
      · rename_i hc
        obtain ⟨rfl, rfl, rfl, hk, hbnd⟩ := hc
        obtain ⟨_, hL, hcs, hT, hfull, hnone⟩ := hs.blk id _ hst
        obtain ⟨E, hE, hTg⟩ := hT g hL (Nat.le_refl _)
        have hTg0 := hTg
        obtain ⟨cur, h3, h4, h5, h6, h7, h8, h9⟩ := hTg
        have hEl := hfull E hE
        cases hsv with
        | @row _ _ _ _ c E' a hE' hkn hwid hcap hsome ha =>
          rw [hE] at hE'
          cases hE'
          have ha := ha (.inl rfl)
          subst ha
          rw [Nat.zero_mul]
          have hmax := maxLen_of hb hbnd
          have hgn := hnone (g + 1) (by omega)
          have hlv : ∀ j, live st id j ↔ L ≤ j ∧ j ≤ g := fun j => live_cells hst
          have hxs' : ∀ cs ∈ xs.take k ++ ys, cs.length = i.size ∧ ∀ v ∈ cs, v.one = true := fun cs hcs' => by
            rcases List.mem_append.1 hcs' with q | q
            · exact hcs cs (List.mem_of_mem_take q)
            · exact ⟨hlen cs q, hone cs q⟩
          have htl : (xs.take k).length = k := by rw [List.length_take]; omega
          have hxl : (xs.take k ++ ys).length = k + ys.length := by simp; omega
          have hxold : ∀ j, j < k → (xs.take k ++ ys)[j]? = xs[j]? := fun j hj => by rw [List.getElem?_append_left (by omega), List.getElem?_take, if_pos hj]
          have hxnew : ∀ j, k ≤ j → (xs.take k ++ ys)[j]? = ys[j - k]? := fun j hj => by rw [List.getElem?_append_right (by omega), htl]
          have hck : k * i.size ≤ cur.size := by rw [h5]; exact Nat.mul_le_mul_right _ (by omega)
          by_cases hin : k + ys.length ≤ xs.length ∧ k < xs.length
          · rw [if_pos hin] at h
            cases h
            have hroom : k + ys.length ≤ c := by omega
            have hfit : k * i.size + news.length ≤ cur.size := by rw [hnl, h5, ← Nat.add_mul]; exact Nat.mul_le_mul_right _ (by omega)
            have hrun := app_room w (ty := ty) ht hu hi E.blk k c cur h4 hx (hf w rfl) hn1 hroom hfit
            have hset := setRow_heap w E.blk cur (cur.toList.take (k * i.size) ++ (news ++ cur.toList.drop (k * i.size + news.length))).toArray e' (0, 0) h4
            have hget : ∀ q, ((cur.toList.take (k * i.size) ++ (news ++ cur.toList.drop (k * i.size + news.length))).toArray)[q]? = if k * i.size ≤ q ∧ q < k * i.size + news.length then news[q - k * i.size]? else cur[q]? := fun q => by
              have := seg_get cur.toList news (k * i.size) (by simpa using hfit) q
              simpa using this
            have hszn : ((cur.toList.take (k * i.size) ++ (news ++ cur.toList.drop (k * i.size + news.length))).toArray).size = cur.size := by
              simp only [List.size_toArray, List.length_append, List.length_take, List.length_drop, Array.length_toList]
              omega
            have hzl : (xs.take k ++ (ys ++ xs.drop (k + ys.length))).length = xs.length := by simp; omega
            have hzget : ∀ q, (xs.take k ++ (ys ++ xs.drop (k + ys.length)))[q]? = if k ≤ q ∧ q < k + ys.length then ys[q - k]? else xs[q]? := fun q => seg_get xs ys k (by omega) q
            refine ⟨_, _, G, hrun, ?_, ?_, Nat.le_refl _, fun _ _ _ _ => rfl⟩
            · simp only [upd]
              refine Nxt.turn hs rfl rfl rfl (by simp) (fun q hq hne => setRow_other w E.blk q _ (fun q' => hne g E ((hlv g).2 ⟨hL, Nat.le_refl _⟩) hE q'.symm)) (fun _ _ _ h => h) (fun _ _ _ => rfl)
                (fun q F hl hF => .inr ⟨g, E, (hlv g).2 ⟨hL, Nat.le_refl _⟩, hE, by
                  have : q = g := by
                    have := hl
                    simp only [live] at this
                    omega
                  subst this
                  rw [hE] at hF
                  cases hF
                  rfl⟩) (fun hmono => ?_)
              refine ⟨hm, Nat.le_refl _, fun cs hcs' => ?_, fun q a b => ⟨E, by rw [show q = g by omega]; exact hE, _, h3, hset, by rw [hszn]; exact h5, h6, h7, by rw [hzl]; exact h8, fun i' cs j v hi' q1 q2 => ?_⟩, fun F hF => by rw [hE] at hF; cases hF; rw [hzl]; exact hEl, hnone⟩
              · rcases List.mem_append.1 hcs' with q | q
                · exact hcs cs (List.mem_of_mem_take q)
                · rcases List.mem_append.1 q with q | q
                  · exact ⟨hlen cs q, hone cs q⟩
                  · exact hcs cs (List.mem_of_mem_drop q)
              · rw [hget]
                rw [hzget] at q1
                by_cases hlt : k ≤ i' ∧ i' < k + ys.length
                · rw [if_pos hlt] at q1
                  obtain ⟨y, r1, r2⟩ := hrel _ cs j v q1 q2
                  have hlt2 := (List.getElem?_eq_some_iff.1 r1).1
                  have he : i' * i.size + j = k * i.size + ((i' - k) * i.size + j) := by rw [← Nat.add_assoc, ← Nat.add_mul]; congr 2; omega
                  exact ⟨y, by rw [if_pos (by omega), show i' * i.size + j - k * i.size = (i' - k) * i.size + j by omega]; exact r1, hmono _ _ r2⟩
                · rw [if_neg hlt] at q1
                  obtain ⟨y, r1, r2⟩ := h9 i' cs j v hi' q1 q2
                  have hjm : j < i.size := by have := (hcs cs (List.mem_of_getElem? q1)).1; have := (List.getElem?_eq_some_iff.1 q2).1; omega
                  have hno : ¬ (k * i.size ≤ i' * i.size + j ∧ i' * i.size + j < k * i.size + news.length) := by
                    rw [hnl, ← Nat.add_mul]
                    rcases Nat.lt_or_ge i' k with q | q
                    · have := row_lt (m := i.size) q hjm
                      omega
                    · have : (k + ys.length) * i.size ≤ i' * i.size := Nat.mul_le_mul_right _ (by omega)
                      omega
                  exact ⟨y, by rw [if_neg hno]; exact r1, hmono _ _ r2⟩
            · exact Rv.row hE (by omega) hwid hcap rfl (fun _ => by simp)
          rw [if_neg hin] at h
          cases h
          by_cases hroom : k + ys.length ≤ c
          · have hfit : k * i.size + news.length ≤ cur.size := by rw [hnl, h5, ← Nat.add_mul]; exact Nat.mul_le_mul_right _ (by omega)
            have hrun := app_room w (ty := ty) ht hu hi E.blk k c cur h4 hx (hf w rfl) hn1 hroom hfit
            have hset := setRow_heap w E.blk cur (cur.toList.take (k * i.size) ++ (news ++ cur.toList.drop (k * i.size + news.length))).toArray e' (0, 0) h4
            have hget : ∀ q, ((cur.toList.take (k * i.size) ++ (news ++ cur.toList.drop (k * i.size + news.length))).toArray)[q]? = if k * i.size ≤ q ∧ q < k * i.size + news.length then news[q - k * i.size]? else cur[q]? := fun q => by
              have := seg_get cur.toList news (k * i.size) (by simpa using hfit) q
              simpa using this
            have hszn : ((cur.toList.take (k * i.size) ++ (news ++ cur.toList.drop (k * i.size + news.length))).toArray).size = cur.size := by
              simp only [List.size_toArray, List.length_append, List.length_take, List.length_drop, Array.length_toList]
              omega
            refine ⟨_, _, gput G id (g + 1) ⟨E.blk, E.cap, k + ys.length, i.size⟩, hrun, ?_, ?_, Nat.le_refl _, fun id' k' _ hn' => gput_ne _ _ (fun q => by rw [q.1, hst] at hn'; cases hn')⟩
            · simp only [upd]
              refine Nxt.turn hs rfl rfl rfl (by simp) (fun q hq hne => setRow_other w E.blk q _ (fun q' => hne g E ((hlv g).2 ⟨hL, Nat.le_refl _⟩) hE q'.symm)) (gput_mono G id (g + 1) _ hgn) (fun i' j hne => gput_ne _ _ (fun q => hne q.1)) (fun q F hl hF => ?_) (fun hmono => ?_)
              · right
                by_cases hq : q = g + 1
                · subst hq
                  rw [gput_same] at hF
                  cases hF
                  exact ⟨g, E, (hlv g).2 ⟨hL, Nat.le_refl _⟩, hE, rfl⟩
                · rw [gput_ne _ _ (fun q' => hq q'.2)] at hF
                  simp only [live] at hl
                  refine ⟨q, F, (hlv q).2 ⟨?_, by omega⟩, hF, rfl⟩
                  split at hl <;> omega
              · refine ⟨hm, by split <;> omega, hxs', fun q a b => ?_, fun F hF => by rw [gput_same] at hF; cases hF; simpa using hxl.symm, fun q hq => by rw [gput_ne _ _ (fun q' => by omega)]; exact hnone q (by omega)⟩
                by_cases hq : q = g + 1
                · subst hq
                  refine ⟨_, gput_same .., _, rfl, hset, by rw [hszn]; exact h5, by simp; omega, h7, by simp; omega, fun i' cs j v hi' q1 q2 => ?_⟩
                  rw [hget]
                  have hjm : j < i.size := by have := (hxs' cs (List.mem_of_getElem? q1)).1; have := (List.getElem?_eq_some_iff.1 q2).1; omega
                  by_cases hlt : i' < k
                  · rw [hxold i' hlt] at q1
                    obtain ⟨y, r1, r2⟩ := h9 i' cs j v (by omega) q1 q2
                    have := row_lt (m := i.size) hlt hjm
                    exact ⟨y, by rw [if_neg (by omega)]; exact r1, hmono _ _ r2⟩
                  · rw [hxnew i' (by omega)] at q1
                    obtain ⟨y, r1, r2⟩ := hrel _ cs j v q1 q2
                    have hlt2 := (List.getElem?_eq_some_iff.1 r1).1
                    have he : i' * i.size + j = k * i.size + ((i' - k) * i.size + j) := by rw [← Nat.add_assoc, ← Nat.add_mul]; congr 2; omega
                    exact ⟨y, by rw [if_pos (by omega), show i' * i.size + j - k * i.size = (i' - k) * i.size + j by omega]; exact r1, hmono _ _ r2⟩
                · have hqL : k = xs.length ∧ L ≤ q := by
                    split at a
                    · exact ⟨‹_›, a⟩
                    · omega
                  obtain ⟨F, r1, r2⟩ := hT q hqL.2 (by omega)
                  refine ⟨F, by rw [gput_ne _ _ (fun q' => hq q'.2)]; exact r1, ?_⟩
                  obtain ⟨cur2, s1, s2, s3, s4, s5, s6, s7⟩ := r2
                  by_cases hbb : F.blk = E.blk
                  · rw [hbb, h4] at s2
                    cases s2
                    refine ⟨_, s1, by rw [hbb]; exact hset, by rw [hszn]; exact s3, s4, s5, by rw [hxl]; omega, fun i' cs j v hi' q1 q2 => ?_⟩
                    rw [hget]
                    have hjm : j < i.size := by have := (hxs' cs (List.mem_of_getElem? q1)).1; have := (List.getElem?_eq_some_iff.1 q2).1; omega
                    rw [hxold i' (by omega)] at q1
                    obtain ⟨y, r1, r2⟩ := s7 i' cs j v hi' q1 q2
                    have := row_lt (m := i.size) (show i' < k by omega) hjm
                    exact ⟨y, by rw [if_neg (by omega)]; exact r1, hmono _ _ r2⟩
                  · refine ⟨cur2, s1, by rw [setRow_other w E.blk F.blk _ hbb]; exact s2, s3, s4, s5, by rw [hxl]; omega, fun i' cs j v hi' q1 q2 => ?_⟩
                    rw [hxold i' (by omega)] at q1
                    obtain ⟨y, r1, r2⟩ := s7 i' cs j v hi' q1 q2
                    exact ⟨y, r1, hmono _ _ r2⟩
            · exact Rv.row (gput_same ..) (by simp) hm (by simpa using hcap) rfl (fun _ => by simp)
          · have holds : ∀ j v, (cur.toList.take (k * i.size))[j]? = some v → w.cell? ((⟨E.blk, 0, none⟩ : Addr).add j) = some v := fun j v hv => by
              rw [addr_add, Nat.zero_add, cell_of_row _ _ _ _ _ _ h4]
              rw [List.getElem?_take] at hv
              split at hv
              · simpa using hv
              · cases hv
            have hol : (cur.toList.take (k * i.size)).length = k * i.size := by rw [List.length_take]; simp; omega
            have hrun := app_grow w (ty := ty) ht hu hi hz ⟨E.blk, 0, none⟩ k c _ hol holds hx (hf w.drew rfl) (by omega) (by unfold maxLen at hmax; omega) (growslice_fits (by omega) (by unfold room at hbnd; exact hbnd))
            have hcm : grownCap w (k + ys.length) c e' ≤ maxLen := grownCap_le_maxLen w _ _ e' hmax
            have hge := grownCap_ge w (k + ys.length) c e'
            refine ⟨_, _, gput G id (g + 1) ⟨w.heap.size, grownCap w (k + ys.length) c e', k + ys.length, i.size⟩, hrun, ?_, ?_, Nat.le_refl _, fun id' k' _ hn' => gput_ne _ _ (fun q => by rw [q.1, hst] at hn'; cases hn')⟩
            · simp only [upd]
              have hblk : ∀ q, q < w.heap.size → (w.drew.alloc (.cells ((cur.toList.take (k * i.size)).toArray ++ news.toArray ++ Builtin.zeroCells z.cells (grownCap w (k + ys.length) c e' - (k + ys.length))) e')).heap[q]? = w.heap[q]? := fun q hq => heap_alloc_old w.drew _ hq
              refine Nxt.turn hs rfl rfl rfl (by simp) (fun q hq _ => hblk q hq) (gput_mono G id (g + 1) _ hgn) (fun i' j hne => gput_ne _ _ (fun q => hne q.1)) (fun q F hl hF => ?_) (fun hmono => ?_)
              · by_cases hq : q = g + 1
                · subst hq
                  rw [gput_same] at hF
                  cases hF
                  exact .inl (Nat.le_refl _)
                · right
                  rw [gput_ne _ _ (fun q' => hq q'.2)] at hF
                  simp only [live] at hl
                  refine ⟨q, F, (hlv q).2 ⟨?_, by omega⟩, hF, rfl⟩
                  split at hl <;> omega
              · refine ⟨hm, by split <;> omega, hxs', fun q a b => ?_, fun F hF => by rw [gput_same] at hF; cases hF; simpa using hxl.symm, fun q hq => by rw [gput_ne _ _ (fun q' => by omega)]; exact hnone q (by omega)⟩
                by_cases hq : q = g + 1
                · subst hq
                  refine ⟨_, gput_same .., _, rfl, heap_alloc_new w.drew _, ?_, hge, hcm, by simp; omega, fun i' cs j v hi' q1 q2 => ?_⟩
                  · simp only [Array.size_append, List.size_toArray, hol, size_zeroCells, hzs, hnl, ← Nat.add_mul]
                    congr 1
                    omega
                  have hjm : j < i.size := by have := (hxs' cs (List.mem_of_getElem? q1)).1; have := (List.getElem?_eq_some_iff.1 q2).1; omega
                  by_cases hlt : i' < k
                  · rw [hxold i' hlt] at q1
                    obtain ⟨y, r1, r2⟩ := h9 i' cs j v (by omega) q1 q2
                    have := row_lt (m := i.size) hlt hjm
                    refine ⟨y, ?_, hmono _ _ r2⟩
                    rw [Array.append_assoc, Array.getElem?_append_left (by simp; omega)]
                    simp [this, r1]
                  · rw [hxnew i' (by omega)] at q1
                    obtain ⟨y, r1, r2⟩ := hrel _ cs j v q1 q2
                    have hlt2 := (List.getElem?_eq_some_iff.1 r1).1
                    have he : i' * i.size + j = k * i.size + ((i' - k) * i.size + j) := by rw [← Nat.add_assoc, ← Nat.add_mul]; congr 2; omega
                    refine ⟨y, ?_, hmono _ _ r2⟩
                    rw [Array.append_assoc, Array.getElem?_append_right (by simp only [List.size_toArray, hol]; omega), Array.getElem?_append_left (by simp only [List.size_toArray, hol]; omega)]
                    simp only [List.size_toArray, hol]
                    rw [show i' * i.size + j - k * i.size = (i' - k) * i.size + j by omega]
                    simpa using r1
                · have hqL : k = xs.length ∧ L ≤ q := by
                    split at a
                    · exact ⟨‹_›, a⟩
                    · omega
                  obtain ⟨F, r1, r2⟩ := hT q hqL.2 (by omega)
                  refine ⟨F, by rw [gput_ne _ _ (fun q' => hq q'.2)]; exact r1, ?_⟩
                  obtain ⟨cur2, s1, s2, s3, s4, s5, s6, s7⟩ := r2
                  refine ⟨cur2, s1, by rw [hblk _ (Array.getElem?_eq_some_iff.1 s2).1]; exact s2, s3, s4, s5, by rw [hxl]; omega, fun i' cs j v hi' q1 q2 => ?_⟩
                  rw [hxold i' (by omega)] at q1
                  obtain ⟨y, r1, r2⟩ := s7 i' cs j v hi' q1 q2
                  exact ⟨y, r1, hmono _ _ r2⟩
            · exact Rv.row (gput_same ..) (by simp) hm (by simp) rfl (fun _ => by simp)
      · cases h
    · cases h
  · cases h
end
end Go.Vm
