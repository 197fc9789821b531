/-
  A runner that knows which places come: run.begin.
-/
import Derived.Test.YthfcbbdghggefaaGreatPk
namespace Go.Um
open Go.RowKit
theorem alloc_get (W : World) (o : Obj) (g : Nat) : (W.alloc o).heap[g]? = if g = W.heap.size then some o else W.heap[g]? := by
  by_cases h : g = W.heap.size
  · rw [if_pos h, h, heap_alloc_new]
  · rw [if_neg h]
    by_cases h2 : g < W.heap.size
    · exact Below.heap_alloc W o g h2
    · rw [Array.getElem?_eq_none (by simp; omega), Array.getElem?_eq_none (by omega)]
def setO (i : Nat) (v : Value) : Obj → Obj
  | .cells c e fr => .cells (c.setIfInBounds i v) e fr
  | o => o
theorem setCell_get (W : World) (b i : Nat) (v : Value) (g : Nat) : (W.setCell ⟨b, i, none⟩ v).heap[g]? = if g = b then (W.heap[b]?).map (setO i v) else W.heap[g]? := by
  by_cases h : g = b
  · subst h
    rw [if_pos rfl]
    simp only [World.setCell, Array.getElem?_modify, if_true]
    cases W.heap[g]? with
    | none => rfl
    | some o => cases o <;> rfl
  · rw [if_neg h]
    exact heap_setCell_other W ⟨b, i, none⟩ g v (by simpa using h)
def BegG (w : World) (dbox ro : Obj) (rn : Nat → Nat → Obj) (po : Nat → Obj) (R F RB PB : Nat) (W : World) : Prop :=
  W.heap[w.heap.size]? = some dbox ∧ W.heap[R]? = some ro ∧ W.heap[F]? = some ro ∧ W.heap[RB]? = some (rn R F) ∧ W.heap[PB]? = some (po RB) ∧ W.heap.size = w.heap.size + 5 ∧
    w.heap.size < R ∧ w.heap.size < F ∧ w.heap.size < RB ∧ w.heap.size < PB ∧ R ≠ F ∧ R ≠ RB ∧ R ≠ PB ∧ F ≠ RB ∧ F ≠ PB ∧ RB ≠ PB ∧ Below w.heap.size w W
end Go.Um
namespace Go.Proofs.YthfcbbdghggefaaGreat
open Go.RowKit Go.Um Go.Proofs Go.Shelf
attribute [local go_sem] Oper.semAt_some
theorem rows_start {w : World} {G n : Nat} {ts te : TypeId} {srcs : List Int} (base : Nat) (h : w.heap[G]? = some (.cells (madeCells #[.slice none 0 0] n) ts)) : OwnRows w G base te ts n (fun s : Nat => idxF srcs 0 (s : Int)) := by
  refine ⟨List.replicate n (.slice none 0 0), by simp, ?_, fun s v hv => ?_, fun s s' v v' g _ hv _ hg => ?_⟩
  · rw [h, ← toList_madeCells_one]
  · obtain ⟨_, rfl⟩ := List.mem_replicate.1 (List.mem_of_getElem? hv)
    exact World.ownsRow_nil _ _ _ _
  · obtain ⟨_, rfl⟩ := List.mem_replicate.1 (List.mem_of_getElem? hv)
    cases hg
theorem rows_rel {w : World} {G base : Nat} {ts : TypeId} {n : Nat} {f : Nat → List Int} {S : Nat → Prop} (h : OwnRows w G base 3 ts n f) (hz : ∀ s, s < n → ∀ z ∈ f s, I64 z) (hn : n ≤ maxLen) (hG : S G) (hS : ∀ g, base ≤ g → g < w.heap.size → S g) :
    (listR (listR intR)).rel w S [.slice (some ⟨G, 0, none⟩) n n] ((List.range n).map f) := by
  obtain ⟨vals, h1, h2, h3, _⟩ := h
  refine ⟨_, _, _, rfl, by simp, Nat.le_refl _, hn, .inr ⟨G, 0, rfl, hG, fun i l hl => ?_⟩⟩
  rw [List.getElem?_map] at hl
  obtain ⟨j, hj, rfl⟩ := Option.map_eq_some_iff.1 hl
  have hjn := (List.getElem?_eq_some_iff.1 hj).1
  simp only [List.length_range] at hjn
  rw [List.getElem?_range hjn] at hj
  injection hj with hj
  subst hj
  obtain ⟨v, hv⟩ : ∃ v, vals[i]? = some v := ⟨_, List.getElem?_eq_getElem (by omega)⟩
  have ho := h3 i v hv
  refine ⟨[v], ints_in ho (hz i hjn) (fun g hg => hS g (ho.lt g hg).1 (ho.lt g hg).2), fun q u hq => ?_⟩
  cases q with
  | succ q => simp at hq
  | zero =>
    simp at hq
    subst hq
    have hw : (listR intR).width = 1 := rfl
    rw [hw, Nat.mul_one, Nat.zero_add, Nat.add_zero, cell_of_row _ _ _ _ _ _ h2]
    simpa using hv
theorem SoF.len {d : Desc} {n : Nat} {L : Nat → Bool} {ord : List Int} (h : SoF d n L ord) : ord.length ≤ n := by
  have hsub : ∀ t ∈ ord, t ∈ (List.range n).map (fun i : Nat => (i : Int)) := fun t' ht' => by
    obtain ⟨k', e1, e2, _⟩ := h.mem t' ht'
    exact List.mem_map.2 ⟨k', List.mem_range.2 e2, e1.symm⟩
  have := h.od.nd.length_le_of_subset hsub
  rwa [List.length_map, List.length_range] at this
theorem infoB : (Tryz.prog.info? 4).map (fun i => (i.zero, i.size, i.bytes)) = some (some (.bool false), 1, 1) := by kernel_rfl
def RunIs (w : World) (RB LV : Nat) (d : Desc) (x : List Int) (n : Nat) (ord : List Int) : Prop :=
  ∃ vr vf vx R F vo, w.heap[RB]? = some (runObj d.inn d.out n d.start vr vf vx (.slice (some ⟨R, 0, none⟩) n n) (.slice (some ⟨F, 0, none⟩) n n) vo (.slice (some ⟨LV, 0, none⟩) ((x.length + 1) * n) ((x.length + 1) * n))) ∧
    (listR ruleR).rel w (upto w.heap.size) [vr] d.rules ∧ (listR finalR).rel w (upto w.heap.size) [vf] d.finals ∧ wordR.rel w (upto w.heap.size) [vx] x ∧
    (listR (listR intR)).rel w (upto w.heap.size) [.slice (some ⟨R, 0, none⟩) n n] ((List.range n).map fun s : Nat => rulesOf d (s : Int)) ∧ (listR (listR intR)).rel w (upto w.heap.size) [.slice (some ⟨F, 0, none⟩) n n] ((List.range n).map fun s : Nat => finalsOf d (s : Int)) ∧
    (listR intR).rel w (upto w.heap.size) [vo] ord ∧ w.rowIs LV 4 ((x.length + 1) * n) (fun i => .bool (liveF d x n ord (x.length + 1) i))
def BegPost (d : Desc) (x : List Int) (n : Nat) (w : World) (e : Ending) (w' : World) : Prop :=
  ∃ RB LV ord, e = .returned (.pointer (some ⟨RB, 0, none⟩)) ∧ w.heap.size ≤ RB ∧ w.heap.size ≤ LV ∧ RunIs w' RB LV d x n ord ∧ Ord d ord ∧ (∀ s : Nat, s < n → (s : Int) ∈ ord) ∧ (∀ t ∈ ord, ∃ k : Nat, t = k ∧ k < n) ∧ Below w.heap.size w w'
theorem atMu_eq {x B : Nat} {z : Int} {a : Act} {w : World} (h : a.tmps.getD 12 undef = .pointer (some ⟨B, 0, none⟩)) (hc : w.cell? ⟨B, 0, none⟩ = some (.int .i64 z)) : atMu x a w = (x - z).toNat := by
  unfold atMu
  rw [h]
  dsimp only
  rw [hc]
theorem round_keeps {W W' : World} {LV B : Nat} (h : KeptBut W.heap.size (fun g => g = LV) W W') (hL : LV < B) : KeepsFrom B W W' := ⟨h.size, fun k o hk ho _ => (h.block k (heapLtW ho) (by omega)).trans ho⟩
theorem refine_row {w : World} {b n : Nat} {t : TypeId} {f g : Nat → Bool} (h : ∀ p, f p = g p) (hr : w.rowIs b t n (fun p => .bool (g p))) : w.rowIs b t n (fun p => .bool (f p)) := by
  rwa [show f = g from funext h]
def ruleHit (d : Desc) (x : List Int) (n j : Nat) (z : Int) (p : Nat) : Bool := match d.rules[z.toNat]? with
  | some r => fitsB x r.guards j && decide (p = (j + r.eat.toNat) * n + r.dst.toNat)
  | none => false
theorem hits_edge {d : Desc} {x : List Int} {n j s p : Nat} (hs : s < n) : ((rulesOf d s).any fun z => ruleHit d x n j z p) = edgeB d x n (j * n + s) p := by
  rw [Bool.eq_iff_iff, edgeB_iff hs, List.any_eq_true]
  constructor
  · rintro ⟨z, hz, h⟩
    obtain ⟨q, r, rfl, hq, hr⟩ := rulesOf_mem.1 hz
    unfold ruleHit at h
    rw [Int.toNat_natCast, hq] at h
    simp only [Bool.and_eq_true, decide_eq_true_eq, fitsB_iff] at h
    exact ⟨r, List.mem_of_getElem? hq, hr, h.1, h.2⟩
  · rintro ⟨r, hr, h1, h2, h3⟩
    obtain ⟨q, hq⟩ := List.mem_iff_getElem?.1 hr
    refine ⟨q, rulesOf_mem.2 ⟨q, r, rfl, hq, h1⟩, ?_⟩
    unfold ruleHit
    rw [Int.toNat_natCast, hq]
    simp only [Bool.and_eq_true, decide_eq_true_eq, fitsB_iff]
    exact ⟨h2, h3⟩
theorem anyL_three {P : Program} {md : Region.Mode} {ops : Array Oper} {Q : Exit → Act → World → Prop} {S : World → Prop} {last i j k f : Nat} {oi oj ok : Oper} {listed : Array Bool} {a : Act} {w : World} (hr : Region.ready md ops listed = [i, j, k]) (hi : ops[i]? = some oi) (hj : ops[j]? = some oj) (hk : ops[k]? = some ok)
    (hgi : oi.guard = none) (hgj : oj.guard = none) (hgk : ok.guard = none)
    (h1 : ∀ K : Act → World → Prop, Hid (∀ a' w', (i ≠ last → S w') → anyL P md ops Q S last f (listed.setIfInBounds i true) a' w' → K a' w') → oi.wp P a w K Q)
    (h2 : ∀ K : Act → World → Prop, Hid (∀ a' w', (j ≠ last → S w') → anyL P md ops Q S last f (listed.setIfInBounds j true) a' w' → K a' w') → oj.wp P a w K Q)
    (h3 : ∀ K : Act → World → Prop, Hid (∀ a' w', (k ≠ last → S w') → anyL P md ops Q S last f (listed.setIfInBounds k true) a' w' → K a' w') → ok.wp P a w K Q) : anyL P md ops Q S last (f + 1) listed a w := by
  refine ⟨fun h0 => (by rw [hr] at h0; cases h0), fun q hq => ?_⟩
  rw [hr] at hq
  simp only [List.mem_cons, List.not_mem_nil, or_false] at hq
  unfold wpOp
  rcases hq with rfl | rfl | rfl
  · simp only [hi]
    rw [if_pos (by simp [Region.wanted, hgi])]
    exact .inl (h1 _ (fun a' w' q1 q2 => ⟨q1, q2⟩))
  · simp only [hj]
    rw [if_pos (by simp [Region.wanted, hgj])]
    exact .inl (h2 _ (fun a' w' q1 q2 => ⟨q1, q2⟩))
  · simp only [hk]
    rw [if_pos (by simp [Region.wanted, hgk])]
    exact .inl (h3 _ (fun a' w' q1 q2 => ⟨q1, q2⟩))
set_option maxHeartbeats 4000000 in
set_option maxRecDepth 100000 in
theorem begin_calls (d : Desc) (x : List Int) (n : Nat) (v u : Value) (vx : Value) (w : World) (hv : (listR ruleR).rel w (upto w.heap.size) [v] d.rules) (hu : (listR finalR).rel w (upto w.heap.size) [u] d.finals) (hx : wordR.rel w (upto w.heap.size) [vx] x) (hok : RuleOk d n) (hn1 : n ≤ 1024) (hl1 : d.rules.length ≤ 4096) (hl2 : d.finals.length ≤ 4096) (hxl : x.length ≤ 1024)
    (ρ : Int → Nat) (hρ : ∀ r ∈ d.rules, r.guards = [] → ρ r.dst < ρ r.src) :
    Calls Tryz.prog 48 #[.agg #[.int .i64 d.inn, .int .i64 d.out, .int .i64 d.states, .int .i64 d.start, v, u], vx] w (BegPost d x n w) := by
  obtain ⟨A1, c1, rfl, hc1, hm1⟩ := list_form hv
  obtain ⟨A2, c2, rfl, hc2, hm2⟩ := list_form hu
  obtain ⟨A3, c3, rfl, hc3, hm3⟩ := list_form hx
  unfold maxLen at hm1 hm2 hm3
  obtain ⟨inf, hi0, hz0, hz1, hz2⟩ := info_parts infoSI
  obtain ⟨inf3, hi3, hy0, hy1, hy2⟩ := info_parts infoI
  have hmk : ∀ W : World, (Instr.makeSlice 86 (.int .i64 n) (.int .i64 n)).run Tryz.prog W = .ok (.slice (some ⟨W.heap.size, 0, none⟩) n n) (W.alloc (.cells (madeCells (Value.slice none 0 0).cells (n * inf.size)) 73)) :=
    fun W => make_rowN (P := Tryz.prog) 86 73 inf (.slice none 0 0) Tryz.underlying86 hi0 hz0 .i64 .i64 n n (Nat.le_refl _) (by rw [hz2]; omega) (by omega) W
  rw [hz1, Nat.mul_one] at hmk
  obtain ⟨st, hst⟩ : ∃ st : Nat, d.start = st := ⟨d.start.toNat, by have := hok.start; omega⟩
  have hstn : st < n := by have := hok.start; omega
  obtain ⟨infb, hb0, hbz, hb1, hb2⟩ := info_parts infoB
  rw [hok.st, hst]
  have HOK := hid hok
  have HRHO := hid hρ
  have HST := hid hst
  have HSRC1 : Hid (∀ r ∈ d.rules, 0 ≤ r.src ∧ r.src < n) := hid fun r hr => (hok.rule r hr).1
  have HSRC2 : Hid (∀ r ∈ d.finals, 0 ≤ r.src ∧ r.src < n) := hid fun r hr => (hok.final r hr).1
  clear hok hρ
  refine callsIn_wide.1 (callsIn_of_wp_marks (n := 3) Tryz.func48 rfl trivial (wpIn_wide.2 ?_) rfl)
  simp only [Tryz.ntmps48, List.size_toArray, List.length_cons, List.length_nil, Nat.reduceAdd, Nat.reduceSub, Array.replicate_succ, Array.replicate_zero, List.push_toArray, List.append_toArray, List.nil_append, List.cons_append]
  have HV := hid hv
  have HU := hid hu
  have HX := hid hx
  clear hv hu hx
  go_wp2_with fail
  rename_i K hKr
  have hcont : ∀ (R F RB PB : Nat) (W : World), BegG w (.cells #[.int .i64 d.inn, .int .i64 d.out, .int .i64 n, .int .i64 st, .slice A1 d.rules.length c1, .slice A2 d.finals.length c2] 27) (.cells (madeCells #[.slice none 0 0] n) 73) (fun R F => (runObj d.inn d.out n st (.slice A1 d.rules.length c1) (.slice A2 d.finals.length c2) (.slice A3 x.length c3) (.slice (some ⟨R, 0, none⟩) n n) (.slice (some ⟨F, 0, none⟩) n n) (.slice none 0 0) (.slice none 0 0))) (fun RB => (.cells #[.pointer (some ⟨RB, 0, none⟩)] 83)) R F RB PB W → K ⟨#[.agg #[.int .i64 d.inn, .int .i64 d.out, .int .i64 n, .int .i64 st, .slice A1 d.rules.length c1, .slice A2 d.finals.length c2], .slice A3 x.length c3, .pointer (some ⟨w.heap.size, 0, none⟩), undef, .pointer none, .pointer (some ⟨PB, 0, none⟩), undef, undef, undef, undef, undef, undef, undef, undef, undef, undef, undef, undef, .agg #[.int .i64 d.inn, .int .i64 d.out, .int .i64 n, .int .i64 st, .slice A1 d.rules.length c1, .slice A2 d.finals.length c2], .slice A3 x.length c3, .pointer (some ⟨w.heap.size, 2, none⟩), .int .i64 n, .slice (some ⟨R, 0, none⟩) n n, .pointer (some ⟨w.heap.size, 2, none⟩), .int .i64 n, .slice (some ⟨F, 0, none⟩) n n, .agg #[.int .i64 d.inn, .int .i64 d.out, .int .i64 n, .int .i64 st, .slice A1 d.rules.length c1, .slice A2 d.finals.length c2, .slice A3 x.length c3, .slice (some ⟨R, 0, none⟩) n n, .slice (some ⟨F, 0, none⟩) n n, .slice none 0 0, .slice none 0 0], .pointer (some ⟨RB, 0, none⟩), undef, undef, undef, undef, undef, undef, undef, undef, undef, undef, undef, undef, undef, undef, undef, undef, undef, undef, undef, undef, undef, undef, undef, undef, undef, undef, undef, undef, undef, undef, undef, undef, undef, undef, undef, undef, undef, undef, undef, undef, undef, undef, undef, undef, undef, undef, undef, undef, undef, undef, undef, undef, undef, undef, undef, undef, undef, undef, undef, undef, undef, undef, undef, undef, undef, undef, undef, undef, undef, undef, undef, undef, undef, undef, undef, undef, undef, undef, undef, undef, undef, undef, undef, undef, undef, undef, undef, undef, undef, undef, undef, undef, undef, undef, undef, undef, undef, undef, undef, undef, undef, undef, undef, undef, undef, undef, undef, undef, undef, undef, undef, undef, undef, undef, undef, undef, undef, undef, undef, undef, undef, undef, undef, undef, undef, undef, undef, undef, undef, undef, undef, undef, undef, undef, undef, undef, undef, undef, undef, undef, undef, undef, undef, undef, undef, undef, undef, undef, undef, undef], []⟩ W := by
    intro R F RB PB W hG
    obtain ⟨G1, G2, G3, G4, G5, G6, G7, G8, G9, G10, G11, G12, G13, G14, G15, G16, G17⟩ := hG
    obtain ⟨H1, hH1⟩ : ∃ H1, H1 = W.heap.size := ⟨_, rfl⟩
    have HR0 := hid (rows_start (te := 3) (srcs := d.rules.map (·.src)) H1 G2)
    have GP1 := hid G5
    have GR1 := hid G4
    have HV1 : Hid (∀ wr, KeptBut H1 (fun g => g = R) W wr → (listR ruleR).rel wr (upto w.heap.size) [.slice A1 d.rules.length c1] d.rules) := hid fun wr h => (listR ruleR).mono (below_cells (G17.trans (h.below (by omega) (fun g hg => by omega)))) (fun _ h => h) HV.out
    have hRl : R < H1 := by rw [hH1]; exact heapLtW G2
    have hFl : F < H1 := by rw [hH1]; exact heapLtW G3
    have hRBl : RB < H1 := by rw [hH1]; exact heapLtW G4
    have hPBl : PB < H1 := by rw [hH1]; exact heapLtW G5
    have gd4 : W.cell? ⟨w.heap.size, 4, none⟩ = some (.slice A1 d.rules.length c1) := cell_of_row _ _ 4 _ _ _ G1
    have gd5 : W.cell? ⟨w.heap.size, 5, none⟩ = some (.slice A2 d.finals.length c2) := cell_of_row _ _ 5 _ _ _ G1
    go_wp2_with fail
    go_loopw [31] (fun vi wr => ∃ k : Nat, k ≤ d.rules.length ∧ vi = .int .i64 k ∧ OwnRows wr R H1 3 73 n (fun s : Nat => idxF (d.rules.map (·.src)) k (s : Int)) ∧ KeptBut H1 (fun g => g = R) W wr) (fun vi _ => d.rules.length - (intOf vi).toNat)
    case atStart => exact ⟨0, Nat.zero_le _, rfl, HR0.out, KeptBut.refl _ _ _⟩
    case round =>
      obtain ⟨k, hk, rfl, hR, hKB⟩ := hrel
      obtain ⟨wo, hwo⟩ : ∃ wo, wo = wr := ⟨_, rfl⟩
      subst hwo
      by_cases hlt : k < d.rules.length
      · obtain ⟨⟨sx, dx, gx, ex, ox⟩, hx⟩ := at_lt hlt
        obtain ⟨hs0, hs1⟩ := HSRC1.out _ (List.mem_of_getElem? hx)
        dsimp only at hs0 hs1
        obtain ⟨s, rfl⟩ : ∃ s : Nat, sx = s := ⟨sx.toNat, by omega⟩
        have hsn : s < n := by omega
        have hlt' : (k : Int) < d.rules.length := by omega
        have HSK : Hid ((d.rules.map (·.src))[k]? = some (s : Int)) := hid (by rw [List.getElem?_map, hx]; rfl)
        obtain ⟨b, o, y, z, rfl, hb, q1, q2, q3, q4, q5, q6, hy, hz⟩ := rule_at (HV1.out wo hKB) hx
        obtain ⟨A5, c5, rfl, _, _⟩ := list_form hy
        obtain ⟨A6, c6, rfl, _, _⟩ := list_form hz
        have hbs : b < wo.heap.size := by have := hKB.size; have := hb; omega
        obtain ⟨vs, e1, e2, ho, hback⟩ := hR.at hsn
        obtain ⟨A9, c9, rfl⟩ := own_shape ho
        have p1o := hKB.block PB (by omega) (by omega)
        have p2o := hKB.block RB (by omega) (by omega)
        have hsz := hKB.size
        obtain ⟨rs, hrs⟩ : ∃ rs, rs = idxF (d.rules.map (·.src)) k (s : Int) := ⟨_, rfl⟩
        have hrl : rs.length ≤ 4096 := by rw [hrs]; have := idxF_len (d.rules.map (·.src)) k (s : Int); omega
        have HRS := hid hrs
        rw [← hrs] at ho hback e1
        have HO := hid ho
        have HOA := hid (ho.alloc (.cells #[.int .i64 s, .int .i64 dx, .slice A5 gx.length c5, .int .i64 ex, .slice A6 ox.length c6] 46))
        have HBK := hid hback
        have HKP := hid hKB
        have HLO : Hid (∀ g, (Value.slice A9 rs.length c9).ownBlock = some g → H1 ≤ g ∧ g < wo.heap.size) := hid fun g hg => ho.lt g hg
        have HGA : Hid (wo.grownBy (wo.alloc (.cells #[.int .i64 s, .int .i64 dx, .slice A5 gx.length c5, .int .i64 ex, .slice A6 ox.length c6] 46)) (Value.slice A9 rs.length c9).ownBlock) := hid (World.grownBy_alloc wo _ _)
        have p1 : (wo.alloc (.cells #[.int .i64 s, .int .i64 dx, .slice A5 gx.length c5, .int .i64 ex, .slice A6 ox.length c6] 46)).cell? ⟨PB, 0, none⟩ = some (.pointer (some ⟨RB, 0, none⟩)) := cell_of_row _ _ 0 _ _ _ ((Below.heap_alloc _ _ _ (by omega)).trans (p1o.trans GP1.out))
        have p2 : (wo.alloc (.cells #[.int .i64 s, .int .i64 dx, .slice A5 gx.length c5, .int .i64 ex, .slice A6 ox.length c6] 46)).cell? ⟨RB, 7, none⟩ = some (.slice (some ⟨R, 0, none⟩) n n) := cell_of_row _ _ 7 _ _ _ ((Below.heap_alloc _ _ _ (by omega)).trans (p2o.trans GR1.out))
        have p3 : (wo.alloc (.cells #[.int .i64 s, .int .i64 dx, .slice A5 gx.length c5, .int .i64 ex, .slice A6 ox.length c6] 46)).cell? ⟨wo.heap.size, 0, none⟩ = some (.int .i64 s) := cell_of_row _ _ 0 _ _ _ (heap_alloc_new wo _)
        have hsA : (wo.alloc (.cells #[.int .i64 s, .int .i64 dx, .slice A5 gx.length c5, .int .i64 ex, .slice A6 ox.length c6] 46)).heap.size = wo.heap.size + 1 := by simp
        have e1a : (wo.alloc (.cells #[.int .i64 s, .int .i64 dx, .slice A5 gx.length c5, .int .i64 ex, .slice A6 ox.length c6] 46)).cell? ⟨R, s, none⟩ = some (.slice A9 rs.length c9) := (World.cell?_of_block (a := ⟨R, s, none⟩) (Below.heap_alloc _ _ _ (by show R < _; omega))).trans e1
        have e1c : ∀ o, ((wo.alloc (.cells #[.int .i64 s, .int .i64 dx, .slice A5 gx.length c5, .int .i64 ex, .slice A6 ox.length c6] 46)).alloc o).cell? ⟨R, s, none⟩ = some (.slice A9 rs.length c9) := fun o => (World.cell?_of_block (a := ⟨R, s, none⟩) (Below.heap_alloc _ _ _ (by show R < _; simp; omega))).trans e1a
        clear hR hKB hx hy hz q6 ho hback hrs p1o p2o hlt
        dsimp only at q1 q2 q3 q4 q5
        go_wp2_with fail
        generalize wo.alloc (.cells #[.int .i64 s, .int .i64 dx, .slice A5 gx.length c5, .int .i64 ex, .slice A6 ox.length c6] 46) = wa at *
        refine Code.wp_mono (Q := Exit.then _ (fun _ _ _ => False)) (fun e a w h => by cases e <;> first | exact h | exact h.elim) ?_
        obtain ⟨ι, Wc, ⟨i0, hi0'⟩, hWc, Wsur⟩ := held_class wa.drew (fun q => q = PB ∨ q = RB ∨ q = wo.heap.size)
        have hne : Nonempty ι := ⟨i0⟩
        have WS := hid Wsur; clear Wsur
        have HWc := hid hWc; clear hWc
        have Hi0 := hid hi0'; clear hi0'
        have g1 : ∀ i, (Wc i).cell? ⟨PB, 0, none⟩ = some (.pointer (some ⟨RB, 0, none⟩)) := fun i => (World.cell?_of_block (a := ⟨PB, 0, none⟩) (HWc.out i _ (.inl rfl))).trans p1
        have g2 : ∀ i, (Wc i).cell? ⟨RB, 7, none⟩ = some (.slice (some ⟨R, 0, none⟩) n n) := fun i => (World.cell?_of_block (a := ⟨RB, 7, none⟩) (HWc.out i _ (.inr (.inl rfl)))).trans p2
        have g3 : ∀ i, (Wc i).cell? ⟨wo.heap.size, 0, none⟩ = some (.int .i64 s) := fun i => (World.cell?_of_block (a := ⟨wo.heap.size, 0, none⟩) (HWc.out i _ (.inr (.inr rfl)))).trans p3
        refine region_anyL (S := fun w' => ∃ i, w' = Wc i) (last := 19) (by kernel_rfl) ?_
        refine anyL_seg 0 13 (by kernel_rfl) (fun _ _ _ _ _ h => h) ⟨i0, Hi0.out.symm⟩ (f := 6) rfl (by kernel_rfl) (by kernel_rfl) ?_
        simp only [List.drop_zero, List.take_succ_cons, List.take_zero]
        repeat go_big_quiet_step (fail)
        refine wpQuiet_nil ?_
        refine anyL_seg 14 1 (by kernel_rfl) (fun _ _ _ _ _ h => h) ⟨i0, Hi0.out.symm⟩ (f := 5) rfl (by kernel_rfl) (by kernel_rfl) ?_
        simp only [List.drop_succ_cons, List.drop_zero, List.take_succ_cons, List.take_zero]
        repeat go_big_quiet_step (fail)
        refine wpQuiet_nil ?_
        refine anyL_two (i := 13) (j := 15) (by kernel_rfl) rfl rfl rfl rfl ?_ ?_
        · intro K hK
          go_wp2_with fail
          refine hK.out _ _ (fun _ => ⟨i0, Hi0.out.symm⟩) ?_
          clear hK K
          refine anyL_act (i := 15) (by kernel_rfl) rfl rfl ?_
          intro K hK
          go_wp2_with fail
          refine hK.out _ _ (fun _ => (WS.out _ (fun q hq => Below.heap_alloc _ _ _ (by rcases hq with rfl | rfl | rfl <;> omega)))) ?_
          clear hK K
          refine anyL_act (i := 16) (by kernel_rfl) rfl rfl ?_
          intro K hK
          have hoa := HOA.out.alloc (.cells #[.int .i64 k] 3)
          refine act_append_at _ _ 73 rfl H1 3 inf3 (.int .i64 0) 1 8 Tryz.underlying73 hi3 hy0 hy1 hy2 rfl (by decide) (.slice A9 rs.length c9) _ _ rfl (ownsRow_drew hoa) ⟨wo.heap.size + 1, 0, none⟩ 1 1 [.int .i64 k] rfl rfl (news_at (w := wa) (cs := #[_]) hsA.symm) (by simp [Value.oneCell']) (by unfold maxLen; omega) (by omega) (by simp; omega) ?_
          intro v' w1 hown' hgrow hnil hloc
          have HBK1 : Hid (∀ g, (g = PB ∨ g = RB ∨ g = wo.heap.size) → w1.heap[g]? = wa.drew.heap[g]?) := hid (fun g hg => by
            have hg2 : some g ≠ (Value.slice A9 rs.length c9).ownBlock := fun e => by
              have := HO.out.lt g e.symm
              have := HLO.out g e.symm
              rcases hg with rfl | rfl | rfl <;> omega
            rw [hgrow.block g (by rcases hg with rfl | rfl | rfl <;> (simp <;> omega)) hg2]
            exact Below.heap_alloc _ _ _ (by rcases hg with rfl | rfl | rfl <;> omega))
          have hS2 : ∃ i, w1 = Wc i := WS.out _ HBK1.out
          obtain ⟨A8, c8, rfl⟩ := ownInt_form hown'
          have hdr : (wa.alloc (.cells #[.int .i64 k] 3)).grownBy (wa.alloc (.cells #[.int .i64 k] 3)).drew (Value.slice A9 rs.length c9).ownBlock := ⟨rfl, rfl, rfl, Nat.le_refl _, fun _ _ _ => rfl⟩
          have hgr : wo.grownBy w1 (Value.slice A9 rs.length c9).ownBlock := ((HGA.out.trans (World.grownBy_alloc wa (.cells #[.int .i64 k] 3) _)).trans hdr).trans hgrow
          have hnw := HBK.out w1 _ k hgr hown' (hloc.imp id fun e => ⟨_, e, by simp; omega⟩) (by omega)
          have hkp : KeptBut H1 (fun g => g = R) W (w1.setCell ⟨R, s, none⟩ (.slice A8 (rs.length + 1) c8)) := (HKP.out.grown hgr (by omega) (fun g e => .inl (HO.out.lt g e).1)).setCell (q := ⟨R, s, none⟩) rfl _
          have hfun : (fun r : Nat => if r = s then rs ++ [(k : Int)] else idxF (d.rules.map (·.src)) k (r : Int)) = fun r : Nat => idxF (d.rules.map (·.src)) (k + 1) (r : Int) := by
            funext r
            rw [idxF_succ HSK.out]
            by_cases hrs : r = s
            · subst hrs; rw [if_pos rfl, if_pos rfl, HRS.out]
            · rw [if_neg hrs, if_neg (by omega)]
          have hRl : R < w1.heap.size := by have := hgr.size; omega
          have e1b : w1.cell? ⟨R, s, none⟩ = some (.slice A9 rs.length c9) := (World.cell?_of_block (a := ⟨R, s, none⟩) (hgr.block R (by omega) (fun e => by have := (HO.out.lt _ e.symm).1; omega))).trans e1
          have e2b : w1.frozen? ⟨R, s, none⟩ = false := (World.frozen?_of_block (a := ⟨R, s, none⟩) (hgr.block R (by omega) (fun e => by have := (HO.out.lt _ e.symm).1; omega))).trans e2
          rw [hfun] at hnw
          have HNW := hid hnw
          have HKN := hid hkp
          clear hnw hkp hfun hown' hgrow hloc hnil hgr hoa hdr
          refine hK.out _ _ (fun _ => hS2) ?_
          clear hK K
          clear g1 g2 g3
          refine anyL_act (i := 17) (by kernel_rfl) rfl rfl ?_
          intro K hK
          go_wp2_with fail
          refine hK.out _ _ (fun _ => hS2) ?_
          clear hK K
          refine anyL_act (i := 18) (by kernel_rfl) rfl rfl ?_
          intro K hK
          go_wp2_with fail
          refine hK.out _ _ (fun _ => WS.out _ (fun g hg => (heap_setCell_other _ _ _ _ (by show g ≠ R; rcases hg with rfl | rfl | rfl <;> omega)).trans (HBK1.out g hg))) ?_
          clear hK K
          refine anyL_done (by kernel_rfl) ?_ 0
          go_wp2_with fail
          refine ⟨⟨k + 1, by omega, by go_num, HNW.out, HKN.out⟩, ?_⟩
          simp [intOf]; omega
        · intro K hK
          go_wp2_with fail
          refine hK.out _ _ (fun _ => (WS.out _ (fun q hq => Below.heap_alloc _ _ _ (by rcases hq with rfl | rfl | rfl <;> omega)))) ?_
          clear hK K
          refine anyL_act (i := 13) (by kernel_rfl) rfl rfl ?_
          intro K hK
          go_wp2_with fail
          refine hK.out _ _ (fun _ => (WS.out _ (fun q hq => Below.heap_alloc _ _ _ (by rcases hq with rfl | rfl | rfl <;> omega)))) ?_
          clear hK K
          refine anyL_act (i := 16) (by kernel_rfl) rfl rfl ?_
          intro K hK
          have hoa := HOA.out.alloc (.cells #[.int .i64 k] 3)
          refine act_append_at _ _ 73 rfl H1 3 inf3 (.int .i64 0) 1 8 Tryz.underlying73 hi3 hy0 hy1 hy2 rfl (by decide) (.slice A9 rs.length c9) _ _ rfl (ownsRow_drew hoa) ⟨wo.heap.size + 1, 0, none⟩ 1 1 [.int .i64 k] rfl rfl (news_at (w := wa) (cs := #[_]) hsA.symm) (by simp [Value.oneCell']) (by unfold maxLen; omega) (by omega) (by simp; omega) ?_
          intro v' w1 hown' hgrow hnil hloc
          have HBK1 : Hid (∀ g, (g = PB ∨ g = RB ∨ g = wo.heap.size) → w1.heap[g]? = wa.drew.heap[g]?) := hid (fun g hg => by
            have hg2 : some g ≠ (Value.slice A9 rs.length c9).ownBlock := fun e => by
              have := HO.out.lt g e.symm
              have := HLO.out g e.symm
              rcases hg with rfl | rfl | rfl <;> omega
            rw [hgrow.block g (by rcases hg with rfl | rfl | rfl <;> (simp <;> omega)) hg2]
            exact Below.heap_alloc _ _ _ (by rcases hg with rfl | rfl | rfl <;> omega))
          have hS2 : ∃ i, w1 = Wc i := WS.out _ HBK1.out
          obtain ⟨A8, c8, rfl⟩ := ownInt_form hown'
          have hdr : (wa.alloc (.cells #[.int .i64 k] 3)).grownBy (wa.alloc (.cells #[.int .i64 k] 3)).drew (Value.slice A9 rs.length c9).ownBlock := ⟨rfl, rfl, rfl, Nat.le_refl _, fun _ _ _ => rfl⟩
          have hgr : wo.grownBy w1 (Value.slice A9 rs.length c9).ownBlock := ((HGA.out.trans (World.grownBy_alloc wa (.cells #[.int .i64 k] 3) _)).trans hdr).trans hgrow
          have hnw := HBK.out w1 _ k hgr hown' (hloc.imp id fun e => ⟨_, e, by simp; omega⟩) (by omega)
          have hkp : KeptBut H1 (fun g => g = R) W (w1.setCell ⟨R, s, none⟩ (.slice A8 (rs.length + 1) c8)) := (HKP.out.grown hgr (by omega) (fun g e => .inl (HO.out.lt g e).1)).setCell (q := ⟨R, s, none⟩) rfl _
          have hfun : (fun r : Nat => if r = s then rs ++ [(k : Int)] else idxF (d.rules.map (·.src)) k (r : Int)) = fun r : Nat => idxF (d.rules.map (·.src)) (k + 1) (r : Int) := by
            funext r
            rw [idxF_succ HSK.out]
            by_cases hrs : r = s
            · subst hrs; rw [if_pos rfl, if_pos rfl, HRS.out]
            · rw [if_neg hrs, if_neg (by omega)]
          have hRl : R < w1.heap.size := by have := hgr.size; omega
          have e1b : w1.cell? ⟨R, s, none⟩ = some (.slice A9 rs.length c9) := (World.cell?_of_block (a := ⟨R, s, none⟩) (hgr.block R (by omega) (fun e => by have := (HO.out.lt _ e.symm).1; omega))).trans e1
          have e2b : w1.frozen? ⟨R, s, none⟩ = false := (World.frozen?_of_block (a := ⟨R, s, none⟩) (hgr.block R (by omega) (fun e => by have := (HO.out.lt _ e.symm).1; omega))).trans e2
          rw [hfun] at hnw
          have HNW := hid hnw
          have HKN := hid hkp
          clear hnw hkp hfun hown' hgrow hloc hnil hgr hoa hdr
          refine hK.out _ _ (fun _ => hS2) ?_
          clear hK K
          clear g1 g2 g3
          refine anyL_act (i := 17) (by kernel_rfl) rfl rfl ?_
          intro K hK
          go_wp2_with fail
          refine hK.out _ _ (fun _ => hS2) ?_
          clear hK K
          refine anyL_act (i := 18) (by kernel_rfl) rfl rfl ?_
          intro K hK
          go_wp2_with fail
          refine hK.out _ _ (fun _ => WS.out _ (fun g hg => (heap_setCell_other _ _ _ _ (by show g ≠ R; rcases hg with rfl | rfl | rfl <;> omega)).trans (HBK1.out g hg))) ?_
          clear hK K
          refine anyL_done (by kernel_rfl) ?_ 0
          go_wp2_with fail
          refine ⟨⟨k + 1, by omega, by go_num, HNW.out, HKN.out⟩, ?_⟩
          simp [intOf]; omega
      · obtain rfl : k = d.rules.length := by omega
        have hlt' : ¬ ((d.rules.length : Int) < d.rules.length) := by omega
        clear hlt
        obtain ⟨W2, hW2⟩ : ∃ W2, W2 = wo := ⟨_, rfl⟩
        obtain ⟨H2, hH2⟩ : ∃ H2, H2 = W2.heap.size := ⟨_, rfl⟩
        have k1 := hKB.size
        have j1 := (hKB.block w.heap.size (by omega) (by omega)).trans G1
        rw [← hW2] at j1
        have j3 := (hKB.block F hFl (by omega)).trans G3
        rw [← hW2] at j3
        have j4 := (hKB.block RB hRBl (by omega)).trans G4
        rw [← hW2] at j4
        have j5 := (hKB.block PB hPBl (by omega)).trans G5
        rw [← hW2] at j5
        rw [← hW2] at hR hKB k1
        have HRR := hid hR
        have HKW := hid hKB
        have HR0' := hid (rows_start (te := 3) (srcs := d.finals.map (·.src)) H2 j3)
        have GP2 := hid j5
        have GR2 := hid j4
        have GD2 := hid j1
        have HU2 : Hid (∀ wr, KeptBut H2 (fun g => g = F) W2 wr → (listR finalR).rel wr (upto w.heap.size) [.slice A2 d.finals.length c2] d.finals) := hid fun wr h => (listR finalR).mono (below_cells ((G17.trans (hKB.below (by omega) (fun g hg => by omega))).trans (h.below (by rw [hH2]; omega) (fun g hg => by omega)))) (fun _ h => h) HU.out
        have hH12 : H1 ≤ H2 := by rw [hH2]; omega
        have hF2 : F < H2 := by rw [hH2]; exact heapLtW j3
        have hRB2 : RB < H2 := by rw [hH2]; exact heapLtW j4
        have hPB2 : PB < H2 := by rw [hH2]; exact heapLtW j5
        have gd4' : W2.cell? ⟨w.heap.size, 4, none⟩ = some (.slice A1 d.rules.length c1) := cell_of_row _ _ 4 _ _ _ j1
        have gd5' : wo.cell? ⟨w.heap.size, 5, none⟩ = some (.slice A2 d.finals.length c2) := by rw [← hW2]; exact cell_of_row _ _ 5 _ _ _ j1
        clear hR hKB gd4 gd5 HR0 j1 j3 j4 j5 G1 G2 G3 G4 G5 k1
        go_wp2_with fail
        rw [← hW2]
        go_loopw [58] (fun vi wr => ∃ k : Nat, k ≤ d.finals.length ∧ vi = .int .i64 k ∧ OwnRows wr F H2 3 73 n (fun s : Nat => idxF (d.finals.map (·.src)) k (s : Int)) ∧ KeptBut H2 (fun g => g = F) W2 wr) (fun vi _ => d.finals.length - (intOf vi).toNat)
        case atStart => exact ⟨0, Nat.zero_le _, rfl, HR0'.out, KeptBut.refl _ _ _⟩
        case round =>
          obtain ⟨k, hk, rfl, hR, hKB⟩ := hrel
          obtain ⟨wo, hwo⟩ : ∃ wo, wo = wr := ⟨_, rfl⟩
          subst hwo
          by_cases hlt : k < d.finals.length
          · obtain ⟨⟨sx, gx, ox⟩, hx⟩ := at_lt hlt
            obtain ⟨hs0, hs1⟩ := HSRC2.out _ (List.mem_of_getElem? hx)
            dsimp only at hs0 hs1
            obtain ⟨s, rfl⟩ : ∃ s : Nat, sx = s := ⟨sx.toNat, by omega⟩
            have hsn : s < n := by omega
            have hlt' : (k : Int) < d.finals.length := by omega
            have HSK : Hid ((d.finals.map (·.src))[k]? = some (s : Int)) := hid (by rw [List.getElem?_map, hx]; rfl)
            obtain ⟨b, o, y, z, rfl, hb, q1, q2, q3, q6, hy, hz⟩ := final_at (HU2.out wo hKB) hx
            obtain ⟨A5, c5, rfl, _, _⟩ := list_form hy
            obtain ⟨A6, c6, rfl, _, _⟩ := list_form hz
            have hbs : b < wo.heap.size := by have := hKB.size; have := hb; omega
            obtain ⟨vs, e1, e2, ho, hback⟩ := hR.at hsn
            obtain ⟨A9, c9, rfl⟩ := own_shape ho
            have p1o := hKB.block PB (by omega) (by omega)
            have p2o := hKB.block RB (by omega) (by omega)
            have hsz := hKB.size
            obtain ⟨rs, hrs⟩ : ∃ rs, rs = idxF (d.finals.map (·.src)) k (s : Int) := ⟨_, rfl⟩
            have hrl : rs.length ≤ 4096 := by rw [hrs]; have := idxF_len (d.finals.map (·.src)) k (s : Int); omega
            have HRS := hid hrs
            rw [← hrs] at ho hback e1
            have HO := hid ho
            have HOA := hid (ho.alloc (.cells #[.int .i64 s, .slice A5 gx.length c5, .slice A6 ox.length c6] 49))
            have HBK := hid hback
            have HKP := hid hKB
            have HLO : Hid (∀ g, (Value.slice A9 rs.length c9).ownBlock = some g → H2 ≤ g ∧ g < wo.heap.size) := hid fun g hg => ho.lt g hg
            have HGA : Hid (wo.grownBy (wo.alloc (.cells #[.int .i64 s, .slice A5 gx.length c5, .slice A6 ox.length c6] 49)) (Value.slice A9 rs.length c9).ownBlock) := hid (World.grownBy_alloc wo _ _)
            have p1 : (wo.alloc (.cells #[.int .i64 s, .slice A5 gx.length c5, .slice A6 ox.length c6] 49)).cell? ⟨PB, 0, none⟩ = some (.pointer (some ⟨RB, 0, none⟩)) := cell_of_row _ _ 0 _ _ _ ((Below.heap_alloc _ _ _ (by omega)).trans (p1o.trans GP2.out))
            have p2 : (wo.alloc (.cells #[.int .i64 s, .slice A5 gx.length c5, .slice A6 ox.length c6] 49)).cell? ⟨RB, 8, none⟩ = some (.slice (some ⟨F, 0, none⟩) n n) := cell_of_row _ _ 8 _ _ _ ((Below.heap_alloc _ _ _ (by omega)).trans (p2o.trans GR2.out))
            have p3 : (wo.alloc (.cells #[.int .i64 s, .slice A5 gx.length c5, .slice A6 ox.length c6] 49)).cell? ⟨wo.heap.size, 0, none⟩ = some (.int .i64 s) := cell_of_row _ _ 0 _ _ _ (heap_alloc_new wo _)
            have hsA : (wo.alloc (.cells #[.int .i64 s, .slice A5 gx.length c5, .slice A6 ox.length c6] 49)).heap.size = wo.heap.size + 1 := by simp
            have e1a : (wo.alloc (.cells #[.int .i64 s, .slice A5 gx.length c5, .slice A6 ox.length c6] 49)).cell? ⟨F, s, none⟩ = some (.slice A9 rs.length c9) := (World.cell?_of_block (a := ⟨F, s, none⟩) (Below.heap_alloc _ _ _ (by show F < _; omega))).trans e1
            have e1c : ∀ o, ((wo.alloc (.cells #[.int .i64 s, .slice A5 gx.length c5, .slice A6 ox.length c6] 49)).alloc o).cell? ⟨F, s, none⟩ = some (.slice A9 rs.length c9) := fun o => (World.cell?_of_block (a := ⟨F, s, none⟩) (Below.heap_alloc _ _ _ (by show F < _; simp; omega))).trans e1a
            clear hR hKB hx hy hz q6 ho hback hrs p1o p2o hlt
            dsimp only at q1 q2 q3 
            go_wp2_with fail
            generalize wo.alloc (.cells #[.int .i64 s, .slice A5 gx.length c5, .slice A6 ox.length c6] 49) = wa at *
            refine Code.wp_mono (Q := Exit.then _ (fun _ _ _ => False)) (fun e a w h => by cases e <;> first | exact h | exact h.elim) ?_
            obtain ⟨ι, Wc, ⟨i0, hi0'⟩, hWc, Wsur⟩ := held_class wa.drew (fun q => q = PB ∨ q = RB ∨ q = wo.heap.size)
            have hne : Nonempty ι := ⟨i0⟩
            have WS := hid Wsur; clear Wsur
            have HWc := hid hWc; clear hWc
            have Hi0 := hid hi0'; clear hi0'
            have g1 : ∀ i, (Wc i).cell? ⟨PB, 0, none⟩ = some (.pointer (some ⟨RB, 0, none⟩)) := fun i => (World.cell?_of_block (a := ⟨PB, 0, none⟩) (HWc.out i _ (.inl rfl))).trans p1
            have g2 : ∀ i, (Wc i).cell? ⟨RB, 8, none⟩ = some (.slice (some ⟨F, 0, none⟩) n n) := fun i => (World.cell?_of_block (a := ⟨RB, 8, none⟩) (HWc.out i _ (.inr (.inl rfl)))).trans p2
            have g3 : ∀ i, (Wc i).cell? ⟨wo.heap.size, 0, none⟩ = some (.int .i64 s) := fun i => (World.cell?_of_block (a := ⟨wo.heap.size, 0, none⟩) (HWc.out i _ (.inr (.inr rfl)))).trans p3
            refine region_anyL (S := fun w' => ∃ i, w' = Wc i) (last := 19) (by kernel_rfl) ?_
            refine anyL_seg 0 13 (by kernel_rfl) (fun _ _ _ _ _ h => h) ⟨i0, Hi0.out.symm⟩ (f := 6) rfl (by kernel_rfl) (by kernel_rfl) ?_
            simp only [List.drop_zero, List.take_succ_cons, List.take_zero]
            repeat go_big_quiet_step (fail)
            refine wpQuiet_nil ?_
            refine anyL_seg 14 1 (by kernel_rfl) (fun _ _ _ _ _ h => h) ⟨i0, Hi0.out.symm⟩ (f := 5) rfl (by kernel_rfl) (by kernel_rfl) ?_
            simp only [List.drop_succ_cons, List.drop_zero, List.take_succ_cons, List.take_zero]
            repeat go_big_quiet_step (fail)
            refine wpQuiet_nil ?_
            refine anyL_two (i := 13) (j := 15) (by kernel_rfl) rfl rfl rfl rfl ?_ ?_
            · intro K hK
              go_wp2_with fail
              refine hK.out _ _ (fun _ => ⟨i0, Hi0.out.symm⟩) ?_
              clear hK K
              refine anyL_act (i := 15) (by kernel_rfl) rfl rfl ?_
              intro K hK
              go_wp2_with fail
              refine hK.out _ _ (fun _ => (WS.out _ (fun q hq => Below.heap_alloc _ _ _ (by rcases hq with rfl | rfl | rfl <;> omega)))) ?_
              clear hK K
              refine anyL_act (i := 16) (by kernel_rfl) rfl rfl ?_
              intro K hK
              have hoa := HOA.out.alloc (.cells #[.int .i64 k] 3)
              refine act_append_at _ _ 73 rfl H2 3 inf3 (.int .i64 0) 1 8 Tryz.underlying73 hi3 hy0 hy1 hy2 rfl (by decide) (.slice A9 rs.length c9) _ _ rfl (ownsRow_drew hoa) ⟨wo.heap.size + 1, 0, none⟩ 1 1 [.int .i64 k] rfl rfl (news_at (w := wa) (cs := #[_]) hsA.symm) (by simp [Value.oneCell']) (by unfold maxLen; omega) (by omega) (by simp; omega) ?_
              intro v' w1 hown' hgrow hnil hloc
              have HBK1 : Hid (∀ g, (g = PB ∨ g = RB ∨ g = wo.heap.size) → w1.heap[g]? = wa.drew.heap[g]?) := hid (fun g hg => by
                have hg2 : some g ≠ (Value.slice A9 rs.length c9).ownBlock := fun e => by
                  have := HO.out.lt g e.symm
                  have := HLO.out g e.symm
                  rcases hg with rfl | rfl | rfl <;> omega
                rw [hgrow.block g (by rcases hg with rfl | rfl | rfl <;> (simp <;> omega)) hg2]
                exact Below.heap_alloc _ _ _ (by rcases hg with rfl | rfl | rfl <;> omega))
              have hS2 : ∃ i, w1 = Wc i := WS.out _ HBK1.out
              obtain ⟨A8, c8, rfl⟩ := ownInt_form hown'
              have hdr : (wa.alloc (.cells #[.int .i64 k] 3)).grownBy (wa.alloc (.cells #[.int .i64 k] 3)).drew (Value.slice A9 rs.length c9).ownBlock := ⟨rfl, rfl, rfl, Nat.le_refl _, fun _ _ _ => rfl⟩
              have hgr : wo.grownBy w1 (Value.slice A9 rs.length c9).ownBlock := ((HGA.out.trans (World.grownBy_alloc wa (.cells #[.int .i64 k] 3) _)).trans hdr).trans hgrow
              have hnw := HBK.out w1 _ k hgr hown' (hloc.imp id fun e => ⟨_, e, by simp; omega⟩) (by omega)
              have hkp : KeptBut H2 (fun g => g = F) W2 (w1.setCell ⟨F, s, none⟩ (.slice A8 (rs.length + 1) c8)) := (HKP.out.grown hgr (by omega) (fun g e => .inl (HO.out.lt g e).1)).setCell (q := ⟨F, s, none⟩) rfl _
              have hfun : (fun r : Nat => if r = s then rs ++ [(k : Int)] else idxF (d.finals.map (·.src)) k (r : Int)) = fun r : Nat => idxF (d.finals.map (·.src)) (k + 1) (r : Int) := by
                funext r
                rw [idxF_succ HSK.out]
                by_cases hrs : r = s
                · subst hrs; rw [if_pos rfl, if_pos rfl, HRS.out]
                · rw [if_neg hrs, if_neg (by omega)]
              have hRl : F < w1.heap.size := by have := hgr.size; omega
              have e1b : w1.cell? ⟨F, s, none⟩ = some (.slice A9 rs.length c9) := (World.cell?_of_block (a := ⟨F, s, none⟩) (hgr.block F (by omega) (fun e => by have := (HO.out.lt _ e.symm).1; omega))).trans e1
              have e2b : w1.frozen? ⟨F, s, none⟩ = false := (World.frozen?_of_block (a := ⟨F, s, none⟩) (hgr.block F (by omega) (fun e => by have := (HO.out.lt _ e.symm).1; omega))).trans e2
              rw [hfun] at hnw
              have HNW := hid hnw
              have HKN := hid hkp
              clear hnw hkp hfun hown' hgrow hloc hnil hgr hoa hdr
              refine hK.out _ _ (fun _ => hS2) ?_
              clear hK K
              clear g1 g2 g3
              refine anyL_act (i := 17) (by kernel_rfl) rfl rfl ?_
              intro K hK
              go_wp2_with fail
              refine hK.out _ _ (fun _ => hS2) ?_
              clear hK K
              refine anyL_act (i := 18) (by kernel_rfl) rfl rfl ?_
              intro K hK
              go_wp2_with fail
              refine hK.out _ _ (fun _ => WS.out _ (fun g hg => (heap_setCell_other _ _ _ _ (by show g ≠ F; rcases hg with rfl | rfl | rfl <;> omega)).trans (HBK1.out g hg))) ?_
              clear hK K
              refine anyL_done (by kernel_rfl) ?_ 0
              go_wp2_with fail
              refine ⟨⟨k + 1, by omega, by go_num, HNW.out, HKN.out⟩, ?_⟩
              simp [intOf]; omega
            · intro K hK
              go_wp2_with fail
              refine hK.out _ _ (fun _ => (WS.out _ (fun q hq => Below.heap_alloc _ _ _ (by rcases hq with rfl | rfl | rfl <;> omega)))) ?_
              clear hK K
              refine anyL_act (i := 13) (by kernel_rfl) rfl rfl ?_
              intro K hK
              go_wp2_with fail
              refine hK.out _ _ (fun _ => (WS.out _ (fun q hq => Below.heap_alloc _ _ _ (by rcases hq with rfl | rfl | rfl <;> omega)))) ?_
              clear hK K
              refine anyL_act (i := 16) (by kernel_rfl) rfl rfl ?_
              intro K hK
              have hoa := HOA.out.alloc (.cells #[.int .i64 k] 3)
              refine act_append_at _ _ 73 rfl H2 3 inf3 (.int .i64 0) 1 8 Tryz.underlying73 hi3 hy0 hy1 hy2 rfl (by decide) (.slice A9 rs.length c9) _ _ rfl (ownsRow_drew hoa) ⟨wo.heap.size + 1, 0, none⟩ 1 1 [.int .i64 k] rfl rfl (news_at (w := wa) (cs := #[_]) hsA.symm) (by simp [Value.oneCell']) (by unfold maxLen; omega) (by omega) (by simp; omega) ?_
              intro v' w1 hown' hgrow hnil hloc
              have HBK1 : Hid (∀ g, (g = PB ∨ g = RB ∨ g = wo.heap.size) → w1.heap[g]? = wa.drew.heap[g]?) := hid (fun g hg => by
                have hg2 : some g ≠ (Value.slice A9 rs.length c9).ownBlock := fun e => by
                  have := HO.out.lt g e.symm
                  have := HLO.out g e.symm
                  rcases hg with rfl | rfl | rfl <;> omega
                rw [hgrow.block g (by rcases hg with rfl | rfl | rfl <;> (simp <;> omega)) hg2]
                exact Below.heap_alloc _ _ _ (by rcases hg with rfl | rfl | rfl <;> omega))
              have hS2 : ∃ i, w1 = Wc i := WS.out _ HBK1.out
              obtain ⟨A8, c8, rfl⟩ := ownInt_form hown'
              have hdr : (wa.alloc (.cells #[.int .i64 k] 3)).grownBy (wa.alloc (.cells #[.int .i64 k] 3)).drew (Value.slice A9 rs.length c9).ownBlock := ⟨rfl, rfl, rfl, Nat.le_refl _, fun _ _ _ => rfl⟩
              have hgr : wo.grownBy w1 (Value.slice A9 rs.length c9).ownBlock := ((HGA.out.trans (World.grownBy_alloc wa (.cells #[.int .i64 k] 3) _)).trans hdr).trans hgrow
              have hnw := HBK.out w1 _ k hgr hown' (hloc.imp id fun e => ⟨_, e, by simp; omega⟩) (by omega)
              have hkp : KeptBut H2 (fun g => g = F) W2 (w1.setCell ⟨F, s, none⟩ (.slice A8 (rs.length + 1) c8)) := (HKP.out.grown hgr (by omega) (fun g e => .inl (HO.out.lt g e).1)).setCell (q := ⟨F, s, none⟩) rfl _
              have hfun : (fun r : Nat => if r = s then rs ++ [(k : Int)] else idxF (d.finals.map (·.src)) k (r : Int)) = fun r : Nat => idxF (d.finals.map (·.src)) (k + 1) (r : Int) := by
                funext r
                rw [idxF_succ HSK.out]
                by_cases hrs : r = s
                · subst hrs; rw [if_pos rfl, if_pos rfl, HRS.out]
                · rw [if_neg hrs, if_neg (by omega)]
              have hRl : F < w1.heap.size := by have := hgr.size; omega
              have e1b : w1.cell? ⟨F, s, none⟩ = some (.slice A9 rs.length c9) := (World.cell?_of_block (a := ⟨F, s, none⟩) (hgr.block F (by omega) (fun e => by have := (HO.out.lt _ e.symm).1; omega))).trans e1
              have e2b : w1.frozen? ⟨F, s, none⟩ = false := (World.frozen?_of_block (a := ⟨F, s, none⟩) (hgr.block F (by omega) (fun e => by have := (HO.out.lt _ e.symm).1; omega))).trans e2
              rw [hfun] at hnw
              have HNW := hid hnw
              have HKN := hid hkp
              clear hnw hkp hfun hown' hgrow hloc hnil hgr hoa hdr
              refine hK.out _ _ (fun _ => hS2) ?_
              clear hK K
              clear g1 g2 g3
              refine anyL_act (i := 17) (by kernel_rfl) rfl rfl ?_
              intro K hK
              go_wp2_with fail
              refine hK.out _ _ (fun _ => hS2) ?_
              clear hK K
              refine anyL_act (i := 18) (by kernel_rfl) rfl rfl ?_
              intro K hK
              go_wp2_with fail
              refine hK.out _ _ (fun _ => WS.out _ (fun g hg => (heap_setCell_other _ _ _ _ (by show g ≠ F; rcases hg with rfl | rfl | rfl <;> omega)).trans (HBK1.out g hg))) ?_
              clear hK K
              refine anyL_done (by kernel_rfl) ?_ 0
              go_wp2_with fail
              refine ⟨⟨k + 1, by omega, by go_num, HNW.out, HKN.out⟩, ?_⟩
              simp [intOf]; omega
          · obtain rfl : k = d.finals.length := by omega
            have hlt' : ¬ ((d.finals.length : Int) < d.finals.length) := by omega
            clear hlt
            have k2 := hKB.size
            obtain ⟨W3, hW3⟩ : ∃ W3, W3 = wo := ⟨_, rfl⟩
            have j1 := (hKB.block w.heap.size (by omega) (by omega)).trans GD2.out
            have j4 := (hKB.block RB hRB2 (by omega)).trans GR2.out
            have j5 := (hKB.block PB hPB2 (by omega)).trans GP2.out
            have hRR := HRR.out.carry (hKB.block R (by omega) (by omega)) (fun g hg hl => hKB.block g (by omega) (by omega))
            have hFF := hR
            have hB3 : Below w.heap.size w wo := (G17.trans (HKW.out.below (by omega) (fun g hg => by omega))).trans (hKB.below (by omega) (fun g hg => by omega))
            have hH23 : H2 ≤ wo.heap.size := by omega
            rw [← hW3] at j1 j4 j5 hRR hFF hB3 hH23
            have gd2 : wo.cell? ⟨w.heap.size, 2, none⟩ = some (.int .i64 n) := by rw [← hW3]; exact cell_of_row _ _ 2 _ _ _ j1
            have gd2a : ∀ o, (wo.alloc o).cell? ⟨w.heap.size, 2, none⟩ = some (.int .i64 n) := fun o => (World.cell?_of_block (a := ⟨w.heap.size, 2, none⟩) (Below.heap_alloc _ _ _ (by rw [← hW3]; exact heapLtW j1))).trans gd2
            have hmkB : ∀ W : World, (Instr.makeSlice 87 (.int .i64 n) (.int .i64 n)).run Tryz.prog W = .ok (.slice (some ⟨W.heap.size, 0, none⟩) n n) (W.alloc (.cells (madeCells #[.bool false] n) 4)) := fun W => run_make_row 87 4 infb _ Tryz.underlying87 hb0 hbz hb1 rfl .i64 .i64 n (by rw [hb2]; omega) (by omega) W
            have H3 := hid (And.intro j1 (And.intro j4 (And.intro j5 (And.intro hRR (And.intro hFF hB3)))))
            have hRB3 : RB < W3.heap.size := heapLtW j4
            have hPB3 : PB < W3.heap.size := heapLtW j5
            clear hR hKB gd4' gd5' HR0' HRR HKW GP2 GR2 GD2 k2 j1 j4 j5 hRR hFF hB3
            go_wp2_with fail
            rw [← hW3]
            clear hW3 gd2 gd2a
            obtain ⟨W4, hW4⟩ : ∃ W4, W4 = W3.alloc (.cells (madeCells #[.bool false] n) 4) := ⟨_, rfl⟩
            rw [← hW4]
            obtain ⟨DB, hDB⟩ : ∃ DB, DB = W3.heap.size := ⟨_, rfl⟩
            rw [← hDB]
            obtain ⟨B0, hB0⟩ : ∃ B0, B0 = W4.heap.size := ⟨_, rfl⟩
            have hs4 : W4.heap.size = W3.heap.size + 1 := by rw [hW4]; simp
            obtain ⟨j1, j4, j5, hRR, hFF, hB3⟩ := H3.out
            have hd4 : W4.rowIs DB 4 n (fun _ => .bool false) := by rw [hW4, hDB]; exact World.rowIs_made _ _ _ _
            have hB4 : Below w.heap.size w W4 := by rw [hW4]; exact hB3.alloc hB3.size _
            have l1 := (Below.heap_alloc W3 (.cells (madeCells #[.bool false] n) 4) _ (heapLtW j1)).trans j1
            rw [← hW4] at l1
            have l4 := (Below.heap_alloc W3 (.cells (madeCells #[.bool false] n) 4) _ (hRB3)).trans j4
            rw [← hW4] at l4
            have l5 := (Below.heap_alloc W3 (.cells (madeCells #[.bool false] n) 4) _ (hPB3)).trans j5
            rw [← hW4] at l5
            have lRR := hRR.carry (w' := W4) (by rw [hW4]; exact Below.heap_alloc _ _ _ (by omega)) (fun g _ hg => by rw [hW4]; exact Below.heap_alloc _ _ _ hg)
            have lFF := hFF.carry (w' := W4) (by rw [hW4]; exact Below.heap_alloc _ _ _ (by omega)) (fun g _ hg => by rw [hW4]; exact Below.heap_alloc _ _ _ hg)
            have HL := hid (And.intro l1 (And.intro l4 (And.intro l5 (And.intro lRR (And.intro lFF hB4)))))
            have hRB4 : RB < B0 := by omega
            have hPB4 : PB < B0 := by omega
            have hDB4 : DB < B0 := by omega
            have hRDB : RB ≠ DB := by omega
            have hPDB : PB ≠ DB := by omega
            have HRL : Hid ((listR (listR intR)).rel W4 (fun g => g < W3.heap.size ∧ g ≠ RB) [.slice (some ⟨R, 0, none⟩) n n] ((List.range n).map fun s : Nat => rulesOf d (s : Int))) := hid ((listR (listR intR)).mono (w := W3) (fun p hp => by rw [hW4]; exact World.cell?_of_block (Below.heap_alloc _ _ _ hp.1)) (fun g hg => hg) (rows_rel hRR (fun s _ z hz => by
              obtain ⟨j, e, hj, _⟩ := idxF_mem.1 hz
              rw [e]
              exact I64.of (by omega) (by omega)) (by unfold maxLen; omega) ⟨by omega, by omega⟩ (fun g h1 h2 => ⟨by omega, by omega⟩)))
            have HFL : Hid ((listR (listR intR)).rel W4 (fun g => g < W3.heap.size ∧ g ≠ RB) [.slice (some ⟨F, 0, none⟩) n n] ((List.range n).map fun s : Nat => finalsOf d (s : Int))) := hid ((listR (listR intR)).mono (w := W3) (fun p hp => by rw [hW4]; exact World.cell?_of_block (Below.heap_alloc _ _ _ hp.1)) (fun g hg => hg) (rows_rel hFF (fun s _ z hz => by
              obtain ⟨j, e, hj, _⟩ := idxF_mem.1 hz
              rw [e]
              exact I64.of (by omega) (by omega)) (by unfold maxLen; omega) ⟨by omega, by omega⟩ (fun g h1 h2 => ⟨by omega, by omega⟩)))
            have HSO := hid (rsort_calls d W4 B0 RB DB n d.inn d.out n st (.slice A1 d.rules.length c1) (.slice A2 d.finals.length c2) (.slice A3 x.length c3) (.slice (some ⟨R, 0, none⟩) n n) (.slice (some ⟨F, 0, none⟩) n n) hRB4 hDB4 hRDB (by omega) (fun g => g < B0 ∧ g ≠ RB ∧ g ≠ DB) (fun g hg => hg)
              ((listR ruleR).mono (below_cells hB4) (fun b hb => ⟨by have := hB4.size; have : b < w.heap.size := hb; omega, by have : b < w.heap.size := hb; omega, by have : b < w.heap.size := hb; have := hB3.size; omega⟩) HV.out)
              ((listR (listR intR)).mono (fun _ _ => rfl) (fun g hg => ⟨by have := hg.1; omega, hg.2, by have := hg.1; omega⟩) HRL.out) hl1 hn1 (fun r hr => (HOK.out.rule r hr).2.1) ρ HRHO.out)
            have HI0 : Hid (SoI W4 B0 RB DB n d.inn d.out n st (.slice A1 d.rules.length c1) (.slice A2 d.finals.length c2) (.slice A3 x.length c3) (.slice (some ⟨R, 0, none⟩) n n) (.slice (some ⟨F, 0, none⟩) n n) (fun _ => false) [] W4) := hid ⟨⟨.slice none 0 0, l4, World.ownsRow_nil _ _ _ _⟩, hd4, KeptBut.refl _ _ _⟩
            clear H3 j1 j4 j5 hRR hFF hB3 hd4 hB4 l1 l4 l5 lRR lFF hW4 hmkB
            have hDBa : DB ≤ W3.heap.size := by omega
            have hDBb : W3.heap.size ≤ DB := by omega
            have hs4a : W4.heap.size ≤ W3.heap.size + 1 := by omega
            have hs4b : W3.heap.size + 1 ≤ W4.heap.size := by omega
            have hB0a : B0 ≤ W4.heap.size := by omega
            have hB0b : W4.heap.size ≤ B0 := by omega
            clear hDB hs4 hB0
            go_loopw [87] (fun vi wr => ∃ (k : Nat) (L : Nat → Bool) (ord : List Int), k ≤ n ∧ vi = .int .i64 k ∧ SoI W4 B0 RB DB n d.inn d.out n st (.slice A1 d.rules.length c1) (.slice A2 d.finals.length c2) (.slice A3 x.length c3) (.slice (some ⟨R, 0, none⟩) n n) (.slice (some ⟨F, 0, none⟩) n n) L ord wr ∧ SoF d n L ord ∧ (∀ t, L t = true → (t : Int) ∈ ord) ∧ (∀ j : Nat, j < k → (j : Int) ∈ ord)) (fun vi _ => n - (intOf vi).toNat)
            case atStart => exact ⟨0, fun _ => false, [], Nat.zero_le _, rfl, HI0.out, ⟨⟨List.nodup_nil, fun k s t h => (by simp at h)⟩, fun t ht => (by cases ht)⟩, fun t ht => (by cases ht), fun j hj => (by omega)⟩
            case round =>
              obtain ⟨k, L, ord, hk, rfl, hI, hF, hLo, hord⟩ := hrel
              obtain ⟨wo, hwo⟩ : ∃ wo, wo = wr := ⟨_, rfl⟩
              subst hwo
              have p5 : wo.cell? ⟨PB, 0, none⟩ = some (.pointer (some ⟨RB, 0, none⟩)) := cell_of_row _ _ 0 _ _ _ ((hI.2.2.block PB hPB4 (by omega)).trans HL.out.2.2.1)
              by_cases hlt : k < n
              · have hlt' : (k : Int) < n := by omega
                have HC := hid (HSO.out (ρ k + 1) k hlt (by omega) L ord wo hI hF (by have := hF.len; omega) (fun t ht hl => .inl (hLo t hl)))
                have HNX : Hid (∀ w2, SoPost d W4 B0 RB DB n d.inn d.out n st (.slice A1 d.rules.length c1) (.slice A2 d.finals.length c2) (.slice A3 x.length c3) (.slice (some ⟨R, 0, none⟩) n n) (.slice (some ⟨F, 0, none⟩) n n) L ord k (.returned (.tuple #[])) w2 → ∃ (L : Nat → Bool) (ord : List Int), SoI W4 B0 RB DB n d.inn d.out n st (.slice A1 d.rules.length c1) (.slice A2 d.finals.length c2) (.slice A3 x.length c3) (.slice (some ⟨R, 0, none⟩) n n) (.slice (some ⟨F, 0, none⟩) n n) L ord w2 ∧ SoF d n L ord ∧ (∀ t, L t = true → (t : Int) ∈ ord) ∧ (∀ j : Nat, j < k + 1 → (j : Int) ∈ ord)) := hid fun w2 h => by
                  obtain ⟨_, L2, nw, e1, e2, e3, e4, e5⟩ := h
                  refine ⟨L2, ord ++ nw, e1, e2, fun t ht => ?_, fun j hj => ?_⟩
                  · rcases (e4 t).1 ht with h5 | h5
                    · exact List.mem_append_left _ (hLo t h5)
                    · exact List.mem_append_right _ h5
                  · by_cases e : j = k
                    · subst e; exact e5
                    · exact List.mem_append_left _ (hord j (by omega))
                clear hI hF hLo hord hlt
                go_wp2_with fail
                refine HC.out.mono ?_
                rintro e w2 h
                obtain rfl := h.1
                obtain ⟨L2, ord2, e1, e2, e3, e4⟩ := HNX.out w2 h
                have HE := hid (And.intro e1 (And.intro e2 (And.intro e3 e4)))
                clear h e1 e2 e3 e4
                go_wp2_with fail
                refine ⟨⟨k + 1, L2, ord2, by omega, by go_num, HE.out.1, HE.out.2.1, HE.out.2.2.1, HE.out.2.2.2⟩, ?_⟩
                simp [intOf]; omega
              · obtain rfl : k = n := by omega
                have hkn : ¬ ((k : Int) < k) := by omega
                obtain ⟨⟨vo, h1, h2⟩, h3, h4⟩ := hI
                obtain ⟨Ao, co, rfl⟩ := ownInt_form h2
                have q2 := (h4.block w.heap.size (by have := HL.out.2.2.2.2.2.size; omega) (by have := HL.out.2.2.2.2.2.size; omega)).trans HL.out.1
                have d2 : wo.cell? ⟨w.heap.size, 2, none⟩ = some (.int .i64 k) := cell_of_row _ _ 2 _ _ _ q2
                have d3 : wo.cell? ⟨w.heap.size, 3, none⟩ = some (.int .i64 st) := cell_of_row _ _ 3 _ _ _ q2
                obtain ⟨M, hM⟩ : ∃ M, M = (x.length + 1) * k := ⟨_, rfl⟩
                have hMi : ((x.length : Int) + 1) * (k : Int) = (M : Int) := by rw [hM]; push_cast; rfl
                have hMl : M ≤ 2000000 := by rw [hM]; exact Nat.le_trans (Nat.mul_le_mul (show x.length + 1 ≤ 1025 by omega) hn1) (by decide)
                have hMs : st < M := by
                  have : 1 * k ≤ M := by rw [hM]; exact Nat.mul_le_mul_right _ (by omega)
                  omega
                have HM := hid hM
                clear hM
                have hmkL : ∀ W : World, (Instr.makeSlice 87 (.int .i64 M) (.int .i64 M)).run Tryz.prog W = .ok (.slice (some ⟨W.heap.size, 0, none⟩) M M) (W.alloc (.cells (madeCells #[.bool false] M) 4)) := fun W => run_make_row 87 4 infb _ Tryz.underlying87 hb0 hbz hb1 rfl .i64 .i64 M (by rw [hb2]; omega) (by omega) W
                have f10 : ∀ o, (wo.alloc o).cell? ⟨RB, 10, none⟩ = some (.slice none 0 0) := fun o => (World.cell?_of_block (a := ⟨RB, 10, none⟩) (Below.heap_alloc _ _ _ (heapLtW h1))).trans (cell_of_row _ _ 10 _ _ _ h1)
                have g10 : ∀ o, (wo.alloc o).frozen? ⟨RB, 10, none⟩ = false := fun o => (World.frozen?_of_block (a := ⟨RB, 10, none⟩) (Below.heap_alloc _ _ _ (heapLtW h1))).trans (frozen_of_row _ _ _ _ _ h1)
                have hw4s := h4.size
                have hD0 := heapLtW q2
                have hRBw := heapLtW h1
                have HH := hid (And.intro h1 (And.intro h2 (And.intro h4 q2)))
                have HFo := hid hF
                have HOr := hid hord
                have hPBw : PB < wo.heap.size := by omega
                clear h1 h2 h3 h4 q2 hF hLo hord HI0 hlt
                go_wp2_with fail
                refine Code.wp_mono (Q := Exit.then _ (fun _ _ _ => False)) (fun e a w h => by cases e <;> first | exact h | exact h.elim) ?_
                obtain ⟨ι, Wc, ⟨i0, hi0'⟩, hWc, Wsur⟩ := held_class wo.drew (fun q => q = PB ∨ q = w.heap.size)
                have hne : Nonempty ι := ⟨i0⟩
                have WS := hid Wsur; clear Wsur
                have HWc := hid hWc; clear hWc
                have Hi0 := hid hi0'; clear hi0'
                have g1 : ∀ i, (Wc i).cell? ⟨PB, 0, none⟩ = some (.pointer (some ⟨RB, 0, none⟩)) := fun i => (World.cell?_of_block (a := ⟨PB, 0, none⟩) (HWc.out i _ (.inl rfl))).trans p5
                have g2 : ∀ i, (Wc i).cell? ⟨w.heap.size, 2, none⟩ = some (.int .i64 k) := fun i => (World.cell?_of_block (a := ⟨w.heap.size, 2, none⟩) (HWc.out i _ (.inr rfl))).trans d2
                refine region_anyL (S := fun w' => ∃ i, w' = Wc i) (last := 11) (by kernel_rfl) ?_
                refine anyL_seg 0 7 (by kernel_rfl) (fun _ _ _ _ _ h => h) ⟨i0, Hi0.out.symm⟩ (f := 4) rfl (by kernel_rfl) (by kernel_rfl) ?_
                simp only [List.drop_zero, List.take_succ_cons, List.take_zero]
                repeat go_big_quiet_step (fail)
                refine wpQuiet_nil ?_
                refine anyL_act (i := 7) (by kernel_rfl) rfl rfl ?_
                intro K hK
                go_wp2_with fail
                have hS9 : ∃ i, (wo.alloc (.cells (madeCells #[.bool false] M) 4)).drew = Wc i := WS.out _ (fun q hq => Below.heap_alloc wo (.cells (madeCells #[.bool false] M) 4) q (by rcases hq with rfl | rfl <;> omega))
                refine hK.out _ _ (fun _ => hS9) ?_
                clear hK K
                refine anyL_seg 8 2 (by kernel_rfl) (fun _ _ _ _ _ h => h) hS9 (f := 1) rfl (by kernel_rfl) (by kernel_rfl) ?_
                simp only [List.drop_succ_cons, List.drop_zero, List.take_succ_cons, List.take_zero]
                repeat go_big_quiet_step (fail)
                refine wpQuiet_nil ?_
                refine anyL_act (i := 10) (by kernel_rfl) rfl rfl ?_
                intro K hK
                go_wp2_with fail
                refine hK.out _ _ (fun _ => (WS.out _ (fun q hq => by simp only [heap_drew, setCell_get, alloc_get, World.size_setCell]; rw [if_neg (by rcases hq with rfl | rfl <;> omega), if_neg (by rcases hq with rfl | rfl <;> omega)]))) ?_
                clear hK K
                refine anyL_done (by kernel_rfl) ?_ 0
                clear g1 g2 hS9 WS HWc Hi0 hne i0 Wc ι f10 g10 hmkL
                obtain ⟨h1, h2, h4, q2⟩ := HH.out
                obtain ⟨LV, hLV⟩ : ∃ LV, LV = wo.heap.size := ⟨_, rfl⟩
                obtain ⟨W6, hW6⟩ : ∃ W6, W6 = ((wo.setCell ⟨RB, 10, none⟩ (.slice (some ⟨LV, 0, none⟩) M M)).alloc (.cells (madeCells #[.bool false] M) 4)).drew := ⟨_, rfl⟩
                rw [← hLV, ← hW6]
                have r1 : W6.heap[RB]? = some (runObj d.inn d.out k st (.slice A1 d.rules.length c1) (.slice A2 d.finals.length c2) (.slice A3 x.length c3) (.slice (some ⟨R, 0, none⟩) k k) (.slice (some ⟨F, 0, none⟩) k k) (.slice Ao ord.length co) (.slice (some ⟨LV, 0, none⟩) M M)) := by
                  rw [hW6, heap_drew, alloc_get, World.size_setCell, if_neg (by omega), setCell_get, if_pos rfl, h1]; rfl
                have r2 : W6.heap[w.heap.size]? = wo.heap[w.heap.size]? := by rw [hW6, heap_drew, alloc_get, World.size_setCell, if_neg (by omega), setCell_get, if_neg (by omega)]
                replace r2 := r2.trans q2
                have r3 : W6.heap[PB]? = wo.heap[PB]? := by rw [hW6, heap_drew, alloc_get, World.size_setCell, if_neg (by omega), setCell_get, if_neg (by omega)]
                replace r3 := r3.trans ((h4.block PB hPB4 (by omega)).trans HL.out.2.2.1)
                have r4 : W6.rowIs LV 4 M (fun _ => .bool false) := by
                  have := World.rowIs_made (wo.setCell ⟨RB, 10, none⟩ (.slice (some ⟨LV, 0, none⟩) M M)) (.bool false) M 4
                  rw [World.size_setCell, ← hLV] at this
                  rw [hW6]
                  exact this
                have pb := cell_of_row _ _ 0 _ _ _ r3
                have rl : W6.cell? ⟨RB, 10, none⟩ = some (.slice (some ⟨LV, 0, none⟩) M M) := cell_of_row _ _ 10 _ _ _ r1
                have dst := cell_of_row _ _ 3 _ _ _ r2
                have lc := r4.cell hMs
                have lf := r4.frozen st
                have hMst : (st : Int) < M := by omega
                have hLa : LV ≤ wo.heap.size := by omega
                have hLb : wo.heap.size ≤ LV := by omega
                have h6s : wo.heap.size + 1 ≤ W6.heap.size := by rw [hW6]; show _ ≤ (World.alloc _ _).heap.size; simp
                have hD6 := heapLtW r2
                have hR6 := heapLtW r1
                have hP6 := heapLtW r3
                have hK6 : KeptBut B0 (fun g => g = RB ∨ g = DB) W4 W6 := ⟨by rw [hW6]; exact h4.os, by rw [hW6]; exact h4.tape, by rw [hW6]; exact h4.output, by omega, fun g hg hp => by
                  rw [hW6, heap_drew, alloc_get, World.size_setCell, if_neg (by omega), setCell_get, if_neg (fun e => hp (.inl e))]
                  exact h4.block g hg hp⟩
                have o6 : W6.ownsRow B0 3 1 (.slice Ao ord.length co) ord.length (ord.map (Value.int .i64)) := ownsRow_kept h2 (fun g hg => by
                  have h9 := h2.lt g hg
                  rw [hW6, heap_drew, alloc_get, World.size_setCell, if_neg (by omega), setCell_get, if_neg (by omega)])
                have HOV : Hid (∀ g, (Value.slice Ao ord.length co).ownBlock = some g → B0 ≤ g ∧ g < LV) := hid fun g hg => ⟨(h2.lt g hg).1, by have := (h2.lt g hg).2; omega⟩
                have H6 := hid (And.intro r1 (And.intro r2 (And.intro r3 (And.intro r4 (And.intro hK6 o6)))))
                clear r1 r2 r3 r4 hK6 o6 h1 h2 h4 q2 hW6 hLV p5 d2 d3
                go_wp2_with fail
                refine Code.wp_mono (Q := Exit.then _ (fun _ _ _ => False)) (fun e a w h => by cases e <;> first | exact h | exact h.elim) ?_
                obtain ⟨ι, Wc, ⟨i0, hi0'⟩, hWc, Wsur⟩ := held_class W6.drew (fun q => q = PB ∨ q = RB ∨ q = w.heap.size)
                have hne : Nonempty ι := ⟨i0⟩
                have WS := hid Wsur; clear Wsur
                have HWc := hid hWc; clear hWc
                have Hi0 := hid hi0'; clear hi0'
                have g1 : ∀ i, (Wc i).cell? ⟨PB, 0, none⟩ = some (.pointer (some ⟨RB, 0, none⟩)) := fun i => (World.cell?_of_block (a := ⟨PB, 0, none⟩) (HWc.out i _ (.inl rfl))).trans pb
                have g2 : ∀ i, (Wc i).cell? ⟨RB, 10, none⟩ = some (.slice (some ⟨LV, 0, none⟩) M M) := fun i => (World.cell?_of_block (a := ⟨RB, 10, none⟩) (HWc.out i _ (.inr (.inl rfl)))).trans rl
                have g3 : ∀ i, (Wc i).cell? ⟨w.heap.size, 3, none⟩ = some (.int .i64 st) := fun i => (World.cell?_of_block (a := ⟨w.heap.size, 3, none⟩) (HWc.out i _ (.inr (.inr rfl)))).trans dst
                refine region_anyL (S := fun w' => ∃ i, w' = Wc i) (last := 8) (by kernel_rfl) ?_
                refine anyL_seg 0 6 (by kernel_rfl) (fun _ _ _ _ _ h => h) ⟨i0, Hi0.out.symm⟩ (f := 2) rfl (by kernel_rfl) (by kernel_rfl) ?_
                simp only [List.drop_zero, List.take_succ_cons, List.take_zero]
                repeat go_big_quiet_step (fail)
                refine wpQuiet_nil ?_
                refine anyL_act (i := 6) (by kernel_rfl) rfl rfl ?_
                intro K hK
                go_wp2_with fail
                refine hK.out _ _ (fun _ => ⟨i0, Hi0.out.symm⟩) ?_
                clear hK K
                refine anyL_act (i := 7) (by kernel_rfl) rfl rfl ?_
                intro K hK
                go_wp2_with fail
                refine hK.out _ _ (fun _ => (WS.out _ (fun q hq => by simp only [heap_drew, setCell_get]; rw [if_neg (by rcases hq with rfl | rfl | rfl <;> omega)]))) ?_
                clear hK K
                refine anyL_done (by kernel_rfl) ?_ 0
                clear g1 g2 g3 WS HWc Hi0 hne i0 Wc ι
                go_wp2_with fail
                obtain ⟨r1, r2, r3, r4, hK6, o6⟩ := H6.out
                obtain ⟨W8, hW8⟩ : ∃ W8, W8 = ((W6.setCell ⟨LV, st, none⟩ (.bool true)).alloc (.cells #[.int .i64 0] 3)).drew := ⟨_, rfl⟩
                rw [← hW8]
                have hLR : LV ≠ RB := by omega
                have t0 : ∀ g, g ≠ LV → g < W6.heap.size → W8.heap[g]? = W6.heap[g]? := fun g h1 h2 => by rw [hW8, heap_drew, alloc_get, World.size_setCell, if_neg (by omega), setCell_get, if_neg h1]
                have t1 := (t0 RB (by omega) hR6).trans r1
                have t2 := (t0 w.heap.size (by omega) hD6).trans r2
                have t3 := (t0 PB (by omega) hP6).trans r3
                have t8 : W8.heap.size = W6.heap.size + 1 := by rw [hW8]; show (World.alloc _ _).heap.size = _; simp
                obtain ⟨H8, hH8⟩ : ∃ H8, H8 = W8.heap.size := ⟨_, rfl⟩
                have hst0 : (Desc.start d).toNat = st := by rw [HST.out]; rfl
                have HM0 : Hid (MainI W8 H8 LV M W6.heap.size 0 (liveF d x k ord 0) [] W8) := hid ⟨KeptBut.refl _ _ _, by
                    have h9 : (W6.setCell ⟨LV, st, none⟩ (.bool true)).rowIs LV 4 M _ := r4.set st (.bool true)
                    have h7 : W8.rowIs LV 4 M _ := h9.of_block (w' := W8) (by rw [hW8, heap_drew, alloc_get, World.size_setCell, if_neg (by have := r4.lt; omega)])
                    refine cast (congrArg (World.rowIs _ _ _ _) ?_) h7
                    funext i
                    unfold liveF allP
                    simp only [List.range_zero, List.flatMap_nil, List.foldl_nil, hst0]
                    by_cases e : i = st <;> simp [e], (by rw [hW8, heap_drew, alloc_get, World.size_setCell, if_pos rfl]; rfl), ⟨List.Pairwise.nil, fun D hD => (by cases hD)⟩, .inl (by omega)⟩
                have hov : ∀ g, (Value.slice Ao ord.length co).ownBlock = some g → B0 ≤ g ∧ g < LV := HOV.out
                have HB8 : Hid (Below w.heap.size w W8) := hid (HL.out.2.2.2.2.2.trans (KeptBut.below (p := fun g => g = RB ∨ g = DB ∨ g = LV) (H := B0) ⟨by rw [hW8]; exact hK6.os, by rw [hW8]; exact hK6.tape, by rw [hW8]; exact hK6.output, by have := hK6.size; omega, fun g hg hp => (t0 g (fun e => hp (.inr (.inr e))) (by omega)).trans (hK6.block g hg (fun e => hp (e.elim .inl (fun e => .inr (.inl e)))))⟩ (by have := HL.out.2.2.2.2.2.size; omega) (fun g hg => by have := HL.out.2.2.2.2.2.size; omega)))
                have T1 := hid t1
                have T2 := hid t2
                have T3 := hid t3
                have T6 : Hid (KeptBut B0 (fun g => g = RB ∨ g = DB ∨ g = LV) W4 W8) := hid ⟨by rw [hW8]; exact hK6.os, by rw [hW8]; exact hK6.tape, by rw [hW8]; exact hK6.output, by have := hK6.size; omega, fun g hg hp => (t0 g (fun e => hp (.inr (.inr e))) (by omega)).trans (hK6.block g hg (fun e => hp (e.elim .inl (fun e => .inr (.inl e)))))⟩
                have o8 : W8.ownsRow B0 3 1 (.slice Ao ord.length co) ord.length (ord.map (Value.int .i64)) := ownsRow_kept o6 (fun g hg => t0 g (by have := hov g hg; omega) (by have := hov g hg; omega))
                have HO8 := hid o8
                have HOV8 := hid hov
                have h8a : H8 ≤ W6.heap.size + 1 := by omega
                have h8b : W6.heap.size + 1 ≤ H8 := by omega
                have h8c : H8 ≤ W8.heap.size := by omega
                have h8d : W8.heap.size ≤ H8 := by omega
                have hLV8 : LV < H8 := by have := r4.lt; omega
                have hRB8 : RB < H8 := by omega
                have hPB8 : PB < H8 := by omega
                have hD8 : w.heap.size < H8 := by omega
                clear r1 r2 r3 r4 hK6 o6 t0 t1 t2 t3 t8 hH8 hW8 o8 hov H6 hst0 pb rl dst lc lf
                refine wp_loop (fun a' w' => ∃ (AB j : Nat) (Ds : List Nat) (v112 v113 v114 v115 v116 v117 v118 v119 v120 v121 v122 v176 : Value), j ≤ x.length + 1 ∧ MainI W8 H8 LV M AB j (liveF d x k ord j) Ds w' ∧ a' = ⟨#[.agg #[.int .i64 d.inn, .int .i64 d.out, .int .i64 k, .int .i64 st, .slice A1 d.rules.length c1, .slice A2 d.finals.length c2], .slice A3 x.length c3, .pointer (some ⟨w.heap.size, 0, none⟩), undef, .pointer none, .pointer (some ⟨PB, 0, none⟩), u6, u7, u8, u9, .slice (some ⟨DB, 0, none⟩) k k, u11, .pointer (some ⟨AB, 0, none⟩), undef, undef, undef, undef, undef, .agg #[.int .i64 d.inn, .int .i64 d.out, .int .i64 k, .int .i64 st, .slice A1 d.rules.length c1, .slice A2 d.finals.length c2], .slice A3 x.length c3, .pointer (some ⟨w.heap.size, 2, none⟩), .int .i64 k, .slice (some ⟨R, 0, none⟩) k k, .pointer (some ⟨w.heap.size, 2, none⟩), .int .i64 k, .slice (some ⟨F, 0, none⟩) k k, .agg #[.int .i64 d.inn, .int .i64 d.out, .int .i64 k, .int .i64 st, .slice A1 d.rules.length c1, .slice A2 d.finals.length c2, .slice A3 x.length c3, .slice (some ⟨R, 0, none⟩) k k, .slice (some ⟨F, 0, none⟩) k k, .slice none 0 0, .slice none 0 0], .pointer (some ⟨RB, 0, none⟩), .pointer (some ⟨w.heap.size, 4, none⟩), .slice A1 d.rules.length c1, .int .i64 d.rules.length, .int .i64 d.rules.length, .bool false, u33, u34, u35, u36, u37, u38, u39, u40, u41, u42, u43, u44, u45, u46, u47, u48, u49, u50, u51, u52, u53, u54, .pointer (some ⟨w.heap.size, 5, none⟩), .slice A2 d.finals.length c2, .int .i64 d.finals.length, .int .i64 d.finals.length, .bool false, u60, u61, u62, u63, u64, u65, u66, u67, u68, u69, u70, u71, u72, u73, u74, u75, u76, u77, u78, u79, u80, u81, .pointer (some ⟨w.heap.size, 2, none⟩), .int .i64 k, .slice (some ⟨DB, 0, none⟩) k k, .pointer (some ⟨w.heap.size, 2, none⟩), .int .i64 k, .int .i64 k, .bool false, u89, u90, u91, u92, u93, u94, .pointer (some ⟨RB, 0, none⟩), .slice A3 x.length c3, .int .i64 x.length, .int .i64 (x.length + 1), .pointer (some ⟨w.heap.size, 2, none⟩), .int .i64 k, .int .i64 M, .slice (some ⟨LV, 0, none⟩) M M, .pointer (some ⟨RB, 0, none⟩), .pointer (some ⟨RB, 10, none⟩), .pointer (some ⟨RB, 0, none⟩), .pointer (some ⟨RB, 0, none⟩), .pointer (some ⟨RB, 10, none⟩), .slice (some ⟨LV, 0, none⟩) M M, .pointer (some ⟨w.heap.size, 3, none⟩), .int .i64 st, .pointer (some ⟨LV, st, none⟩), v112, v113, v114, v115, v116, v117, v118, v119, v120, v121, v122, undef, undef, undef, undef, undef, undef, undef, undef, undef, undef, undef, undef, undef, undef, undef, undef, undef, undef, undef, undef, undef, undef, undef, undef, undef, undef, undef, undef, undef, undef, undef, undef, undef, undef, undef, undef, undef, undef, undef, undef, undef, undef, undef, undef, undef, undef, undef, undef, undef, undef, undef, undef, undef, v176, undef], marks Ds⟩) (atMu (x.length + 1)) ?_ ?_
                · exact ⟨W6.heap.size, 0, [], undef, undef, undef, undef, undef, undef, undef, undef, undef, undef, undef, undef, by omega, HM0.out, rfl⟩
                · rintro a' wo ⟨AB, j, Ds, v112, v113, v114, v115, v116, v117, v118, v119, v120, v121, v122, v176, hj, hMI, rfl⟩
                  clear HM0
                  have hABw := heapLtW hMI.atb
                  have hABL : AB ≠ LV := by have := hMI.ab; omega
                  have zc1 := cell_of_row _ _ 0 _ _ _ hMI.atb
                  have kept : ∀ g, g < H8 → g ≠ LV → wo.heap[g]? = W8.heap[g]? := fun g h1 h2 => hMI.kept.block g h1 h2
                  have hwoS := hMI.kept.size
                  have zc2 : wo.cell? ⟨PB, 0, none⟩ = some (.pointer (some ⟨RB, 0, none⟩)) := cell_of_row _ _ 0 _ _ _ ((kept PB hPB8 (by omega)).trans T3.out)
                  have zc3 : wo.cell? ⟨RB, 9, none⟩ = some (.slice Ao ord.length co) := cell_of_row _ _ 9 _ _ _ ((kept RB hRB8 (by omega)).trans T1.out)
                  by_cases hjl : j ≤ x.length
                  · have hjl' : (j : Int) ≤ x.length := by omega
                    have HMI := hid hMI
                    have HKE := hid kept
                    clear hMI kept
                    go_wp2_with fail
                    refine (Backward_calls _ _ _ _).mono ?_
                    rintro e w1 ⟨rfl, rfl⟩
                    obtain ⟨Ws, hWs⟩ : ∃ Ws, Ws = wo.alloc (.cells #[.slice Ao ord.length co] 73) := ⟨_, rfl⟩
                    rw [← hWs]
                    have hss : Ws.heap.size = wo.heap.size + 1 := by rw [hWs]; simp
                    have hlow : ∀ g, g < wo.heap.size → Ws.heap[g]? = wo.heap[g]? := fun g hg => by rw [hWs]; exact Below.heap_alloc _ _ _ hg
                    have hBs : Ws.heap[wo.heap.size]? = some (.cells #[.slice Ao ord.length co] 73) := by rw [hWs]; exact heap_alloc_new _ _
                    have hoS : Ws.ownsRow B0 3 1 (.slice Ao ord.length co) ord.length (ord.map (Value.int .i64)) := ownsRow_kept HO8.out (fun g hg => by
                      have h9 := HOV8.out g hg
                      exact (hlow g (by omega)).trans (HKE.out g (by omega) (by omega)))
                    have hrel : (listR intR).rel Ws (fun g => g = wo.heap.size ∨ (Value.slice Ao ord.length co).ownBlock = some g) [.slice Ao ord.length co] ord := ints_in hoS (fun z hz => by
                      obtain ⟨q, rfl, hq, _⟩ := HFo.out.mem z hz
                      exact I64.of (by omega) (by omega)) (fun g hg => .inr hg)
                    have hSl : ∀ g, (g = wo.heap.size ∨ (Value.slice Ao ord.length co).ownBlock = some g) → g < Ws.heap.size ∧ g ≠ LV := fun g hg => by
                      rcases hg with rfl | hg
                      · omega
                      · have := HOV8.out g hg; omega
                    have hrow0 : Ws.rowIs LV 4 M (fun i => .bool (liveF d x k ord j i)) := HMI.out.row.of_block (hlow LV (by omega))
                    have cbs := cell_of_row _ _ 0 _ _ _ hBs
                    have HWK : Hid (KeptBut H8 (fun g => g = LV) wo Ws) := hid (by rw [hWs]; exact (KeptBut.refl _ _ _).alloc (by omega) _)
                    have HLW := hid hlow
                    have HSL := hid hSl
                    clear hlow hWs hoS hBs
                    go_wp2_with fail
                    refine range_back (Bs := wo.heap.size) (ord := ord) (v := .slice Ao ord.length co) (S := fun g => g = wo.heap.size ∨ (Value.slice Ao ord.length co).ownBlock = some g) rfl (by simp) cbs (.inl rfl) (fun g hg => (HSL.out g hg).1) hrel
                      (fun pre W => KeptBut Ws.heap.size (fun g => g = LV) Ws W ∧ W.rowIs LV 4 M (fun i => .bool ((pre.map fun p => j * k + p.1.2.toNat).foldl (stepE (edgeB d x k)) (liveF d x k ord j) i)))
                      (fun s A B row hs hg hr => ⟨hs.1.ofRound hg hs.1.size hr, hs.2.of_block (hg.block LV hs.2.lt (fun e => by have := (hr LV e.symm).1; omega))⟩)
                      ⟨KeptBut.refl _ _ _, hrow0⟩ ?body ?done
                    case body =>
                      rintro lp pre z W ⟨hKp, hRow⟩ hlt
                      obtain ⟨s, hz2, hsk, _⟩ := HFo.out.mem z.1.2 (List.mem_of_getElem? z.2)
                      obtain ⟨LL, hLL⟩ : ∃ LL, LL = (pre.map fun p => j * k + p.1.2.toNat).foldl (stepE (edgeB d x k)) (liveF d x k ord j) := ⟨_, rfl⟩
                      rw [← hLL] at hRow
                      obtain ⟨JK, hJK⟩ : ∃ JK, JK = j * k := ⟨_, rfl⟩
                      have hJKi : (j : Int) * (k : Int) = (JK : Int) := by rw [hJK]; push_cast; rfl
                      have hidx : JK + s < M := by
                        have h1 : (j + 1) * k ≤ (x.length + 1) * k := Nat.mul_le_mul_right _ (by omega)
                        rw [HM.out, hJK]
                        rw [Nat.add_mul] at h1
                        omega
                      have hidx' : (JK : Int) + s < M := by omega
                      have HSN : Hid ((pre ++ [z]).map (fun p => j * k + p.1.2.toNat) = pre.map (fun p => j * k + p.1.2.toNat) ++ [JK + s]) := hid (by rw [List.map_append, hJK, List.map_cons, List.map_nil, hz2, Int.toNat_natCast])
                      have HNEW : Hid (((pre ++ [z]).map (fun p => j * k + p.1.2.toNat)).foldl (stepE (edgeB d x k)) (liveF d x k ord j) = stepE (edgeB d x k) LL (JK + s)) := hid (by rw [HSN.out, List.foldl_append, ← hLL]; rfl)
                      have KW : ∀ g, g < H8 → g ≠ LV → W.heap[g]? = W8.heap[g]? := fun g h1 h2 => (hKp.block g (by omega) h2).trans ((HLW.out g (by omega)).trans (HKE.out g h1 h2))
                      have hsW := hKp.size
                      have e1 : W.cell? ⟨PB, 0, none⟩ = some (.pointer (some ⟨RB, 0, none⟩)) := cell_of_row _ _ 0 _ _ _ ((KW PB hPB8 (by omega)).trans T3.out)
                      have hRBW := (KW RB hRB8 (by omega)).trans T1.out
                      have e2 : W.cell? ⟨RB, 10, none⟩ = some (.slice (some ⟨LV, 0, none⟩) M M) := cell_of_row _ _ 10 _ _ _ hRBW
                      have hDW := (KW w.heap.size hD8 (by omega)).trans T2.out
                      have e3 : W.cell? ⟨w.heap.size, 2, none⟩ = some (.int .i64 k) := cell_of_row _ _ 2 _ _ _ hDW
                      have hABW := (hKp.block AB (by omega) hABL).trans ((HLW.out AB hABw).trans HMI.out.atb)
                      have e4 : W.cell? ⟨AB, 0, none⟩ = some (.int .i64 j) := cell_of_row _ _ 0 _ _ _ hABW
                      have e5 := hRow.cell hidx
                      have HRow := hid hRow
                      have HKp := hid hKp
                      have HKW := hid KW
                      have HLL := hid hLL
                      have HJ := hid hJK
                      have HABW := hid hABW
                      have HE := hid (And.intro e1 (And.intro e2 (And.intro e3 e4)))
                      obtain ⟨zi, hzi⟩ : ∃ zi, zi = z.1.1 := ⟨_, rfl⟩
                      rw [hz2, ← hzi]
                      clear hRow hKp KW hLL hJK hz2 hzi hRBW hDW hABW
                      simp only [List.setIfInBounds_toArray, List.set_cons_succ, List.set_cons_zero]
                      gi_wp2
                      refine Code.wpIn_mono (Q := Exit.then _ (fun _ _ _ => False)) (fun e a w h => by cases e <;> first | exact h | exact h.elim) ?_
                      obtain ⟨ι, Wc, ⟨i0, hi0'⟩, hWc, Wsur⟩ := held_class W.drew (fun q => q = PB ∨ q = RB ∨ q = w.heap.size ∨ q = AB ∨ q = LV)
                      have hne : Nonempty ι := ⟨i0⟩
                      have WS := hid Wsur; clear Wsur
                      have HWc := hid hWc; clear hWc
                      have Hi0 := hid hi0'; clear hi0'
                      have g0 : ∀ i, (Wc i).cell? ⟨PB, 0, none⟩ = some (.pointer (some ⟨RB, 0, none⟩)) := fun i => (World.cell?_of_block (a := ⟨PB, 0, none⟩) (HWc.out i _ (.inl rfl))).trans e1
                      have g1 : ∀ i, (Wc i).cell? ⟨RB, 10, none⟩ = some (.slice (some ⟨LV, 0, none⟩) M M) := fun i => (World.cell?_of_block (a := ⟨RB, 10, none⟩) (HWc.out i _ (.inr (.inl rfl)))).trans e2
                      have g2 : ∀ i, (Wc i).cell? ⟨w.heap.size, 2, none⟩ = some (.int .i64 k) := fun i => (World.cell?_of_block (a := ⟨w.heap.size, 2, none⟩) (HWc.out i _ (.inr (.inr (.inl rfl))))).trans e3
                      have g3 : ∀ i, (Wc i).cell? ⟨AB, 0, none⟩ = some (.int .i64 j) := fun i => (World.cell?_of_block (a := ⟨AB, 0, none⟩) (HWc.out i _ (.inr (.inr (.inr (.inl rfl)))))).trans e4
                      have g4 : ∀ i, (Wc i).cell? ⟨LV, JK + s, none⟩ = some (.bool (LL (JK + s))) := fun i => (World.cell?_of_block (a := ⟨LV, JK + s, none⟩) (HWc.out i _ (.inr (.inr (.inr (.inr rfl)))))).trans e5
                      refine region_round (S := fun w' => ∃ i, w' = Wc i) (last := 13) (fun ⟨_, _, h⟩ => h) (by kernel_rfl) (by kernel_rfl) ?_
                      refine anyL_seg 0 13 (by kernel_rfl) (fun _ _ _ _ _ h => h) ⟨i0, Hi0.out.symm⟩ (f := 0) rfl (by kernel_rfl) (by kernel_rfl) ?_
                      simp only [List.drop_zero, List.take_succ_cons, List.take_zero]
                      repeat go_big_quiet_step (fail)
                      refine wpQuiet_nil ?_
                      refine anyL_done (by kernel_rfl) ?_ 0
                      clear g0 g1 g2 g3 g4 WS HWc Hi0 hne i0 Wc ι
                      obtain ⟨Wd, hWd⟩ : ∃ Wd, Wd = W.drew := ⟨_, rfl⟩
                      rw [← hWd]
                      have HRowd : Hid (Wd.rowIs LV 4 M (fun i => .bool (LL i))) := hid (by rw [hWd]; exact HRow.out)
                      have HKpd : Hid (KeptBut Ws.heap.size (fun g => g = LV) Ws Wd) := hid (by rw [hWd]; exact HKp.out.drew)
                      have HKWd : Hid (∀ g, g < H8 → g ≠ LV → Wd.heap[g]? = W8.heap[g]?) := hid (by rw [hWd]; exact HKW.out)
                      have HKR : Hid (KeptBut W.heap.size (fun g => g = LV) W Wd) := hid (by rw [hWd]; exact (KeptBut.refl _ _ _).drew)
                      have hABd : Wd.heap[AB]? = some (.cells #[.int .i64 j] 3) := by rw [hWd]; exact HABW.out
                      have hsd : W.heap.size ≤ Wd.heap.size := HKR.out.size
                      clear e1 e2 e3 e4 e5 hWd HE
                      cases hb : LL (JK + s) with
                      | false =>
                        gi_wp2
                        refine ⟨round_keeps (LV := LV) HKR.out (by omega), fun g hg => HKR.out.block g (by have := (HSL.out g hg).1; omega) (HSL.out g hg).2, HKpd.out, ?_⟩
                        rw [HNEW.out]
                        refine cast (congrArg (World.rowIs _ _ _ _) ?_) HRowd.out
                        funext i
                        unfold stepE
                        rw [hb, Bool.false_and, Bool.or_false]
                      | true =>
                        have hyR := (listR (listR intR)).mono (w' := Wd) (S' := fun g => g < DB ∧ g ≠ RB) (fun p hp => World.cell?_of_block ((HKWd.out _ (by have := hp.1; omega) (by have := hp.1; omega)).trans (T6.out.block _ (by have := hp.1; omega) (fun e => by have h8 := hp.1; have h9 := hp.2; omega)))) (fun g hg => ⟨by have := hg.1; omega, hg.2⟩) HRL.out
                        obtain ⟨bR, oR, y, hA, hbR, hy, hcR⟩ := list_at1 (i := s) rfl hyR (by rw [List.getElem?_map, List.getElem?_range hsk]; rfl)
                        injection hA with hA
                        injection hA with hA1 hA2
                        subst hA1 hA2
                        rw [Nat.zero_add] at hcR
                        obtain ⟨A7, c7, rfl, _, hm7⟩ := list_form hy
                        unfold maxLen at hm7
                        have hrl : (rulesOf d s).length ≤ 4096 := Nat.le_trans (idxF_len _ _ _) hl1
                        have e1 : Wd.cell? ⟨PB, 0, none⟩ = some (.pointer (some ⟨RB, 0, none⟩)) := cell_of_row _ _ 0 _ _ _ ((HKWd.out PB hPB8 (by omega)).trans T3.out)
                        have e7 : Wd.cell? ⟨RB, 7, none⟩ = some (.slice (some ⟨R, 0, none⟩) k k) := cell_of_row _ _ 7 _ _ _ ((HKWd.out RB hRB8 (by omega)).trans T1.out)
                        have HY := hid hy
                        clear hyR hy
                        gi_wp2
                        clear e1 e7 hcR
                        gi_loopw [146] (fun vi wr => ∃ i : Nat, i ≤ (rulesOf d s).length ∧ vi = .int .i64 i ∧ KeptBut Wd.heap.size (fun g => g = LV) Wd wr ∧ wr.rowIs LV 4 M (fun p => .bool (LL p || ((rulesOf d s).take i).any (fun z => ruleHit d x k j z p)))) (fun vi _ => (rulesOf d s).length - (intOf vi).toNat)
                        case atStart => exact ⟨0, Nat.zero_le _, rfl, KeptBut.refl _ _ _, refine_row (fun p => by simp) HRowd.out⟩
                        case round =>
                          obtain ⟨i, hi, rfl, hKq, hRq⟩ := hrel
                          obtain ⟨wq, hwq⟩ : ∃ wq, wq = wr := ⟨_, rfl⟩
                          subst hwq
                          have hsq := hKq.size
                          have KQ : ∀ g, g < H8 → g ≠ LV → wq.heap[g]? = W8.heap[g]? := fun g h1 h2 => (hKq.block g (by omega) h2).trans (HKWd.out g h1 h2)
                          by_cases hil : i < (rulesOf d s).length
                          · have hil' : (i : Int) < (rulesOf d s).length := by omega
                            obtain ⟨zz, hzz⟩ := at_lt hil
                            obtain ⟨q, r, rfl, hq, hsrc⟩ := rulesOf_mem.1 (List.mem_of_getElem? hzz)
                            obtain ⟨b1, o1, y1, rfl, hb1, ⟨hy1, _⟩, hcy⟩ := list_at1 rfl ((listR intR).mono (w' := wq) (S' := fun g => g < DB ∧ g ≠ RB) (fun p hp => World.cell?_of_block (hKq.block _ (by have := hp.1; omega) (by have := hp.1; omega))) (fun _ h => h) HY.out) hzz
                            injection hy1 with hy1 _
                            subst hy1
                            have hBq : ∀ g, g < w.heap.size → wq.heap[g]? = w.heap[g]? := fun g hg => (KQ g (by omega) (by omega)).trans (HB8.out.block g hg)
                            obtain ⟨b2, o2, v2, u2, rfl, hb2, q1, q2, q3, q4, q5, q6, q7, q8⟩ := rule_at ((listR ruleR).mono (w' := wq) (S' := upto w.heap.size) (fun p hp => World.cell?_of_block (hBq _ hp)) (fun _ h => h) HV.out) hq
                            obtain ⟨A5, c5, rfl, _, _⟩ := list_form q7
                            obtain ⟨A6, c6, rfl, _, _⟩ := list_form q8
                            have hql : (q : Int) < d.rules.length := by have := (List.getElem?_eq_some_iff.1 hq).1; omega
                            have hrok := HOK.out.rule r (List.mem_of_getElem? hq)
                            obtain ⟨t, ht⟩ : ∃ t : Nat, r.dst = t := ⟨r.dst.toNat, by omega⟩
                            obtain ⟨ee, hee⟩ : ∃ ee : Nat, r.eat = ee := ⟨r.eat.toNat, by omega⟩
                            have htk : t < k := by omega
                            have heg : ee ≤ r.guards.length := by omega
                            rw [hsrc] at q1
                            rw [ht] at q2
                            rw [hee] at q4
                            obtain ⟨wb, hwb⟩ : ∃ wb, wb = wq.alloc (.cells #[.int .i64 s, .int .i64 t, .slice A5 r.guards.length c5, .int .i64 ee, .slice A6 r.out.length c6] 46) := ⟨_, rfl⟩
                            have hsb : wb.heap.size = wq.heap.size + 1 := by rw [hwb]; simp
                            have hlb : ∀ g, g < wq.heap.size → wb.heap[g]? = wq.heap[g]? := fun g hg => by rw [hwb]; exact Below.heap_alloc _ _ _ hg
                            have hbx : wb.heap[wq.heap.size]? = some (.cells #[.int .i64 s, .int .i64 t, .slice A5 r.guards.length c5, .int .i64 ee, .slice A6 r.out.length c6] 46) := by rw [hwb]; exact heap_alloc_new _ _
                            have KB : ∀ g, g < H8 → g ≠ LV → wb.heap[g]? = W8.heap[g]? := fun g h1 h2 => (hlb g (by omega)).trans (KQ g h1 h2)
                            have hBb : ∀ g, g < w.heap.size → wb.heap[g]? = w.heap[g]? := fun g hg => (hlb g (by omega)).trans (hBq g hg)
                            have hABb : wb.heap[AB]? = some (.cells #[.int .i64 j] 3) := (hlb AB (by omega)).trans ((hKq.block AB (by omega) hABL).trans hABd)
                            have HFI := hid (rfits_calls RB (.slice A3 x.length c3) (.slice A5 r.guards.length c5) x r.guards j wb (cell_of_row _ _ 6 _ _ _ ((KB RB hRB8 (by omega)).trans T1.out)) (wordR.mono (fun p hp => World.cell?_of_block (hBb _ hp)) (fun b hb => by have : b < w.heap.size := hb; show b < _; omega) HX.out)
                              ((listR spansR).mono (fun p hp => World.cell?_of_block (hlb _ (by have : p.block < w.heap.size := hp; omega))) (fun b hb => by have : b < w.heap.size := hb; show b < _; omega) q7) hjl)
                            have hHit : ∀ p, ruleHit d x k j (q : Int) p = (fitsB x r.guards j && decide (p = (j + ee) * k + t)) := fun p => by
                              unfold ruleHit
                              rw [Int.toNat_natCast, hq]
                              show (fitsB x r.guards j && decide (p = (j + r.eat.toNat) * k + r.dst.toNat)) = _
                              rw [hee, ht]
                              rfl
                            have hTK : ∀ p, ((rulesOf d s).take (i + 1)).any (fun z => ruleHit d x k j z p) = (((rulesOf d s).take i).any (fun z => ruleHit d x k j z p) || (fitsB x r.guards j && decide (p = (j + ee) * k + t))) := fun p => by
                              rw [List.take_add_one, hzz, List.any_append, Option.toList_some, List.any_cons, List.any_nil, Bool.or_false, hHit]
                            have e1 : wq.cell? ⟨PB, 0, none⟩ = some (.pointer (some ⟨RB, 0, none⟩)) := cell_of_row _ _ 0 _ _ _ ((KQ PB hPB8 (by omega)).trans T3.out)
                            have d4 : wq.cell? ⟨w.heap.size, 4, none⟩ = some (.slice (some ⟨b2, o2, none⟩) d.rules.length c1) := cell_of_row _ _ 4 _ _ _ ((KQ w.heap.size hD8 (by omega)).trans T2.out)
                            have x1 : wb.cell? ⟨PB, 0, none⟩ = some (.pointer (some ⟨RB, 0, none⟩)) := cell_of_row _ _ 0 _ _ _ ((KB PB hPB8 (by omega)).trans T3.out)
                            have x2 : wb.cell? ⟨wq.heap.size, 2, none⟩ = some (.slice A5 r.guards.length c5) := cell_of_row _ _ 2 _ _ _ hbx
                            have x3 : wb.cell? ⟨AB, 0, none⟩ = some (.int .i64 j) := cell_of_row _ _ 0 _ _ _ hABb
                            have HTK := hid hTK
                            have HRq := hid hRq
                            have HKq := hid hKq
                            have HKB := hid KB
                            have HBX := hid hbx
                            have HAb := hid hABb
                            have HLB := hid hlb
                            have HWB := hid hwb
                            have hfx : fitsB x r.guards j = true → r.guards.length ≤ x.length - j := fun h => (fitsB_iff.1 h).1
                            obtain ⟨ft, hft⟩ : ∃ ft, ft = fitsB x r.guards j := ⟨_, rfl⟩
                            rw [← hft] at HFI HTK hfx
                            clear hzz hq hsrc q6 q7 q8 hrok ht hee hHit hTK hRq hKq KQ KB hbx hABb hlb hBq hBb hft hil
                            rw [hwb] at x1 x2 x3
                            clear hwb
                            gi_wp2
                            rw [← HWB.out]
                            refine ⟨trivial, ?_⟩
                            refine (CallsIn.inRound lp (callsIn_wide.2 HFI.out)).mono ?_
                            rintro e w5 ⟨rfl, hB5⟩
                            have hs5 := hB5.size
                            have hl5 : ∀ g, g < wq.heap.size → w5.heap[g]? = wq.heap[g]? := fun g hg => (hB5.block g (by omega)).trans (HLB.out g hg)
                            have HL5 := hid hl5
                            have hBX5 := (hB5.block wq.heap.size (by omega)).trans HBX.out
                            have hAB5 := (hB5.block AB (by omega)).trans HAb.out
                            have K5 : ∀ g, g < H8 → g ≠ LV → w5.heap[g]? = W8.heap[g]? := fun g h1 h2 => (hB5.block g (by omega)).trans (HKB.out g h1 h2)
                            have hK5 : KeptBut Wd.heap.size (fun g => g = LV) Wd w5 := HKq.out.trans ⟨by rw [hB5.os, HWB.out]; rfl, by rw [hB5.tape, HWB.out]; rfl, by rw [hB5.output, HWB.out]; rfl, by omega, fun g hg _ => hl5 g (by omega)⟩
                            have hR5 : w5.rowIs LV 4 M (fun p => .bool (LL p || ((rulesOf d s).take i).any (fun z => ruleHit d x k j z p))) := HRq.out.of_block (hl5 LV (by omega))
                            clear x1 x2 x3 e1 d4 q1 q2 q3 q4 q5 hcy HFI
                            cases ft with
                            | true =>
                              have hge := hfx rfl
                              obtain ⟨JE, hJE⟩ : ∃ JE, JE = (j + ee) * k := ⟨_, rfl⟩
                              have hJEi : ((j : Int) + (ee : Int)) * (k : Int) = (JE : Int) := by rw [hJE]; push_cast; rfl
                              have hix : JE + t < M := by
                                have h1 : (j + ee + 1) * k ≤ (x.length + 1) * k := Nat.mul_le_mul_right _ (by omega)
                                rw [HM.out, hJE]
                                rw [Nat.add_mul] at h1
                                omega
                              have hix' : (JE : Int) + t < M := by omega
                              have y1 : w5.cell? ⟨PB, 0, none⟩ = some (.pointer (some ⟨RB, 0, none⟩)) := cell_of_row _ _ 0 _ _ _ ((K5 PB hPB8 (by omega)).trans T3.out)
                              have y2 : w5.cell? ⟨RB, 10, none⟩ = some (.slice (some ⟨LV, 0, none⟩) M M) := cell_of_row _ _ 10 _ _ _ ((K5 RB hRB8 (by omega)).trans T1.out)
                              have y3 : w5.cell? ⟨w.heap.size, 2, none⟩ = some (.int .i64 k) := cell_of_row _ _ 2 _ _ _ ((K5 w.heap.size hD8 (by omega)).trans T2.out)
                              have y4 : w5.cell? ⟨AB, 0, none⟩ = some (.int .i64 j) := cell_of_row _ _ 0 _ _ _ hAB5
                              have y5 : w5.cell? ⟨wq.heap.size, 3, none⟩ = some (.int .i64 ee) := cell_of_row _ _ 3 _ _ _ hBX5
                              have y6 : w5.cell? ⟨wq.heap.size, 1, none⟩ = some (.int .i64 t) := cell_of_row _ _ 1 _ _ _ hBX5
                              have y7 := hR5.cell hix
                              have y8 := hR5.frozen (JE + t)
                              have HJE := hid hJE
                              have HK5 := hid hK5
                              have HR5 := hid hR5
                              have HWK5 := hid K5
                              clear hJE hK5 hR5 K5 hAB5 hBX5 hB5 hl5
                              gi_wp2
                              refine Code.wpIn_mono (Q := Exit.then _ (fun _ _ _ => False)) (fun e a w h => by cases e <;> first | exact h | exact h.elim) ?_
                              obtain ⟨ι, Wc, ⟨i0, hi0'⟩, hWc, Wsur⟩ := held_class w5.drew (fun q => q = PB ∨ q = RB ∨ q = w.heap.size ∨ q = AB ∨ q = wq.heap.size)
                              have hne : Nonempty ι := ⟨i0⟩
                              have WS := hid Wsur; clear Wsur
                              have HWc := hid hWc; clear hWc
                              have Hi0 := hid hi0'; clear hi0'
                              have g0 : ∀ i, (Wc i).cell? ⟨PB, 0, none⟩ = some (.pointer (some ⟨RB, 0, none⟩)) := fun i => (World.cell?_of_block (a := ⟨PB, 0, none⟩) (HWc.out i _ (.inl rfl))).trans y1
                              have g1 : ∀ i, (Wc i).cell? ⟨RB, 10, none⟩ = some (.slice (some ⟨LV, 0, none⟩) M M) := fun i => (World.cell?_of_block (a := ⟨RB, 10, none⟩) (HWc.out i _ (.inr (.inl rfl)))).trans y2
                              have g2 : ∀ i, (Wc i).cell? ⟨w.heap.size, 2, none⟩ = some (.int .i64 k) := fun i => (World.cell?_of_block (a := ⟨w.heap.size, 2, none⟩) (HWc.out i _ (.inr (.inr (.inl rfl))))).trans y3
                              have g3 : ∀ i, (Wc i).cell? ⟨AB, 0, none⟩ = some (.int .i64 j) := fun i => (World.cell?_of_block (a := ⟨AB, 0, none⟩) (HWc.out i _ (.inr (.inr (.inr (.inl rfl)))))).trans y4
                              have g4 : ∀ i, (Wc i).cell? ⟨wq.heap.size, 3, none⟩ = some (.int .i64 ee) := fun i => (World.cell?_of_block (a := ⟨wq.heap.size, 3, none⟩) (HWc.out i _ (.inr (.inr (.inr (.inr rfl)))))).trans y5
                              have g5 : ∀ i, (Wc i).cell? ⟨wq.heap.size, 1, none⟩ = some (.int .i64 t) := fun i => (World.cell?_of_block (a := ⟨wq.heap.size, 1, none⟩) (HWc.out i _ (.inr (.inr (.inr (.inr rfl)))))).trans y6
                              refine region_round (S := fun w' => ∃ i, w' = Wc i) (last := 16) (fun ⟨_, _, h⟩ => h) (by kernel_rfl) (by kernel_rfl) ?_
                              refine anyL_seg 0 15 (by kernel_rfl) (fun _ _ _ _ _ h => h) ⟨i0, Hi0.out.symm⟩ (f := 1) rfl (by kernel_rfl) (by kernel_rfl) ?_
                              simp only [List.drop_zero, List.take_succ_cons, List.take_zero]
                              repeat go_big_quiet_step (fail)
                              refine wpQuiet_nil ?_
                              refine anyL_act (i := 15) (by kernel_rfl) rfl rfl ?_
                              intro K hK
                              go_wp2_with fail
                              refine hK.out _ _ (fun _ => (WS.out _ (fun q hq => by simp only [heap_drew, setCell_get]; rw [if_neg (by rcases hq with rfl | rfl | rfl | rfl | rfl <;> omega)]))) ?_
                              clear hK K
                              refine anyL_done (by kernel_rfl) ?_ 0
                              clear g0 g1 g2 g3 g4 g5 WS HWc Hi0 hne i0 Wc ι
                              have HR6 := hid (show (w5.setCell ⟨LV, JE + t, none⟩ (.bool true)).rowIs LV 4 M (fun p => .bool (LL p || ((rulesOf d s).take (i + 1)).any (fun z => ruleHit d x k j z p))) from by
                                have h9 := HR5.out.set (JE + t) (.bool true)
                                refine cast (congrArg (World.rowIs _ _ _ _) ?_) h9
                                funext p
                                rw [HTK.out, ← HJE.out]
                                by_cases e : p = JE + t <;> simp [e])
                              have HK6 := hid (HK5.out.setCell (q := ⟨LV, JE + t, none⟩) rfl (.bool true))
                              gi_wp2
                              refine ⟨⟨i + 1, by omega, by go_num, HK6.out.drew, HR6.out⟩, ?_⟩
                              simp [intOf]; omega
                            | false =>
                              have HR6 := hid (refine_row (f := fun p => LL p || ((rulesOf d s).take (i + 1)).any (fun z => ruleHit d x k j z p)) (fun p => by rw [HTK.out, Bool.false_and, Bool.or_false]) hR5)
                              have HK6 := hid hK5
                              clear hK5 hR5 K5 hAB5 hBX5 hB5 hl5
                              gi_wp2
                              refine ⟨⟨i + 1, by omega, by go_num, HK6.out, HR6.out⟩, ?_⟩
                              simp [intOf]; omega
                          · obtain rfl : i = (rulesOf d s).length := by omega
                            have hil' : ¬ (((rulesOf d s).length : Int) < (rulesOf d s).length) := by omega
                            rw [List.take_length] at hRq
                            have HKq := hid hKq
                            have HRq := hid hRq
                            clear hKq hRq KQ hil
                            gi_wp2
                            have hKW : KeptBut W.heap.size (fun g => g = LV) W wq := HKR.out.trans (HKq.out.mono hsd (fun g _ h => h))
                            refine ⟨round_keeps (LV := LV) hKW (by omega), fun g hg => hKW.block g (by have := (HSL.out g hg).1; omega) (HSL.out g hg).2, (by rw [← hss]; exact HKpd.out.trans (HKq.out.mono (by have := HKpd.out.size; omega) (fun g _ h => h))), ?_⟩
                            rw [HNEW.out]
                            refine refine_row (fun p => ?_) HRq.out
                            unfold stepE
                            rw [hb, Bool.true_and, hits_edge hsk, ← HJ.out]
                    case done =>
                      rintro D xs W hD hxs ⟨hKp, hRow⟩ hK
                      have hsW := hKp.size
                      have hABW := (hKp.block AB (by omega) hABL).trans ((HLW.out AB hABw).trans HMI.out.atb)
                      have e4 : W.cell? ⟨AB, 0, none⟩ = some (.int .i64 j) := cell_of_row _ _ 0 _ _ _ hABW
                      have hDW := heapLtW hK
                      have hnew : MainI W8 H8 LV M W.heap.size (j + 1) (liveF d x k ord (j + 1)) (D :: Ds) (W.alloc (.cells #[.int .i64 ((j : Int) + 1)] 3)) := by
                        refine ⟨((HMI.out.kept.trans HWK.out).trans (hKp.mono (by omega) (fun g _ h => h))).alloc (by omega) _, ?_, ?_, ⟨?_, fun D' hD' => ?_⟩, .inr (by omega)⟩
                        · refine (refine_row (fun p => ?_) hRow).of_block (Below.heap_alloc _ _ _ hRow.lt)
                          rw [liveF_succ]
                          unfold rowP1
                          rw [← hxs, List.map_map]
                          rfl
                        · rw [heap_alloc_new]; rfl
                        · refine List.pairwise_cons.2 ⟨fun D' hD' => ?_, HMI.out.ds.1⟩
                          have := (HMI.out.ds.2 D' hD').2.1
                          show D' < D
                          omega
                        · rcases List.mem_cons.1 hD' with rfl | hD'
                          · exact ⟨by omega, by simp; omega, (Below.heap_alloc _ _ _ hDW).trans hK⟩
                          · obtain ⟨p1, p2, p3⟩ := HMI.out.ds.2 D' hD'
                            exact ⟨p1, by simp; omega, (Below.heap_alloc _ _ _ (by omega)).trans ((hKp.block D' (by omega) (by omega)).trans ((HLW.out D' p2).trans p3))⟩
                      have HNW := hid hnew
                      have HC1 := hid zc1
                      clear hKp hRow hK hABW hnew zc1 zc2 zc3 cbs hrel hrow0
                      go_wp2_with fail
                      refine ⟨⟨W.heap.size, j + 1, D :: Ds, _, _, _, _, _, _, _, _, _, _, _, _, by omega, HNW.out, rfl⟩, ?_⟩
                      rw [atMu_eq rfl (cell_of_row _ _ 0 _ _ _ HNW.out.atb), atMu_eq rfl HC1.out]
                      omega
                  · obtain rfl : j = x.length + 1 := by omega
                    have HMI := hid hMI
                    have HKE := hid kept
                    clear hMI kept hjl
                    have hjl' : ¬ (((x.length + 1 : Nat) : Int) ≤ x.length) := by omega
                    go_wp2_with fail
                    refine leave_marks Ds _ HMI.out.ds.1 (fun D hD => (HMI.out.ds.2 D hD).2.2) (fun w' hT => ⟨_, results_tmp rfl _ _ _, ?_⟩)
                    have hNo : ∀ g, g < H8 → g ∉ Ds := fun g hg hm => by have := (HMI.out.ds.2 g hm).1; omega
                    have hLast : ∀ g, g < H8 → g ≠ LV → w'.heap[g]? = W8.heap[g]? := fun g h1 h2 => (hT.block g (hNo g h1)).trans (HKE.out g h1 h2)
                    have hBl : Below w.heap.size w w' := HB8.out.trans (⟨hT.os.trans HMI.out.kept.os, hT.tape.trans HMI.out.kept.tape, hT.output.trans HMI.out.kept.output, by have := hT.size; omega, fun g hg => hLast g (by omega) (by omega)⟩)
                    have hsz : H8 ≤ w'.heap.size := by have := hT.size; omega
                    refine ⟨RB, LV, ord, rfl, by omega, by omega, ⟨(.slice A1 d.rules.length c1), (.slice A2 d.finals.length c2), (.slice A3 x.length c3), R, F, .slice Ao ord.length co, (by rw [HST.out, ← HM.out]; exact (hLast RB hRB8 (by omega)).trans T1.out), ?_, ?_, ?_, ?_, ?_, ?_, ?_⟩, HFo.out.od, fun s hs => HOr.out s hs, fun t ht => ?_, hBl⟩
                    · exact (listR ruleR).below HV.out hBl hBl.size
                    · exact (listR finalR).below HU.out hBl hBl.size
                    · exact wordR.below HX.out hBl hBl.size
                    · exact (listR (listR intR)).mono (fun p hp => World.cell?_of_block ((hLast _ (by have := hp.1; omega) (by have := hp.1; omega)).trans (T6.out.block _ (by have := hp.1; omega) (fun e => by have h8 := hp.1; have h9 := hp.2; omega)))) (fun g hg => by have := hg.1; show g < _; omega) HRL.out
                    · exact (listR (listR intR)).mono (fun p hp => World.cell?_of_block ((hLast _ (by have := hp.1; omega) (by have := hp.1; omega)).trans (T6.out.block _ (by have := hp.1; omega) (fun e => by have h8 := hp.1; have h9 := hp.2; omega)))) (fun g hg => by have := hg.1; show g < _; omega) HFL.out
                    · exact ints_in (ownsRow_kept HO8.out (fun g hg => hLast g (by have := HOV8.out g hg; omega) (by have := HOV8.out g hg; omega))) (fun z hz => by
                        obtain ⟨q, rfl, hq, _⟩ := HFo.out.mem z hz
                        exact I64.of (by omega) (by omega)) (fun g hg => by have := HOV8.out g hg; show g < _; omega)
                    · rw [← HM.out]
                      exact HMI.out.row.of_block (hT.block LV (hNo LV hLV8))
                    · obtain ⟨q, h1, h2, _⟩ := HFo.out.mem t ht
                      exact ⟨q, h1, h2⟩
  clear hKr HV HU HX
  refine Code.wp_mono (Q := Exit.then K (fun _ _ _ => False)) (fun e a w h => by cases e <;> first | exact h | exact h.elim) ?_
  obtain ⟨ι, Wc, ⟨i0, hi0'⟩, hWc, Wsur⟩ := held_class (w.alloc (.cells #[.int .i64 d.inn, .int .i64 d.out, .int .i64 n, .int .i64 st, .slice A1 d.rules.length c1, .slice A2 d.finals.length c2] 27)).drew (fun q => q = w.heap.size)
  have hne : Nonempty ι := ⟨i0⟩
  have WS := hid Wsur; clear Wsur
  have HWc := hid hWc; clear hWc
  have Hi0 := hid hi0'; clear hi0'
  have g0 : ∀ i, (Wc i).cell? ⟨w.heap.size, 0, none⟩ = some (.int .i64 d.inn) := fun i => (World.cell?_of_block (a := ⟨w.heap.size, 0, none⟩) (HWc.out i _ rfl)).trans (cell_of_row _ _ 0 _ _ _ (heap_alloc_new w (.cells #[.int .i64 d.inn, .int .i64 d.out, .int .i64 n, .int .i64 st, .slice A1 d.rules.length c1, .slice A2 d.finals.length c2] 27)))
  have g1 : ∀ i, (Wc i).cell? ⟨w.heap.size, 1, none⟩ = some (.int .i64 d.out) := fun i => (World.cell?_of_block (a := ⟨w.heap.size, 1, none⟩) (HWc.out i _ rfl)).trans (cell_of_row _ _ 1 _ _ _ (heap_alloc_new w (.cells #[.int .i64 d.inn, .int .i64 d.out, .int .i64 n, .int .i64 st, .slice A1 d.rules.length c1, .slice A2 d.finals.length c2] 27)))
  have g2 : ∀ i, (Wc i).cell? ⟨w.heap.size, 2, none⟩ = some (.int .i64 n) := fun i => (World.cell?_of_block (a := ⟨w.heap.size, 2, none⟩) (HWc.out i _ rfl)).trans (cell_of_row _ _ 2 _ _ _ (heap_alloc_new w (.cells #[.int .i64 d.inn, .int .i64 d.out, .int .i64 n, .int .i64 st, .slice A1 d.rules.length c1, .slice A2 d.finals.length c2] 27)))
  have g3 : ∀ i, (Wc i).cell? ⟨w.heap.size, 3, none⟩ = some (.int .i64 st) := fun i => (World.cell?_of_block (a := ⟨w.heap.size, 3, none⟩) (HWc.out i _ rfl)).trans (cell_of_row _ _ 3 _ _ _ (heap_alloc_new w (.cells #[.int .i64 d.inn, .int .i64 d.out, .int .i64 n, .int .i64 st, .slice A1 d.rules.length c1, .slice A2 d.finals.length c2] 27)))
  have g4 : ∀ i, (Wc i).cell? ⟨w.heap.size, 4, none⟩ = some (.slice A1 d.rules.length c1) := fun i => (World.cell?_of_block (a := ⟨w.heap.size, 4, none⟩) (HWc.out i _ rfl)).trans (cell_of_row _ _ 4 _ _ _ (heap_alloc_new w (.cells #[.int .i64 d.inn, .int .i64 d.out, .int .i64 n, .int .i64 st, .slice A1 d.rules.length c1, .slice A2 d.finals.length c2] 27)))
  have g5 : ∀ i, (Wc i).cell? ⟨w.heap.size, 5, none⟩ = some (.slice A2 d.finals.length c2) := fun i => (World.cell?_of_block (a := ⟨w.heap.size, 5, none⟩) (HWc.out i _ rfl)).trans (cell_of_row _ _ 5 _ _ _ (heap_alloc_new w (.cells #[.int .i64 d.inn, .int .i64 d.out, .int .i64 n, .int .i64 st, .slice A1 d.rules.length c1, .slice A2 d.finals.length c2] 27)))
  refine region_anyL (S := fun w' => ∃ i, w' = Wc i) (last := 12) (by kernel_rfl) ?_
  refine anyL_seg 0 4 (by kernel_rfl) (fun _ _ _ _ _ h => h) ⟨i0, Hi0.out.symm⟩ (f := 8) rfl (by kernel_rfl) (by kernel_rfl) ?_
  simp only [List.drop_zero, List.take_succ_cons, List.take_zero]
  repeat go_big_quiet_step (fail)
  refine wpQuiet_nil ?_
  refine anyL_seg 5 2 (by kernel_rfl) (fun _ _ _ _ _ h => h) ⟨i0, Hi0.out.symm⟩ (f := 6) rfl (by kernel_rfl) (by kernel_rfl) ?_
  simp only [List.drop_succ_cons, List.drop_zero, List.take_succ_cons, List.take_zero]
  repeat go_big_quiet_step (fail)
  refine wpQuiet_nil ?_
  refine anyL_three (i := 4) (j := 7) (k := 10) (by kernel_rfl) rfl rfl rfl rfl rfl rfl ?_ ?_ ?_ 
  · intro K1 hK
    go_wp2_with fail
    refine hK.out _ _ (fun _ => WS.out _ (fun q hq => by subst hq; simp only [alloc_get, heap_drew, World.size_alloc] <;> simp)) ?_
    clear hK K1
    refine anyL_two (i := 7) (j := 10) (by kernel_rfl) rfl rfl rfl rfl ?_ ?_ 
    · intro K1 hK
      go_wp2_with fail
      refine hK.out _ _ (fun _ => WS.out _ (fun q hq => by subst hq; simp only [alloc_get, heap_drew, World.size_alloc, Nat.add_assoc, Nat.reduceAdd] <;> simp)) ?_
      clear hK K1
      refine anyL_seg 8 1 (by kernel_rfl) (fun _ _ _ _ _ h => h) (WS.out _ (fun q hq => by subst hq; simp only [alloc_get, heap_drew, World.size_alloc, Nat.add_assoc, Nat.reduceAdd] <;> simp)) (f := 3) rfl (by kernel_rfl) (by kernel_rfl) ?_
      simp only [List.drop_succ_cons, List.drop_zero, List.take_succ_cons, List.take_zero]
      repeat go_big_quiet_step (fail)
      refine wpQuiet_nil ?_
      refine anyL_two (i := 9) (j := 10) (by kernel_rfl) rfl rfl rfl rfl ?_ ?_ 
      · intro K1 hK
        go_wp2_with fail
        refine hK.out _ _ (fun _ => WS.out _ (fun q hq => by subst hq; simp only [alloc_get, heap_drew, World.size_alloc, Nat.add_assoc, Nat.reduceAdd] <;> simp)) ?_
        clear hK K1
        refine anyL_act (i := 10) (by kernel_rfl) rfl rfl ?_
        intro K1 hK
        go_wp2_with fail
        refine hK.out _ _ (fun _ => WS.out _ (fun q hq => by subst hq; simp only [alloc_get, heap_drew, World.size_alloc, Nat.add_assoc, Nat.reduceAdd] <;> simp)) ?_
        clear hK K1
        refine anyL_act (i := 11) (by kernel_rfl) rfl rfl ?_
        intro K1 hK
        go_wp2_with fail
        refine hK.out _ _ (fun _ => WS.out _ (fun q hq => by subst hq; simp only [alloc_get, heap_drew, World.size_alloc, Nat.add_assoc, Nat.reduceAdd] <;> simp)) ?_
        clear hK K1
        refine anyL_done (by kernel_rfl) ?_ 0
        show K _ _
        exact hcont _ _ _ _ _ (by refine ⟨?_, ?_, ?_, ?_, ?_, ?_, ?_, ?_, ?_, ?_, ?_, ?_, ?_, ?_, ?_, ?_, ?_⟩ <;> first | omega | (simp only [alloc_get, heap_drew, World.size_alloc, Nat.add_assoc, Nat.reduceAdd] <;> simp [runObj, runCells]; done) | (simp only [World.size_alloc, World.size_setCell, heap_drew]; done) | (repeat' (first | exact Below.refl _ _ | refine Below.drew ?_ | refine Below.alloc ?_ (by simp <;> omega) _ | refine Below.setCell ?_ (by simp <;> omega) _)))
      · intro K1 hK
        go_wp2_with fail
        refine hK.out _ _ (fun _ => WS.out _ (fun q hq => by subst hq; simp only [alloc_get, heap_drew, World.size_alloc, Nat.add_assoc, Nat.reduceAdd] <;> simp)) ?_
        clear hK K1
        refine anyL_act (i := 9) (by kernel_rfl) rfl rfl ?_
        intro K1 hK
        go_wp2_with fail
        refine hK.out _ _ (fun _ => WS.out _ (fun q hq => by subst hq; simp only [alloc_get, heap_drew, World.size_alloc, Nat.add_assoc, Nat.reduceAdd] <;> simp)) ?_
        clear hK K1
        refine anyL_act (i := 11) (by kernel_rfl) rfl rfl ?_
        intro K1 hK
        go_wp2_with fail
        refine hK.out _ _ (fun _ => WS.out _ (fun q hq => by subst hq; simp only [alloc_get, heap_drew, World.size_alloc, Nat.add_assoc, Nat.reduceAdd] <;> simp)) ?_
        clear hK K1
        refine anyL_done (by kernel_rfl) ?_ 0
        show K _ _
        exact hcont _ _ _ _ _ (by refine ⟨?_, ?_, ?_, ?_, ?_, ?_, ?_, ?_, ?_, ?_, ?_, ?_, ?_, ?_, ?_, ?_, ?_⟩ <;> first | omega | (simp only [alloc_get, heap_drew, World.size_alloc, Nat.add_assoc, Nat.reduceAdd] <;> simp [runObj, runCells]; done) | (simp only [World.size_alloc, World.size_setCell, heap_drew]; done) | (repeat' (first | exact Below.refl _ _ | refine Below.drew ?_ | refine Below.alloc ?_ (by simp <;> omega) _ | refine Below.setCell ?_ (by simp <;> omega) _)))
    · intro K1 hK
      go_wp2_with fail
      refine hK.out _ _ (fun _ => WS.out _ (fun q hq => by subst hq; simp only [alloc_get, heap_drew, World.size_alloc, Nat.add_assoc, Nat.reduceAdd] <;> simp)) ?_
      clear hK K1
      refine anyL_act (i := 7) (by kernel_rfl) rfl rfl ?_
      intro K1 hK
      go_wp2_with fail
      refine hK.out _ _ (fun _ => WS.out _ (fun q hq => by subst hq; simp only [alloc_get, heap_drew, World.size_alloc, Nat.add_assoc, Nat.reduceAdd] <;> simp)) ?_
      clear hK K1
      refine anyL_seg 8 1 (by kernel_rfl) (fun _ _ _ _ _ h => h) (WS.out _ (fun q hq => by subst hq; simp only [alloc_get, heap_drew, World.size_alloc, Nat.add_assoc, Nat.reduceAdd] <;> simp)) (f := 2) rfl (by kernel_rfl) (by kernel_rfl) ?_
      simp only [List.drop_succ_cons, List.drop_zero, List.take_succ_cons, List.take_zero]
      repeat go_big_quiet_step (fail)
      refine wpQuiet_nil ?_
      refine anyL_act (i := 9) (by kernel_rfl) rfl rfl ?_
      intro K1 hK
      go_wp2_with fail
      refine hK.out _ _ (fun _ => WS.out _ (fun q hq => by subst hq; simp only [alloc_get, heap_drew, World.size_alloc, Nat.add_assoc, Nat.reduceAdd] <;> simp)) ?_
      clear hK K1
      refine anyL_act (i := 11) (by kernel_rfl) rfl rfl ?_
      intro K1 hK
      go_wp2_with fail
      refine hK.out _ _ (fun _ => WS.out _ (fun q hq => by subst hq; simp only [alloc_get, heap_drew, World.size_alloc, Nat.add_assoc, Nat.reduceAdd] <;> simp)) ?_
      clear hK K1
      refine anyL_done (by kernel_rfl) ?_ 0
      show K _ _
      exact hcont _ _ _ _ _ (by refine ⟨?_, ?_, ?_, ?_, ?_, ?_, ?_, ?_, ?_, ?_, ?_, ?_, ?_, ?_, ?_, ?_, ?_⟩ <;> first | omega | (simp only [alloc_get, heap_drew, World.size_alloc, Nat.add_assoc, Nat.reduceAdd] <;> simp [runObj, runCells]; done) | (simp only [World.size_alloc, World.size_setCell, heap_drew]; done) | (repeat' (first | exact Below.refl _ _ | refine Below.drew ?_ | refine Below.alloc ?_ (by simp <;> omega) _ | refine Below.setCell ?_ (by simp <;> omega) _)))
  · intro K1 hK
    go_wp2_with fail
    refine hK.out _ _ (fun _ => WS.out _ (fun q hq => by subst hq; simp only [alloc_get, heap_drew, World.size_alloc] <;> simp)) ?_
    clear hK K1
    refine anyL_two (i := 4) (j := 10) (by kernel_rfl) rfl rfl rfl rfl ?_ ?_ 
    · intro K1 hK
      go_wp2_with fail
      refine hK.out _ _ (fun _ => WS.out _ (fun q hq => by subst hq; simp only [alloc_get, heap_drew, World.size_alloc, Nat.add_assoc, Nat.reduceAdd] <;> simp)) ?_
      clear hK K1
      refine anyL_seg 8 1 (by kernel_rfl) (fun _ _ _ _ _ h => h) (WS.out _ (fun q hq => by subst hq; simp only [alloc_get, heap_drew, World.size_alloc, Nat.add_assoc, Nat.reduceAdd] <;> simp)) (f := 3) rfl (by kernel_rfl) (by kernel_rfl) ?_
      simp only [List.drop_succ_cons, List.drop_zero, List.take_succ_cons, List.take_zero]
      repeat go_big_quiet_step (fail)
      refine wpQuiet_nil ?_
      refine anyL_two (i := 9) (j := 10) (by kernel_rfl) rfl rfl rfl rfl ?_ ?_ 
      · intro K1 hK
        go_wp2_with fail
        refine hK.out _ _ (fun _ => WS.out _ (fun q hq => by subst hq; simp only [alloc_get, heap_drew, World.size_alloc, Nat.add_assoc, Nat.reduceAdd] <;> simp)) ?_
        clear hK K1
        refine anyL_act (i := 10) (by kernel_rfl) rfl rfl ?_
        intro K1 hK
        go_wp2_with fail
        refine hK.out _ _ (fun _ => WS.out _ (fun q hq => by subst hq; simp only [alloc_get, heap_drew, World.size_alloc, Nat.add_assoc, Nat.reduceAdd] <;> simp)) ?_
        clear hK K1
        refine anyL_act (i := 11) (by kernel_rfl) rfl rfl ?_
        intro K1 hK
        go_wp2_with fail
        refine hK.out _ _ (fun _ => WS.out _ (fun q hq => by subst hq; simp only [alloc_get, heap_drew, World.size_alloc, Nat.add_assoc, Nat.reduceAdd] <;> simp)) ?_
        clear hK K1
        refine anyL_done (by kernel_rfl) ?_ 0
        show K _ _
        exact hcont _ _ _ _ _ (by refine ⟨?_, ?_, ?_, ?_, ?_, ?_, ?_, ?_, ?_, ?_, ?_, ?_, ?_, ?_, ?_, ?_, ?_⟩ <;> first | omega | (simp only [alloc_get, heap_drew, World.size_alloc, Nat.add_assoc, Nat.reduceAdd] <;> simp [runObj, runCells]; done) | (simp only [World.size_alloc, World.size_setCell, heap_drew]; done) | (repeat' (first | exact Below.refl _ _ | refine Below.drew ?_ | refine Below.alloc ?_ (by simp <;> omega) _ | refine Below.setCell ?_ (by simp <;> omega) _)))
      · intro K1 hK
        go_wp2_with fail
        refine hK.out _ _ (fun _ => WS.out _ (fun q hq => by subst hq; simp only [alloc_get, heap_drew, World.size_alloc, Nat.add_assoc, Nat.reduceAdd] <;> simp)) ?_
        clear hK K1
        refine anyL_act (i := 9) (by kernel_rfl) rfl rfl ?_
        intro K1 hK
        go_wp2_with fail
        refine hK.out _ _ (fun _ => WS.out _ (fun q hq => by subst hq; simp only [alloc_get, heap_drew, World.size_alloc, Nat.add_assoc, Nat.reduceAdd] <;> simp)) ?_
        clear hK K1
        refine anyL_act (i := 11) (by kernel_rfl) rfl rfl ?_
        intro K1 hK
        go_wp2_with fail
        refine hK.out _ _ (fun _ => WS.out _ (fun q hq => by subst hq; simp only [alloc_get, heap_drew, World.size_alloc, Nat.add_assoc, Nat.reduceAdd] <;> simp)) ?_
        clear hK K1
        refine anyL_done (by kernel_rfl) ?_ 0
        show K _ _
        exact hcont _ _ _ _ _ (by refine ⟨?_, ?_, ?_, ?_, ?_, ?_, ?_, ?_, ?_, ?_, ?_, ?_, ?_, ?_, ?_, ?_, ?_⟩ <;> first | omega | (simp only [alloc_get, heap_drew, World.size_alloc, Nat.add_assoc, Nat.reduceAdd] <;> simp [runObj, runCells]; done) | (simp only [World.size_alloc, World.size_setCell, heap_drew]; done) | (repeat' (first | exact Below.refl _ _ | refine Below.drew ?_ | refine Below.alloc ?_ (by simp <;> omega) _ | refine Below.setCell ?_ (by simp <;> omega) _)))
    · intro K1 hK
      go_wp2_with fail
      refine hK.out _ _ (fun _ => WS.out _ (fun q hq => by subst hq; simp only [alloc_get, heap_drew, World.size_alloc, Nat.add_assoc, Nat.reduceAdd] <;> simp)) ?_
      clear hK K1
      refine anyL_act (i := 4) (by kernel_rfl) rfl rfl ?_
      intro K1 hK
      go_wp2_with fail
      refine hK.out _ _ (fun _ => WS.out _ (fun q hq => by subst hq; simp only [alloc_get, heap_drew, World.size_alloc, Nat.add_assoc, Nat.reduceAdd] <;> simp)) ?_
      clear hK K1
      refine anyL_seg 8 1 (by kernel_rfl) (fun _ _ _ _ _ h => h) (WS.out _ (fun q hq => by subst hq; simp only [alloc_get, heap_drew, World.size_alloc, Nat.add_assoc, Nat.reduceAdd] <;> simp)) (f := 2) rfl (by kernel_rfl) (by kernel_rfl) ?_
      simp only [List.drop_succ_cons, List.drop_zero, List.take_succ_cons, List.take_zero]
      repeat go_big_quiet_step (fail)
      refine wpQuiet_nil ?_
      refine anyL_act (i := 9) (by kernel_rfl) rfl rfl ?_
      intro K1 hK
      go_wp2_with fail
      refine hK.out _ _ (fun _ => WS.out _ (fun q hq => by subst hq; simp only [alloc_get, heap_drew, World.size_alloc, Nat.add_assoc, Nat.reduceAdd] <;> simp)) ?_
      clear hK K1
      refine anyL_act (i := 11) (by kernel_rfl) rfl rfl ?_
      intro K1 hK
      go_wp2_with fail
      refine hK.out _ _ (fun _ => WS.out _ (fun q hq => by subst hq; simp only [alloc_get, heap_drew, World.size_alloc, Nat.add_assoc, Nat.reduceAdd] <;> simp)) ?_
      clear hK K1
      refine anyL_done (by kernel_rfl) ?_ 0
      show K _ _
      exact hcont _ _ _ _ _ (by refine ⟨?_, ?_, ?_, ?_, ?_, ?_, ?_, ?_, ?_, ?_, ?_, ?_, ?_, ?_, ?_, ?_, ?_⟩ <;> first | omega | (simp only [alloc_get, heap_drew, World.size_alloc, Nat.add_assoc, Nat.reduceAdd] <;> simp [runObj, runCells]; done) | (simp only [World.size_alloc, World.size_setCell, heap_drew]; done) | (repeat' (first | exact Below.refl _ _ | refine Below.drew ?_ | refine Below.alloc ?_ (by simp <;> omega) _ | refine Below.setCell ?_ (by simp <;> omega) _)))
  · intro K1 hK
    go_wp2_with fail
    refine hK.out _ _ (fun _ => WS.out _ (fun q hq => by subst hq; simp only [alloc_get, heap_drew, World.size_alloc] <;> simp)) ?_
    clear hK K1
    refine anyL_two (i := 4) (j := 7) (by kernel_rfl) rfl rfl rfl rfl ?_ ?_ 
    · intro K1 hK
      go_wp2_with fail
      refine hK.out _ _ (fun _ => WS.out _ (fun q hq => by subst hq; simp only [alloc_get, heap_drew, World.size_alloc, Nat.add_assoc, Nat.reduceAdd] <;> simp)) ?_
      clear hK K1
      refine anyL_act (i := 7) (by kernel_rfl) rfl rfl ?_
      intro K1 hK
      go_wp2_with fail
      refine hK.out _ _ (fun _ => WS.out _ (fun q hq => by subst hq; simp only [alloc_get, heap_drew, World.size_alloc, Nat.add_assoc, Nat.reduceAdd] <;> simp)) ?_
      clear hK K1
      refine anyL_seg 8 1 (by kernel_rfl) (fun _ _ _ _ _ h => h) (WS.out _ (fun q hq => by subst hq; simp only [alloc_get, heap_drew, World.size_alloc, Nat.add_assoc, Nat.reduceAdd] <;> simp)) (f := 2) rfl (by kernel_rfl) (by kernel_rfl) ?_
      simp only [List.drop_succ_cons, List.drop_zero, List.take_succ_cons, List.take_zero]
      repeat go_big_quiet_step (fail)
      refine wpQuiet_nil ?_
      refine anyL_act (i := 9) (by kernel_rfl) rfl rfl ?_
      intro K1 hK
      go_wp2_with fail
      refine hK.out _ _ (fun _ => WS.out _ (fun q hq => by subst hq; simp only [alloc_get, heap_drew, World.size_alloc, Nat.add_assoc, Nat.reduceAdd] <;> simp)) ?_
      clear hK K1
      refine anyL_act (i := 11) (by kernel_rfl) rfl rfl ?_
      intro K1 hK
      go_wp2_with fail
      refine hK.out _ _ (fun _ => WS.out _ (fun q hq => by subst hq; simp only [alloc_get, heap_drew, World.size_alloc, Nat.add_assoc, Nat.reduceAdd] <;> simp)) ?_
      clear hK K1
      refine anyL_done (by kernel_rfl) ?_ 0
      show K _ _
      exact hcont _ _ _ _ _ (by refine ⟨?_, ?_, ?_, ?_, ?_, ?_, ?_, ?_, ?_, ?_, ?_, ?_, ?_, ?_, ?_, ?_, ?_⟩ <;> first | omega | (simp only [alloc_get, heap_drew, World.size_alloc, Nat.add_assoc, Nat.reduceAdd] <;> simp [runObj, runCells]; done) | (simp only [World.size_alloc, World.size_setCell, heap_drew]; done) | (repeat' (first | exact Below.refl _ _ | refine Below.drew ?_ | refine Below.alloc ?_ (by simp <;> omega) _ | refine Below.setCell ?_ (by simp <;> omega) _)))
    · intro K1 hK
      go_wp2_with fail
      refine hK.out _ _ (fun _ => WS.out _ (fun q hq => by subst hq; simp only [alloc_get, heap_drew, World.size_alloc, Nat.add_assoc, Nat.reduceAdd] <;> simp)) ?_
      clear hK K1
      refine anyL_act (i := 4) (by kernel_rfl) rfl rfl ?_
      intro K1 hK
      go_wp2_with fail
      refine hK.out _ _ (fun _ => WS.out _ (fun q hq => by subst hq; simp only [alloc_get, heap_drew, World.size_alloc, Nat.add_assoc, Nat.reduceAdd] <;> simp)) ?_
      clear hK K1
      refine anyL_seg 8 1 (by kernel_rfl) (fun _ _ _ _ _ h => h) (WS.out _ (fun q hq => by subst hq; simp only [alloc_get, heap_drew, World.size_alloc, Nat.add_assoc, Nat.reduceAdd] <;> simp)) (f := 2) rfl (by kernel_rfl) (by kernel_rfl) ?_
      simp only [List.drop_succ_cons, List.drop_zero, List.take_succ_cons, List.take_zero]
      repeat go_big_quiet_step (fail)
      refine wpQuiet_nil ?_
      refine anyL_act (i := 9) (by kernel_rfl) rfl rfl ?_
      intro K1 hK
      go_wp2_with fail
      refine hK.out _ _ (fun _ => WS.out _ (fun q hq => by subst hq; simp only [alloc_get, heap_drew, World.size_alloc, Nat.add_assoc, Nat.reduceAdd] <;> simp)) ?_
      clear hK K1
      refine anyL_act (i := 11) (by kernel_rfl) rfl rfl ?_
      intro K1 hK
      go_wp2_with fail
      refine hK.out _ _ (fun _ => WS.out _ (fun q hq => by subst hq; simp only [alloc_get, heap_drew, World.size_alloc, Nat.add_assoc, Nat.reduceAdd] <;> simp)) ?_
      clear hK K1
      refine anyL_done (by kernel_rfl) ?_ 0
      show K _ _
      exact hcont _ _ _ _ _ (by refine ⟨?_, ?_, ?_, ?_, ?_, ?_, ?_, ?_, ?_, ?_, ?_, ?_, ?_, ?_, ?_, ?_, ?_⟩ <;> first | omega | (simp only [alloc_get, heap_drew, World.size_alloc, Nat.add_assoc, Nat.reduceAdd] <;> simp [runObj, runCells]; done) | (simp only [World.size_alloc, World.size_setCell, heap_drew]; done) | (repeat' (first | exact Below.refl _ _ | refine Below.drew ?_ | refine Below.alloc ?_ (by simp <;> omega) _ | refine Below.setCell ?_ (by simp <;> omega) _)))
end Go.Proofs.YthfcbbdghggefaaGreat
