/-
  A map of rows of integers that the call has made (m[k] = append(m[k], i)), by a function of the key; its three operations each by themselves, for regions that draw their order. No program is named here.
-/
import Derived.Maps.GroupsBeside
import Derived.Test.YtflllgbjlfpgcaaReg
namespace Go.Um
open Go.RowKit Go.Maps Go.ChangeShapes

def groupDatum (l : List Int) : DataW Unit := if l = [] then .nil else .slice (lits .i64 l) []
theorem lits_inj {a b : List Int} (h : lits (H := Unit) .i64 a = lits .i64 b) : a = b := by
  unfold lits at h
  exact (List.map_inj_right (fun x y hxy => by simpa using hxy)).1 h
theorem groupDatum_inj {w : World} {base : Nat} {e : TypeId} {v : Value} {zs l : List Int} (h : w.ownsInts base e .i64 v zs) (hd : groupDatum l = rowDatum .i64 v zs) : zs = l := by
  unfold groupDatum at hd
  rcases h.datum (H := Unit) with ⟨h1, rfl⟩ | h1
  · rw [h1] at hd
    split at hd
    · rename_i h2; exact h2.symm
    · cases hd
  · rw [h1] at hd
    split at hd
    · cases hd
    · injection hd with h2 h3
      exact (lits_inj h2).symm

/-- block b is a map of at most n rows of integers: at each key the row that F says. -/
def GMap (P : Program) (w : World) (k : TypeId) (base : Nat) (e : TypeId) (b n : Nat) (F : Int → List Int) : Prop :=
  ∃ D : DataW Unit, w.ownsGroups P k base e .i64 b n D ∧ ∀ s : Int, D.atKey (.int .i64 s) .nil = groupDatum (F s)

variable {P : Program} {w w' : World} {k e t E : TypeId} {base b n : Nat} {F : Int → List Int} {s : Int}

theorem GMap.made (hb : w.heap[b]? = some (.map #[] 0)) (hlt : b < base) : GMap P w k base e b 0 (fun _ => []) :=
  ⟨.map [], ⟨#[], 0, hb, ⟨by simp, MapKept.stamped_empty 0, by simp⟩, Nat.le_refl _, rfl, hlt, by simp, by simp⟩, fun _ => rfl⟩
theorem GMap.kept (h : GMap P w k base e b n F) (hg : w.grownBy w' none) : GMap P w' k base e b n F := by
  obtain ⟨D, h1, h2⟩ := h
  exact ⟨D, h1.kept hg (by simp) (fun _ _ _ x _ => by cases x.val.ownBlock <;> simp), h2⟩
theorem GMap.alloc (h : GMap P w k base e b n F) (o : Obj) : GMap P (w.alloc o) k base e b n F := h.kept (World.grownBy_alloc _ _ _)
theorem grown_drew (w : World) : w.grownBy w.drew none := ⟨rfl, rfl, rfl, Nat.le_refl _, fun _ _ _ => rfl⟩
theorem GMap.drew (h : GMap P w k base e b n F) : GMap P w.drew k base e b n F := h.kept (grown_drew w)

/-- the way back. -/
def GBack (P : Program) (w : World) (t k : TypeId) (base : Nat) (e : TypeId) (b n : Nat) (F : Int → List Int) (s : Int) (v : Value) : Prop :=
  ∀ (w1 : World) (v' : Value) (x : Int), w.grownBy w1 v.ownBlock → w1.ownsInts base e .i64 v' (F s ++ [x]) → (v'.ownBlock = v.ownBlock ∨ ∃ g, v'.ownBlock = some g ∧ w.heap.size ≤ g) →
    ∃ w2, (Instr.mapUpdate t (.map (some b)) (.int .i64 s) v').run P w1 = .ok () w2 ∧ GMap P w2 k base e b (n + 1) (fun r => if r = s then F s ++ [x] else F r) ∧ w1.grownBy w2 (some b)

theorem GMap.at (h : GMap P w k base e b n F) (K : Keyed P k) (ht : P.underlying t = some (.map k E)) (hz : (zeroValue E).run P w = .ok (.slice none 0 0) w) (hn : n < maxLen) (hkey : keyOf P k (.int .i64 s) = some (.int .i64 s)) :
    ∃ v, (Instr.lookup t (.map (some b)) (.int .i64 s) false).run P w = .ok v w ∧ w.ownsInts base e .i64 v (F s) ∧ (F s).length ≤ n ∧ GBack P w t k base e b n F s v := by
  obtain ⟨D, h1, h2⟩ := h
  obtain ⟨v, zs, hr, ha, ho, hl, hb⟩ := h1.at K ht hz hn hkey
  rw [h2] at ha
  obtain rfl := groupDatum_inj ho ha
  refine ⟨v, hr, ho, hl, fun w1 v' x hg ho' hloc => ?_⟩
  obtain ⟨w2, q1, q2, q3⟩ := hb w1 v' _ hg ho' (by simp; omega) hloc
  refine ⟨w2, q1, ⟨_, q2, fun r => ?_⟩, q3⟩
  have hD : IsMap D := by obtain ⟨_, _, _, _, _, rfl, _⟩ := h1; exact ⟨_, rfl⟩
  rw [ho'.datum_pos (by simp)]
  by_cases hr' : r = s
  · subst hr'
    rw [atKey_put_same hD (show WideAt.IsKeyLit (.int .i64 r) from trivial)]
    simp [groupDatum]
  · rw [atKey_put_other (by simpa using hr'), h2]
    simp [hr']

section
variable {ops : Array Oper} {rest : List Oper} {o : Oper} {a : Act} {Q : Exit → Act → World → Prop} {K : Act → World → Prop}
theorem act_lookup (m x : Operand) (hop : o.op = Op.lookup t m x false) (Kd : Keyed P k) (ht : P.underlying t = some (.map k E)) (hz : (zeroValue E).run P w = .ok (.slice none 0 0) w) (hm : a.eval m = .map (some b)) (h : GMap P w k base e b n F) (hn : n < maxLen)
    (hx : a.eval x = .int .i64 s) (hkey : keyOf P k (.int .i64 s) = some (.int .i64 s)) (hK : ∀ v, w.ownsInts base e .i64 v (F s) → (F s).length ≤ n → GBack P w t k base e b n F s v → K (a.put o.dst v) w) : o.wp P a w K Q := by
  obtain ⟨v, hrun, ho, hl, hb⟩ := h.at Kd ht hz hn hkey
  unfold Oper.wp
  simp [execOp, hop, hm, hx, hrun, Result.andThen]
  exact hK v ho hl hb
theorem act_store (m x v : Operand) (hop : o.op = Op.mapUpdate t m x v) {w0 : World} {u v' : Value} {z : Int} (hback : GBack P w0 t k base e b n F s u) (hm : a.eval m = .map (some b)) (hx : a.eval x = .int .i64 s) (hv : a.eval v = v')
    (hgr : w0.grownBy w u.ownBlock) (hown' : w.ownsInts base e .i64 v' (F s ++ [z])) (hloc : v'.ownBlock = u.ownBlock ∨ ∃ g, v'.ownBlock = some g ∧ w0.heap.size ≤ g)
    (hK : ∀ w2, GMap P w2 k base e b (n + 1) (fun r => if r = s then F s ++ [z] else F r) → w.grownBy w2 (some b) → K (a.put o.dst undef) w2) : o.wp P a w K Q := by
  obtain ⟨w2, hrun, r1, r2⟩ := hback w v' z hgr hown' hloc
  unfold Oper.wp
  simp [execOp, hop, hm, hx, hv, hrun, Result.andThen]
  exact hK w2 r1 r2
theorem act_append_at (s x : Operand) (t : TypeId)
    (ho : o.op = .call { callee := .builtin .append, args := #[s, x], argTypes := #[t, t] })
    (base : Nat) (e : TypeId) (i : TypeInfo) (z : Value) (size bytes : Nat) (ht : P.underlying t = some (.slice e)) (hi : P.info? e = some i) (hz : i.zero = some z)
    (hsize : i.size = size) (hby : i.bytes = bytes) (hzs : z.cells.size = size) (hsz : 0 < size)
    (v : Value) (n : Nat) (xs : List Value) (hs : a.eval s = v) (hown : w.ownsRow base e size v n xs)
    (ad : Addr) (m c : Nat) (news : List Value) (hx : a.eval x = .slice (some ad) m c) (hl : news.length = m * size) (hnews : ∀ j u, news[j]? = some u → w.cell? (ad.add j) = some u) (h1 : ∀ u ∈ news, u.oneCell' = true)
    (h63 : n + m ≤ maxLen) (hbytes : (n + m) * bytes ≤ 140737488355328) (hbase : base ≤ w.heap.size)
    (h : ∀ v' w', w'.ownsRow base e size v' (n + m) (xs ++ news) → w.grownBy w' v.ownBlock → (v' = .slice none 0 0 ↔ v = .slice none 0 0 ∧ m = 0) → (v'.ownBlock = v.ownBlock ∨ v'.ownBlock = some w.heap.size) → K (a.put o.dst v') w') : o.wp P a w K Q := by
  obtain ⟨v', w', hr, h2, h3, h4, h5⟩ := run_append_own_at (P := P) w base t o.type e i z size bytes ht hi hz hsize hby hzs hsz v n xs hown ad m c news hl hnews h1 h63 hbytes hbase
  unfold Oper.wp execOp
  simp only [ho, resolve, invoke, builtin, Sem.run_bind, Sem.run_pure, Result.andThen_ok, List.map_toArray, List.map_cons, List.map_nil, hs, hx, hr]
  exact h v' w' h2 h3 h4 h5

theorem anyL_two {md : Region.Mode} {S : World → Prop} {last i j f : Nat} {oi oj : Oper} {listed : Array Bool} (hr : Region.ready md ops listed = [i, j]) (hi : ops[i]? = some oi) (hj : ops[j]? = some oj) (hgi : oi.guard = none) (hgj : oj.guard = none)
    (h1 : ∀ K : Act → World → Prop, Hid (∀ a' w', (i ≠ last → S w') → anyL P md ops Q S last f (listed.setIfInBounds i true) a' w' → K a' w') → oi.wp P a w K Q)
    (h2 : ∀ K : Act → World → Prop, Hid (∀ a' w', (j ≠ last → S w') → anyL P md ops Q S last f (listed.setIfInBounds j true) a' w' → K a' w') → oj.wp P a w K Q) : anyL P md ops Q S last (f + 1) listed a w := by
  refine ⟨fun h0 => (by rw [hr] at h0; cases h0), fun q hq => ?_⟩
  rw [hr] at hq
  simp only [List.mem_cons, List.not_mem_nil, or_false] at hq
  unfold wpOp
  rcases hq with rfl | rfl
  · simp only [hi]
    rw [if_pos (by simp [Region.wanted, hgi])]
    exact .inl (h1 _ (fun a' w' q1 q2 => ⟨q1, q2⟩))
  · simp only [hj]
    rw [if_pos (by simp [Region.wanted, hgj])]
    exact .inl (h2 _ (fun a' w' q1 q2 => ⟨q1, q2⟩))
end

/-- the worlds in which some blocks stand as they stood. -/
theorem held_class (w : World) (p : Nat → Prop) : ∃ (ι : Type) (W : ι → World), (∃ i, W i = w) ∧ (∀ i g, p g → (W i).heap[g]? = w.heap[g]?) ∧ ∀ w', (∀ g, p g → w'.heap[g]? = w.heap[g]?) → ∃ j, w' = W j :=
  ⟨{ w' : World // ∀ g, p g → w'.heap[g]? = w.heap[g]? }, fun i => i.1, ⟨⟨w, fun _ _ => rfl⟩, rfl⟩, fun i => i.2, fun w' h => ⟨⟨w', h⟩, rfl⟩⟩
end Go.Um
