/-
  A map of rows of integers that the call has made (m[k] = append(m[k], i)), by a function of the key; its three operations each by themselves, for regions that draw their order. No program is named here. The document's way of putting sets together, between borders, comes to the same as the program's: plain Lean. A queue of integers of the call's own: what was put behind may be taken from the front (q = q[1:]). No program is named here. Do edges lead back to where they begin? By taking away what nothing leads to any more: what is left is just if there are ways as long as one likes. No program is named here. What desc.cycle holds in memory: how many edges lead to each state, and where each leads. No program is named here. Parts and terms as plain arithmetic: what a part takes of a number, and of a set. No program is named here. Terms as plain arithmetic: the inner values of all windows. No program is named here. A term's values of all windows, by lists of spans: all are in a set just if each window's value is. No program is named here. The document's answer for terms, as plain arithmetic: sums of lists of numbers, window by window. No program is named here. What the reference's Make does between borders, step by step: plain Lean. The reference's sums and spans of lists of numbers: plain Lean. A row of truth values in a block of its own. The reference's inner values, loop by loop: plain Lean. A map from ints to slices of whatever kind, by a function of the key. No program is named here. The reference's Cycle, round by round: plain Lean. What is handed in as data reads as lists. No program is named here.
-/
import Derived.Test.YtmkmikacfilbpaaGreatKBase
import Derived.Maps.GroupsBeside
import Derived.Deep.Upon
import Derived.Maps.AppendAt
import Derived.Deep.Slices
import Derived.Deep.Fields
import Derived.ChangeSame
namespace Go.Um
open Go.RowKit Go.Maps Go.ChangeShapes

def groupDatum (l : List Int) : DataW Unit := if l = [] then .nil else .slice (lits .i64 l) []
theorem lits_inj {a b : List Int} (h : lits (H := Unit) .i64 a = lits .i64 b) : a = b := by
  unfold lits at h
  exact (List.map_inj_right (fun x y hxy => by simpa using hxy)).1 h
theorem groupDatum_inj {w : World} {base : Nat} {e : TypeId} {v : Value} {zs l : List Int} (h : w.ownsInts base e .i64 v zs) (hd : groupDatum l = rowDatum .i64 v zs) : zs = l := by
  unfold groupDatum at hd
  rcases h.datum (H := Unit) with ⟨h1, rfl⟩ | h1
  · rw [h1] at hd
    split at hd
    · rename_i h2; exact h2.symm
    · cases hd
  · rw [h1] at hd
    split at hd
    · cases hd
    · injection hd with h2 h3
      exact (lits_inj h2).symm

/-- block b is a map of at most n rows of integers: at each key the row that F says. -/
def GMap (P : Program) (w : World) (k : TypeId) (base : Nat) (e : TypeId) (b n : Nat) (F : Int → List Int) : Prop :=
  ∃ D : DataW Unit, w.ownsGroups P k base e .i64 b n D ∧ ∀ s : Int, D.atKey (.int .i64 s) .nil = groupDatum (F s)

variable {P : Program} {w w' : World} {k e t E : TypeId} {base b n : Nat} {F : Int → List Int} {s : Int}

theorem GMap.made (hb : w.heap[b]? = some (.map #[] 0)) (hlt : b < base) : GMap P w k base e b 0 (fun _ => []) :=
  ⟨.map [], ⟨#[], 0, hb, ⟨by simp, MapKept.stamped_empty 0, by simp⟩, Nat.le_refl _, rfl, hlt, by simp, by simp⟩, fun _ => rfl⟩
theorem GMap.kept (h : GMap P w k base e b n F) (hg : w.grownBy w' none) : GMap P w' k base e b n F := by
  obtain ⟨D, h1, h2⟩ := h
  exact ⟨D, h1.kept hg (by simp) (fun _ _ _ x _ => by cases x.val.ownBlock <;> simp), h2⟩
theorem GMap.alloc (h : GMap P w k base e b n F) (o : Obj) : GMap P (w.alloc o) k base e b n F := h.kept (World.grownBy_alloc _ _ _)
theorem grown_drew (w : World) : w.grownBy w.drew none := ⟨rfl, rfl, rfl, Nat.le_refl _, fun _ _ _ => rfl⟩
theorem GMap.drew (h : GMap P w k base e b n F) : GMap P w.drew k base e b n F := h.kept (grown_drew w)

/-- the way back. -/
def GBack (P : Program) (w : World) (t k : TypeId) (base : Nat) (e : TypeId) (b n : Nat) (F : Int → List Int) (s : Int) (v : Value) : Prop :=
  ∀ (w1 : World) (v' : Value) (x : Int), w.grownBy w1 v.ownBlock → w1.ownsInts base e .i64 v' (F s ++ [x]) → (v'.ownBlock = v.ownBlock ∨ ∃ g, v'.ownBlock = some g ∧ w.heap.size ≤ g) →
    ∃ w2, (Instr.mapUpdate t (.map (some b)) (.int .i64 s) v').run P w1 = .ok () w2 ∧ GMap P w2 k base e b (n + 1) (fun r => if r = s then F s ++ [x] else F r) ∧ w1.grownBy w2 (some b)

theorem GMap.at (h : GMap P w k base e b n F) (K : Keyed P k) (ht : P.underlying t = some (.map k E)) (hz : (zeroValue E).run P w = .ok (.slice none 0 0) w) (hn : n < maxLen) (hkey : keyOf P k (.int .i64 s) = some (.int .i64 s)) :
    ∃ v, (Instr.lookup t (.map (some b)) (.int .i64 s) false).run P w = .ok v w ∧ w.ownsInts base e .i64 v (F s) ∧ (F s).length ≤ n ∧ GBack P w t k base e b n F s v := by
  obtain ⟨D, h1, h2⟩ := h
  obtain ⟨v, zs, hr, ha, ho, hl, hb⟩ := h1.at K ht hz hn hkey
  rw [h2] at ha
  obtain rfl := groupDatum_inj ho ha
  refine ⟨v, hr, ho, hl, fun w1 v' x hg ho' hloc => ?_⟩
  obtain ⟨w2, q1, q2, q3⟩ := hb w1 v' _ hg ho' (by simp; omega) hloc
  refine ⟨w2, q1, ⟨_, q2, fun r => ?_⟩, q3⟩
  have hD : IsMap D := by obtain ⟨_, _, _, _, _, rfl, _⟩ := h1; exact ⟨_, rfl⟩
  rw [ho'.datum_pos (by simp)]
  by_cases hr' : r = s
  · subst hr'
    rw [atKey_put_same hD (show WideAt.IsKeyLit (.int .i64 r) from trivial)]
    simp [groupDatum]
  · rw [atKey_put_other (by simpa using hr'), h2]
    simp [hr']

section
variable {ops : Array Oper} {rest : List Oper} {o : Oper} {a : Act} {Q : Exit → Act → World → Prop} {K : Act → World → Prop}
theorem act_lookup (m x : Operand) (hop : o.op = Op.lookup t m x false) (Kd : Keyed P k) (ht : P.underlying t = some (.map k E)) (hz : (zeroValue E).run P w = .ok (.slice none 0 0) w) (hm : a.eval m = .map (some b)) (h : GMap P w k base e b n F) (hn : n < maxLen)
    (hx : a.eval x = .int .i64 s) (hkey : keyOf P k (.int .i64 s) = some (.int .i64 s)) (hK : ∀ v, w.ownsInts base e .i64 v (F s) → (F s).length ≤ n → GBack P w t k base e b n F s v → K (a.put o.dst v) w) : o.wp P a w K Q := by
  obtain ⟨v, hrun, ho, hl, hb⟩ := h.at Kd ht hz hn hkey
  unfold Oper.wp
  simp [execOp, hop, hm, hx, hrun, Result.andThen]
  exact hK v ho hl hb
theorem act_store (m x v : Operand) (hop : o.op = Op.mapUpdate t m x v) {w0 : World} {u v' : Value} {z : Int} (hback : GBack P w0 t k base e b n F s u) (hm : a.eval m = .map (some b)) (hx : a.eval x = .int .i64 s) (hv : a.eval v = v')
    (hgr : w0.grownBy w u.ownBlock) (hown' : w.ownsInts base e .i64 v' (F s ++ [z])) (hloc : v'.ownBlock = u.ownBlock ∨ ∃ g, v'.ownBlock = some g ∧ w0.heap.size ≤ g)
    (hK : ∀ w2, GMap P w2 k base e b (n + 1) (fun r => if r = s then F s ++ [z] else F r) → w.grownBy w2 (some b) → K (a.put o.dst undef) w2) : o.wp P a w K Q := by
  obtain ⟨w2, hrun, r1, r2⟩ := hback w v' z hgr hown' hloc
  unfold Oper.wp
  simp [execOp, hop, hm, hx, hv, hrun, Result.andThen]
  exact hK w2 r1 r2
theorem act_append_at (s x : Operand) (t : TypeId)
    (ho : o.op = .call { callee := .builtin .append, args := #[s, x], argTypes := #[t, t] })
    (base : Nat) (e : TypeId) (i : TypeInfo) (z : Value) (size bytes : Nat) (ht : P.underlying t = some (.slice e)) (hi : P.info? e = some i) (hz : i.zero = some z)
    (hsize : i.size = size) (hby : i.bytes = bytes) (hzs : z.cells.size = size) (hsz : 0 < size)
    (v : Value) (n : Nat) (xs : List Value) (hs : a.eval s = v) (hown : w.ownsRow base e size v n xs)
    (ad : Addr) (m c : Nat) (news : List Value) (hx : a.eval x = .slice (some ad) m c) (hl : news.length = m * size) (hnews : ∀ j u, news[j]? = some u → w.cell? (ad.add j) = some u) (h1 : ∀ u ∈ news, u.oneCell' = true)
    (h63 : n + m ≤ maxLen) (hbytes : (n + m) * bytes ≤ 140737488355328) (hbase : base ≤ w.heap.size)
    (h : ∀ v' w', w'.ownsRow base e size v' (n + m) (xs ++ news) → w.grownBy w' v.ownBlock → (v' = .slice none 0 0 ↔ v = .slice none 0 0 ∧ m = 0) → (v'.ownBlock = v.ownBlock ∨ v'.ownBlock = some w.heap.size) → K (a.put o.dst v') w') : o.wp P a w K Q := by
  obtain ⟨v', w', hr, h2, h3, h4, h5⟩ := run_append_own_at (P := P) w base t o.type e i z size bytes ht hi hz hsize hby hzs hsz v n xs hown ad m c news hl hnews h1 h63 hbytes hbase
  unfold Oper.wp execOp
  simp only [ho, resolve, invoke, builtin, Sem.run_bind, Sem.run_pure, Result.andThen_ok, List.map_toArray, List.map_cons, List.map_nil, hs, hx, hr]
  exact h v' w' h2 h3 h4 h5

theorem anyL_two {md : Region.Mode} {S : World → Prop} {last i j f : Nat} {oi oj : Oper} {listed : Array Bool} (hr : Region.ready md ops listed = [i, j]) (hi : ops[i]? = some oi) (hj : ops[j]? = some oj) (hgi : oi.guard = none) (hgj : oj.guard = none)
    (h1 : ∀ K : Act → World → Prop, Hid (∀ a' w', (i ≠ last → S w') → anyL P md ops Q S last f (listed.setIfInBounds i true) a' w' → K a' w') → oi.wp P a w K Q)
    (h2 : ∀ K : Act → World → Prop, Hid (∀ a' w', (j ≠ last → S w') → anyL P md ops Q S last f (listed.setIfInBounds j true) a' w' → K a' w') → oj.wp P a w K Q) : anyL P md ops Q S last (f + 1) listed a w := by
  refine ⟨fun h0 => (by rw [hr] at h0; cases h0), fun q hq => ?_⟩
  rw [hr] at hq
  simp only [List.mem_cons, List.not_mem_nil, or_false] at hq
  unfold wpOp
  rcases hq with rfl | rfl
  · simp only [hi]
    rw [if_pos (by simp [Region.wanted, hgi])]
    exact .inl (h1 _ (fun a' w' q1 q2 => ⟨q1, q2⟩))
  · simp only [hj]
    rw [if_pos (by simp [Region.wanted, hgj])]
    exact .inl (h2 _ (fun a' w' q1 q2 => ⟨q1, q2⟩))
end

/-- the worlds in which some blocks stand as they stood. -/
theorem held_class (w : World) (p : Nat → Prop) : ∃ (ι : Type) (W : ι → World), (∃ i, W i = w) ∧ (∀ i g, p g → (W i).heap[g]? = w.heap[g]?) ∧ ∀ w', (∀ g, p g → w'.heap[g]? = w.heap[g]?) → ∃ j, w' = W j :=
  ⟨{ w' : World // ∀ g, p g → w'.heap[g]? = w.heap[g]? }, fun i => i.1, ⟨⟨w, fun _ _ => rfl⟩, rfl⟩, fun i => i.2, fun w' h => ⟨⟨w', h⟩, rfl⟩⟩
end Go.Um
namespace Go.Um

/-- a number more, at its place, unless it is there. -/
def putF (x : Int) : List Int → List Int
  | [] => [x]
  | y :: r => if y < x then y :: putF x r else if y = x then y :: r else x :: y :: r
def Rising (l : List Int) : Prop := l.Pairwise (· < ·)
theorem mem_putF {x y : Int} {l : List Int} : y ∈ putF x l ↔ y = x ∨ y ∈ l := by
  induction l with
  | nil => simp [putF]
  | cons z r ih =>
    unfold putF
    split
    · simp only [List.mem_cons, ih]; constructor <;> (rintro (h | h | h) <;> simp [h])
    · split
      · rename_i h; subst h; simp
      · simp
theorem putF_rising {x : Int} {l : List Int} (h : Rising l) : Rising (putF x l) := by
  induction l with
  | nil => simp [putF, Rising]
  | cons z r ih =>
    obtain ⟨h1, h2⟩ := List.pairwise_cons.1 h
    unfold putF
    split
    · rename_i hz
      refine List.pairwise_cons.2 ⟨fun y hy => ?_, ih h2⟩
      rcases mem_putF.1 hy with rfl | hy
      · exact hz
      · exact h1 y hy
    · split
      · exact h
      · rename_i hz hn
        refine List.pairwise_cons.2 ⟨fun y hy => ?_, h⟩
        rcases List.mem_cons.1 hy with rfl | hy
        · omega
        · have := h1 y hy; omega

def bordS (l : List Int) (s : Span) : List Int :=
  let l1 := if -1073741824 < s.lo ∧ s.lo ≤ 1073741824 then putF s.lo l else l
  if -1073741824 ≤ s.hi ∧ s.hi < 1073741824 then putF (s.hi + 1) l1 else l1
def bordersF (a b : List Span) : List Int := b.foldl bordS (a.foldl bordS [-1073741824])

/-- segments from border to border. -/
def segsF (f : Int → Bool) : List Int → List Span
  | [] => []
  | x :: r => let to := match r with | [] => 1073741824 | y :: _ => y - 1
    if f x then ⟨x, to⟩ :: segsF f r else segsF f r
def makeF (f : Int → Bool) (l : List Int) : List Span := joinL [] (segsF f l)

/-- within borders all are alike. -/
def Alike (f : Int → Bool) : List Int → Prop
  | [] => True
  | x :: r => (∀ z, x ≤ z → (match r with | [] => z ≤ 1073741824 | y :: _ => z < y) → f z = f x) ∧ Alike f r

theorem segs_lo {f : Int → Bool} {l : List Int} (h : Rising l) {m : Int} (hm : ∀ x ∈ l, m ≤ x) : ∀ s ∈ segsF f l, m ≤ s.lo := by
  induction l with
  | nil => simp [segsF]
  | cons x r ih =>
    obtain ⟨h1, h2⟩ := List.pairwise_cons.1 h
    intro s hs
    have hr := ih h2 (fun y hy => hm y (List.mem_cons_of_mem _ hy)) s
    unfold segsF at hs
    simp only at hs
    split at hs
    · rcases List.mem_cons.1 hs with rfl | hs
      · exact hm x (List.mem_cons_self ..)
      · exact hr hs
    · exact hr hs
theorem segs_sorted {f : Int → Bool} {l : List Int} (h : Rising l) : SortedLo (segsF f l) := by
  induction l with
  | nil => simp [segsF, SortedLo]
  | cons x r ih =>
    obtain ⟨h1, h2⟩ := List.pairwise_cons.1 h
    unfold segsF
    simp only
    split
    · exact List.pairwise_cons.2 ⟨fun s hs => segs_lo h2 (fun y hy => Int.le_of_lt (h1 y hy)) s hs, ih h2⟩
    · exact ih h2
theorem segs_ok {f : Int → Bool} {l : List Int} (h : Rising l) (hb : ∀ x ∈ l, -1073741824 ≤ x ∧ x ≤ 1073741824) : ∀ s ∈ segsF f l, okS s := by
  induction l with
  | nil => simp [segsF]
  | cons x r ih =>
    obtain ⟨h1, h2⟩ := List.pairwise_cons.1 h
    have hx := hb x (List.mem_cons_self ..)
    intro s hs
    unfold segsF at hs
    simp only at hs
    split at hs
    · rcases List.mem_cons.1 hs with rfl | hs
      · cases r with
        | nil => exact ⟨hx.2, hx.1, by show (1073741824 : Int) ≤ 1073741824; decide⟩
        | cons y r =>
          have := h1 y (List.mem_cons_self ..)
          have hy := hb y (List.mem_cons_of_mem _ (List.mem_cons_self ..))
          exact ⟨by show x ≤ y - 1; omega, hx.1, by show y - 1 ≤ _; omega⟩
      · exact ih h2 (fun y hy => hb y (List.mem_cons_of_mem _ hy)) s hs
    · exact ih h2 (fun y hy => hb y (List.mem_cons_of_mem _ hy)) s hs
theorem mem_segs {f : Int → Bool} {l : List Int} (h : Rising l) (hb : ∀ x ∈ l, x ≤ 1073741824) (ha : Alike f l) {z : Int} : mem (segsF f l) z ↔ (∃ x, l.head? = some x ∧ x ≤ z) ∧ z ≤ 1073741824 ∧ f z = true := by
  induction l with
  | nil => simp [segsF, mem]
  | cons x r ih =>
    obtain ⟨h1, h2⟩ := List.pairwise_cons.1 h
    obtain ⟨a1, a2⟩ := ha
    have hi := ih h2 (fun y hy => hb y (List.mem_cons_of_mem _ hy)) a2
    have hx := hb x (List.mem_cons_self ..)
    cases r with
    | nil =>
      simp only at a1
      unfold segsF
      simp only
      by_cases hf : f x = true
      · rw [if_pos hf]
        simp only [mem_cons, segsF, List.head?_cons, Option.some.injEq, exists_eq_left']
        constructor
        · rintro (⟨q1, q2⟩ | q)
          · exact ⟨q1, q2, by rw [a1 z q1 q2]; exact hf⟩
          · exact absurd q mem_nil
        · rintro ⟨q1, q2, _⟩
          exact .inl ⟨q1, q2⟩
      · rw [if_neg hf]
        simp only [segsF, List.head?_cons, Option.some.injEq, exists_eq_left']
        constructor
        · intro q; exact absurd q mem_nil
        · rintro ⟨q1, q2, q3⟩
          rw [a1 z q1 q2] at q3
          exact absurd q3 hf
    | cons y r =>
      have hxy := h1 y (List.mem_cons_self ..)
      have hy := hb y (List.mem_cons_of_mem _ (List.mem_cons_self ..))
      simp only [List.head?_cons, Option.some.injEq, exists_eq_left'] at hi ⊢
      simp only at a1
      unfold segsF
      simp only
      by_cases hf : f x = true
      · rw [if_pos hf, mem_cons, hi]
        simp only
        constructor
        · rintro (⟨q1, q2⟩ | ⟨q1, q2, q3⟩)
          · exact ⟨q1, by omega, by rw [a1 z q1 (by omega)]; exact hf⟩
          · exact ⟨by omega, q2, q3⟩
        · rintro ⟨q1, q2, q3⟩
          rcases Int.lt_or_le z y with q | q
          · exact .inl ⟨q1, by omega⟩
          · exact .inr ⟨q, q2, q3⟩
      · rw [if_neg hf, hi]
        constructor
        · rintro ⟨q1, q2, q3⟩; exact ⟨by omega, q2, q3⟩
        · rintro ⟨q1, q2, q3⟩
          rcases Int.lt_or_le z y with q | q
          · rw [a1 z q1 q] at q3; exact absurd q3 hf
          · exact ⟨q, q2, q3⟩
theorem makeF_spec {f : Int → Bool} {r : List Int} (h : Rising (-1073741824 :: r)) (hb : ∀ x ∈ r, x ≤ 1073741824) (ha : Alike f (-1073741824 :: r)) :
    plain (makeF f (-1073741824 :: r)) = true ∧ ∀ z, mem (makeF f (-1073741824 :: r)) z ↔ (-1073741824 ≤ z ∧ z ≤ 1073741824) ∧ f z = true := by
  have hb' : ∀ x ∈ (-1073741824 :: r), -1073741824 ≤ x ∧ x ≤ 1073741824 := fun x hx => by
    rcases List.mem_cons.1 hx with rfl | hx
    · decide
    · have := (List.pairwise_cons.1 h).1 x hx
      exact ⟨by omega, hb x hx⟩
  have hj := joinL_spec (out := []) (r := segsF f (-1073741824 :: r)) rfl (segs_ok h hb') (segs_sorted h) (by simp)
  refine ⟨hj.1, fun z => ?_⟩
  have h2 := hj.2 z
  rw [makeF, h2, mem_segs h (fun x hx => (hb' x hx).2) ha]
  simp [mem]
  constructor
  · rintro ⟨q1, q2, q3⟩; exact ⟨⟨q1, q2⟩, q3⟩
  · rintro ⟨⟨q1, q2⟩, q3⟩; exact ⟨q1, q2, q3⟩

theorem bordS_rising {l : List Int} (h : Rising l) (s : Span) : Rising (bordS l s) := by
  unfold bordS
  simp only
  split <;> split <;> first | exact putF_rising (putF_rising h) | exact putF_rising h | exact h
theorem mem_bordS {l : List Int} {s : Span} {x : Int} : x ∈ bordS l s ↔ x ∈ l ∨ (x = s.lo ∧ -1073741824 < s.lo ∧ s.lo ≤ 1073741824) ∨ (x = s.hi + 1 ∧ -1073741824 ≤ s.hi ∧ s.hi < 1073741824) := by
  by_cases h1 : -1073741824 < s.lo ∧ s.lo ≤ 1073741824 <;> by_cases h2 : -1073741824 ≤ s.hi ∧ s.hi < 1073741824
  · have e : bordS l s = putF (s.hi + 1) (putF s.lo l) := by
      show (if -1073741824 ≤ s.hi ∧ s.hi < 1073741824 then putF (s.hi + 1) (if -1073741824 < s.lo ∧ s.lo ≤ 1073741824 then putF s.lo l else l) else (if -1073741824 < s.lo ∧ s.lo ≤ 1073741824 then putF s.lo l else l)) = _
      rw [if_pos h2, if_pos h1]
    rw [e]
    rw [mem_putF, mem_putF]
    constructor
    · rintro (h | h | h)
      · exact .inr (.inr ⟨h, h2⟩)
      · exact .inr (.inl ⟨h, h1⟩)
      · exact .inl h
    · rintro (h | ⟨h, _⟩ | ⟨h, _⟩)
      · exact .inr (.inr h)
      · exact .inr (.inl h)
      · exact .inl h
  · have e : bordS l s = putF s.lo l := by
      show (if -1073741824 ≤ s.hi ∧ s.hi < 1073741824 then putF (s.hi + 1) (if -1073741824 < s.lo ∧ s.lo ≤ 1073741824 then putF s.lo l else l) else (if -1073741824 < s.lo ∧ s.lo ≤ 1073741824 then putF s.lo l else l)) = _
      rw [if_neg h2, if_pos h1]
    rw [e]
    rw [mem_putF]
    constructor
    · rintro (h | h)
      · exact .inr (.inl ⟨h, h1⟩)
      · exact .inl h
    · rintro (h | ⟨h, _⟩ | ⟨_, h⟩)
      · exact .inr h
      · exact .inl h
      · exact absurd h h2
  · have e : bordS l s = putF (s.hi + 1) (l) := by
      show (if -1073741824 ≤ s.hi ∧ s.hi < 1073741824 then putF (s.hi + 1) (if -1073741824 < s.lo ∧ s.lo ≤ 1073741824 then putF s.lo l else l) else (if -1073741824 < s.lo ∧ s.lo ≤ 1073741824 then putF s.lo l else l)) = _
      rw [if_pos h2, if_neg h1]
    rw [e]
    rw [mem_putF]
    constructor
    · rintro (h | h)
      · exact .inr (.inr ⟨h, h2⟩)
      · exact .inl h
    · rintro (h | ⟨_, h⟩ | ⟨h, _⟩)
      · exact .inr h
      · exact absurd h h1
      · exact .inl h
  · have e : bordS l s = l := by
      show (if -1073741824 ≤ s.hi ∧ s.hi < 1073741824 then putF (s.hi + 1) (if -1073741824 < s.lo ∧ s.lo ≤ 1073741824 then putF s.lo l else l) else (if -1073741824 < s.lo ∧ s.lo ≤ 1073741824 then putF s.lo l else l)) = _
      rw [if_neg h2, if_neg h1]
    rw [e]
    constructor
    · exact fun h => .inl h
    · rintro (h | ⟨_, h⟩ | ⟨_, h⟩)
      · exact h
      · exact absurd h h1
      · exact absurd h h2
theorem fold_bordS {a : List Span} : ∀ {l : List Int}, Rising l → Rising (a.foldl bordS l) ∧ ∀ x, x ∈ a.foldl bordS l ↔ x ∈ l ∨ ∃ s ∈ a, (x = s.lo ∧ -1073741824 < s.lo ∧ s.lo ≤ 1073741824) ∨ (x = s.hi + 1 ∧ -1073741824 ≤ s.hi ∧ s.hi < 1073741824) := by
  induction a with
  | nil => intro l h; exact ⟨h, by simp⟩
  | cons s r ih =>
    intro l h
    obtain ⟨h1, h2⟩ := ih (bordS_rising h s)
    refine ⟨h1, fun x => ?_⟩
    rw [List.foldl_cons, h2, mem_bordS]
    simp only [List.mem_cons, exists_eq_or_imp, or_assoc]
theorem borders_spec (a b : List Span) : Rising (bordersF a b) ∧ ∀ x, x ∈ bordersF a b ↔ x = -1073741824 ∨ ∃ s, (s ∈ a ∨ s ∈ b) ∧ ((x = s.lo ∧ -1073741824 < s.lo ∧ s.lo ≤ 1073741824) ∨ (x = s.hi + 1 ∧ -1073741824 ≤ s.hi ∧ s.hi < 1073741824)) := by
  obtain ⟨h1, h2⟩ := fold_bordS (a := a) (l := [-1073741824]) (by simp [Rising])
  obtain ⟨h3, h4⟩ := fold_bordS (a := b) h1
  refine ⟨h3, fun x => ?_⟩
  unfold bordersF
  rw [h4, h2]
  constructor
  · rintro ((h | ⟨s, hs, h⟩) | ⟨s, hs, h⟩)
    · exact .inl (by simpa using h)
    · exact .inr ⟨s, .inl hs, h⟩
    · exact .inr ⟨s, .inr hs, h⟩
  · rintro (h | ⟨s, hs | hs, h⟩)
    · exact .inl (.inl (by simpa using h))
    · exact .inl (.inr ⟨s, hs, h⟩)
    · exact .inr ⟨s, hs, h⟩
theorem borders_cons (a b : List Span) : ∃ r, bordersF a b = -1073741824 :: r ∧ ∀ x ∈ r, x ≤ 1073741824 := by
  obtain ⟨h1, h2⟩ := borders_spec a b
  have hb : ∀ x ∈ bordersF a b, -1073741824 ≤ x ∧ x ≤ 1073741824 := fun x hx => by
    rcases (h2 x).1 hx with rfl | ⟨s, _, ⟨rfl, q⟩ | ⟨rfl, q⟩⟩ <;> omega
  have hm := (h2 (-1073741824)).2 (.inl rfl)
  cases hl : bordersF a b with
  | nil => rw [hl] at hm; cases hm
  | cons x r =>
    rw [hl] at h1 hb hm
    refine ⟨r, ?_, fun y hy => (hb y (List.mem_cons_of_mem _ hy)).2⟩
    have h3 := (List.pairwise_cons.1 h1).1
    rcases List.mem_cons.1 hm with h4 | h4
    · rw [← h4]
    · have := h3 _ h4
      have := (hb x (List.mem_cons_self ..)).1
      omega
theorem alike_of {f : Int → Bool} {L : List Int} (hL : Rising L) (hb : ∀ x ∈ L, x ≤ 1073741824) (hf : ∀ x z, x ∈ L → x ≤ z → z ≤ 1073741824 → (∀ c ∈ L, ¬ (x < c ∧ c ≤ z)) → f z = f x) :
    ∀ (l p : List Int), L = p ++ l → Alike f l := by
  intro l
  induction l with
  | nil => exact fun _ _ => trivial
  | cons x r ih =>
    intro p hp
    refine ⟨fun z hxz hz => ?_, ih (p ++ [x]) (by simp [hp])⟩
    have hL' := hL
    rw [hp] at hL'
    obtain ⟨_, h2, h3⟩ := List.pairwise_append.1 hL'
    obtain ⟨h4, h5⟩ := List.pairwise_cons.1 h2
    have hxm : x ∈ L := by rw [hp]; simp
    have hz' : z ≤ 1073741824 := by
      cases r with
      | nil => exact hz
      | cons y r => have : z < y := hz; have := hb y (by rw [hp]; simp); omega
    refine hf x z hxm hxz hz' (fun c hc hcc => ?_)
    rw [hp] at hc
    rcases List.mem_append.1 hc with hc | hc
    · have := h3 c hc x (List.mem_cons_self ..)
      omega
    · rcases List.mem_cons.1 hc with rfl | hc
      · omega
      · cases r with
        | nil => cases hc
        | cons y r =>
          have : z < y := hz
          rcases List.mem_cons.1 hc with rfl | hc
          · omega
          · have := (List.pairwise_cons.1 h5).1 c hc
            omega
def hasF (s : List Span) (x : Int) : Bool := s.any fun t => decide (t.lo ≤ x) && decide (x ≤ t.hi) && decide (-1073741824 ≤ x) && decide (x ≤ 1073741824)
theorem hasF_iff {s : List Span} {x : Int} : hasF s x = true ↔ inSet s x := by
  simp only [hasF, inSet, mem, List.any_eq_true, Bool.and_eq_true, decide_eq_true_eq]
  constructor
  · rintro ⟨t, h1, ⟨⟨h2, h3⟩, h4⟩, h5⟩
    exact ⟨⟨h4, h5⟩, t, h1, h2, h3⟩
  · rintro ⟨⟨h4, h5⟩, t, h1, h2, h3⟩
    exact ⟨t, h1, ⟨⟨h2, h3⟩, h4⟩, h5⟩
theorem hasF_alike {s a b : List Span} (hs : ∀ t ∈ s, t ∈ a ∨ t ∈ b) {x z : Int} (hx : -1073741824 ≤ x) (hxz : x ≤ z) (hz : z ≤ 1073741824) (hc : ∀ c ∈ bordersF a b, ¬ (x < c ∧ c ≤ z)) : hasF s z = hasF s x := by
  obtain ⟨_, h2⟩ := borders_spec a b
  rw [Bool.eq_iff_iff, hasF_iff, hasF_iff]
  constructor
  · rintro ⟨_, t, ht, q1, q2⟩
    refine ⟨by omega, t, ht, ?_, by omega⟩
    rcases Int.lt_or_le x t.lo with h | h
    · exact absurd ⟨h, q1⟩ (hc t.lo ((h2 _).2 (.inr ⟨t, hs t ht, .inl ⟨rfl, by omega, by omega⟩⟩)))
    · exact h
  · rintro ⟨_, t, ht, q1, q2⟩
    refine ⟨by omega, t, ht, by omega, ?_⟩
    rcases Int.lt_or_le t.hi z with h | h
    · exact absurd ⟨by omega, by omega⟩ (hc (t.hi + 1) ((h2 _).2 (.inr ⟨t, hs t ht, .inr ⟨rfl, by omega, by omega⟩⟩)))
    · exact h
/-- what Make makes, by what holds of the two answers. -/
def refMake (g : Bool → Bool → Bool) (a b : List Span) : List Span := makeF (fun z => g (hasF a z) (hasF b z)) (bordersF a b)
theorem refMake_spec (g : Bool → Bool → Bool) (a b : List Span) : plain (refMake g a b) = true ∧ ∀ z, mem (refMake g a b) z ↔ (-1073741824 ≤ z ∧ z ≤ 1073741824) ∧ g (hasF a z) (hasF b z) = true := by
  obtain ⟨h1, h2⟩ := borders_spec a b
  obtain ⟨r, hr, hb⟩ := borders_cons a b
  have hx : ∀ x ∈ bordersF a b, -1073741824 ≤ x ∧ x ≤ 1073741824 := fun x hx => by
    rcases (h2 x).1 hx with rfl | ⟨s, _, ⟨rfl, q⟩ | ⟨rfl, q⟩⟩ <;> omega
  have ha : Alike (fun z => g (hasF a z) (hasF b z)) (bordersF a b) := alike_of h1 (fun x h => (hx x h).2) (fun x z hm hxz hz hc => by
    show g (hasF a z) (hasF b z) = g (hasF a x) (hasF b x)
    rw [hasF_alike (s := a) (fun t h => .inl h) (hx x hm).1 hxz hz hc, hasF_alike (s := b) (fun t h => .inr h) (hx x hm).1 hxz hz hc]) (bordersF a b) [] rfl
  unfold refMake
  rw [hr] at h1 ha ⊢
  exact makeF_spec h1 hb ha
theorem refMake_meet (a b : List Span) : refMake (fun x y => x && y) a b = meetF a b := by
  obtain ⟨h1, h2⟩ := refMake_spec (fun x y => x && y) a b
  refine plain_unique h1 (meetF_plain a b) (fun z => ?_)
  rw [h2, mem_meetF, Bool.and_eq_true, hasF_iff, hasF_iff]
  constructor
  · exact fun h => h.2
  · exact fun h => ⟨h.1.1, h⟩
theorem refMake_less (a b : List Span) : refMake (fun x y => x && !y) a b = minusF a b := by
  obtain ⟨h1, h2⟩ := refMake_spec (fun x y => x && !y) a b
  refine plain_unique h1 (minusF_plain a b) (fun z => ?_)
  rw [h2, mem_minusF]
  simp only [Bool.and_eq_true, Bool.not_eq_true', hasF_iff, ← Bool.not_eq_true]
  constructor
  · exact fun h => h.2
  · exact fun h => ⟨h.1.1, h⟩
theorem refMake_norm (a : List Span) : refMake (fun x y => x || y) a [] = normF a := by
  obtain ⟨h1, h2⟩ := refMake_spec (fun x y => x || y) a []
  refine plain_unique h1 (normF_plain a) (fun z => ?_)
  rw [h2, mem_normF, Bool.or_eq_true, hasF_iff]
  simp only [hasF, List.any_nil, Bool.false_eq_true, or_false]
  exact ⟨fun h => h.2, fun h => ⟨h.1, h⟩⟩
end Go.Um
namespace Go.Um
open Go.RowKit

def QAt (w : World) (base : Nat) (v : Value) (xs : List Int) : Prop :=
  ∃ ao g off cap, v = .slice ao xs.length cap ∧ Came w 1 ao g off xs.length cap (xs.map (Value.int .i64)) ∧ cap ≤ maxLen ∧ (0 < cap → base ≤ g)
theorem QAt.nil (w : World) (base : Nat) : QAt w base (.slice none 0 0) [] :=
  ⟨none, 0, 0, 0, rfl, ⟨Nat.le_refl _, fun h => absurd h (by omega), fun h => absurd h (by omega), rfl, by simp, by simp⟩, by simp [maxLen], by omega⟩
theorem QAt.carry {w w' : World} {base : Nat} {v : Value} {xs : List Int} (h : QAt w base v xs) (hs : w.heap.size ≤ w'.heap.size) (hb : ∀ g, base ≤ g → g < w.heap.size → w'.heap[g]? = w.heap[g]?) : QAt w' base v xs := by
  obtain ⟨ao, g, off, cap, rfl, hc, hm, hg⟩ := h
  have hw : 0 < cap → w'.heap[g]? = w.heap[g]? := fun h0 => hb g (hg h0) (hc.lt h0)
  refine ⟨ao, g, off, cap, rfl, ⟨hc.le, hc.addr, fun h0 => Nat.lt_of_lt_of_le (hc.lt h0) hs, hc.oldsLen, fun j u hu => ?_, fun j hj => ?_⟩, hm, hg⟩
  · have h0 : 0 < cap := by have := (List.getElem?_eq_some_iff.1 hu).1; simp at this; have := hc.le; omega
    rw [World.cell?_of_block (a := ⟨g, off + j, none⟩) (hw h0)]
    exact hc.olds j u hu
  · have h0 : 0 < cap := by omega
    rw [World.cell?_of_block (a := ⟨g, off + xs.length * 1 + j, none⟩) (hw h0), World.frozen?_of_block (a := ⟨g, off + xs.length * 1 + j, none⟩) (hw h0)]
    exact hc.spare j hj
theorem QAt.front {w : World} {base : Nat} {v : Value} {x : Int} {xs : List Int} (h : QAt w base v (x :: xs)) : ∃ g off cap, v = .slice (some ⟨g, off, none⟩) (xs.length + 1) cap ∧ xs.length + 1 ≤ cap ∧ cap ≤ maxLen ∧ w.cell? ⟨g, off, none⟩ = some (.int .i64 x) ∧
    QAt w base (.slice (if cap = 1 then some ⟨g, off, none⟩ else some ⟨g, off + 1, none⟩) xs.length (cap - 1)) xs := by
  obtain ⟨ao, g, off, cap, rfl, hc, hm, hg⟩ := h
  have h1 := hc.le
  simp only [List.length_cons] at h1 hc ⊢
  have h0 : 0 < cap := by omega
  have ha := hc.addr h0
  subst ha
  refine ⟨g, off, cap, rfl, h1, hm, by simpa using hc.olds 0 _ rfl, ?_⟩
  refine ⟨_, g, off + 1, cap - 1, rfl, ⟨by omega, fun h2 => ?_, fun _ => hc.lt h0, by simp, fun j u hu => ?_, fun j hj => ?_⟩, by omega, fun _ => hg h0⟩
  · rw [if_neg (by omega)]
  · have := hc.olds (j + 1) u (by simpa using hu)
    rwa [show off + (j + 1) = off + 1 + j by omega] at this
  · have := hc.spare j (by omega)
    rwa [show off + (xs.length + 1) * 1 + j = off + 1 + xs.length * 1 + j by omega] at this
theorem QAt.len {w : World} {base : Nat} {v : Value} {xs : List Int} (h : QAt w base v xs) : ∃ A c, v = .slice A xs.length c ∧ xs.length ≤ c ∧ c ≤ maxLen := by
  obtain ⟨ao, g, off, cap, rfl, hc, hm, hg⟩ := h
  exact ⟨_, _, rfl, hc.le, hm⟩
theorem QAt.own {w : World} {base : Nat} {e : TypeId} {v : Value} {xs : List Int} (h : w.ownsRow base e 1 v xs.length (xs.map (Value.int .i64))) : QAt w base v xs := by
  have hlt := h.lt
  rcases h.2 with ⟨rfl, h0⟩ | ⟨g, cap, cur, rfl, hb, hh, hn, hc, hsz, htk⟩
  · have : xs = [] := List.eq_nil_of_length_eq_zero (by omega)
    subst this
    exact QAt.nil w base
  · refine ⟨_, g, 0, cap, rfl, ⟨hn, fun _ => rfl, fun _ => (hlt g rfl).2, by simp, fun j u hu => ?_, fun j hj => ?_⟩, hc, fun _ => hb⟩
    · rw [show 0 + j = j by omega, cell_of_row _ _ j _ _ _ hh]
      have hj : j < xs.length := by have := (List.getElem?_eq_some_iff.1 hu).1; simpa using this
      rw [← htk, List.getElem?_take_of_lt (by simpa using hj)] at hu
      simpa using hu
    · refine ⟨?_, frozen_of_row _ _ _ _ _ hh⟩
      rw [cell_of_row _ _ _ _ _ _ hh]
      have : xs.length + j < cur.size := by rw [hsz]; omega
      simpa using this
section
variable {P : Program}
theorem run_append_q {w : World} {base : Nat} {v : Value} {xs : List Int} (t ty e : TypeId) (i : TypeInfo) (ht : P.underlying t = some (.slice e)) (hi : P.info? e = some i) (hz : i.zero = some (.int .i64 0)) (hsize : i.size = 1) (hby : i.bytes = 8)
    (h : QAt w base v xs) (hB : base ≤ w.heap.size) (hl : xs.length ≤ 1000000000) (ad : Addr) (c : Nat) (x : Int) (hx : w.cell? ad = some (.int .i64 x)) (ha : ad.spot = none) :
    ∃ v' w', (Builtin.append_ #[t, t] ty #[v, .slice (some ad) 1 c]).run P w = .ok v' w' ∧ QAt w' base v' (xs ++ [x]) ∧ Below base w w' := by
  obtain ⟨ao, g, off, cap, rfl, hc, hm, hg⟩ := h
  have hnews : ∀ (j : Nat) (u : Value), [Value.int .i64 x][j]? = some u → w.cell? (ad.add j) = some u := fun j u hu => by
    cases j with
    | zero => simp at hu; subst hu; obtain ⟨ab, aof, asp⟩ := ad; simp at ha; subst ha; simpa [Addr.add] using hx
    | succ j => simp at hu
  have hsrc : Src P i.size t (.slice (some ad) 1 c) 1 [Value.int .i64 x] w := Src.ofSlice w ht ad 1 c _ (by simp [hsize]) hnews (by simp [Value.oneCell'])
  have hle := hc.le
  by_cases hfit : xs.length + 1 ≤ cap
  · have h0 : 0 < cap := by omega
    have hao := hc.addr h0
    subst hao
    have hsp := hc.spare 0 (by omega)
    simp only [Nat.mul_one, Nat.add_zero] at hsp
    have hrun := run_append_room_src (P := P) w t t ty e i ht hi g off xs.length cap _ 1 _ hsrc hfit (fun j hj => by simp at hj; subst hj; simpa [hsize] using hsp.1) (fun j hj => by simp at hj; subst hj; simpa [hsize] using hsp.2)
    rw [hsize, Nat.mul_one] at hrun
    refine ⟨_, _, hrun, ⟨_, g, off, cap, by simp, ⟨by simpa using hfit, fun _ => rfl, fun _ => ?_, by simp, fun j u hu => ?_, fun j hj => ?_⟩, hm, hg⟩, ?_⟩
    · show g < (w.setCell _ _).heap.size
      simpa using hc.lt h0
    · show (w.setCell ⟨g, off + xs.length, none⟩ _).cell? _ = _
      by_cases hj : j = xs.length
      · subst hj
        simp at hu
        subst hu
        exact World.cell?_setCell_same' _ _ _ hsp.1
      · rw [World.cell?_setCell_other _ ⟨g, off + xs.length, none⟩ ⟨g, off + j, none⟩ _ (fun e => by injection e with _ e2 _; omega)]
        have hj' : j < (xs ++ [x]).length := by have := (List.getElem?_eq_some_iff.1 hu).1; simpa using this
        simp at hj'
        refine hc.olds j u ?_
        rw [List.map_append, List.getElem?_append_left (by simp; omega)] at hu
        exact hu
    · show ((w.setCell ⟨g, off + xs.length, none⟩ _).cell? _).isSome = true ∧ (w.setCell ⟨g, off + xs.length, none⟩ _).frozen? _ = false
      simp only [List.length_append, List.length_singleton] at hj ⊢
      rw [World.cell?_setCell_other _ ⟨g, off + xs.length, none⟩ ⟨g, off + (xs.length + 1) * 1 + j, none⟩ _ (fun e => by injection e with _ e2 _; omega), World.frozen?_setCell]
      have := hc.spare (j + 1) (by omega)
      rwa [show off + xs.length * 1 + (j + 1) = off + (xs.length + 1) * 1 + j by omega] at this
    · show Below base w (w.setCell _ _)
      exact (Below.refl _ _).setCell (hg h0) _
  · have hold : (Builtin.firstCells i.size xs.length (.slice ao xs.length cap)).run P w.drew = .ok (xs.map (Value.int .i64)).toArray w.drew := by
      rcases Nat.eq_zero_or_pos cap with h0 | h0
      · have : xs = [] := List.eq_nil_of_length_eq_zero (by omega)
        subst this
        subst h0
        cases ao with
        | none => exact run_firstCells_none w.drew i.size 0 0 0
        | some b => exact run_firstCells_some w.drew i.size 0 b 0 0 [] (by simp) (by simp)
      · have hao := hc.addr h0
        subst hao
        exact run_firstCells_some w.drew i.size xs.length ⟨g, off, none⟩ xs.length cap _ (by simp [hsize]) (fun j u hu => by rw [Addr.add_lit]; exact hc.olds j u hu)
    have hrun := run_append_grow_src (P := P) w t t ty e i _ ht hi hz ao xs.length cap _ hold _ 1 _ hsrc (by omega) (by omega) (growslice_fits (by omega) (by rw [hby]; omega))
    have hge := grownCap_ge w (xs.length + 1) cap e
    have hcm : grownCap w (xs.length + 1) cap e ≤ maxLen := grownCap_le_maxLen w (xs.length + 1) cap e (by simp [maxLen]; omega)
    refine ⟨_, _, hrun, QAt.own (e := e) ⟨by simp, .inr ⟨w.heap.size, _, _, by simp, hB, heap_alloc_new w.drew _, by simpa using hge, hcm, ?_, ?_⟩⟩, ((Below.refl _ _).drew).alloc hB _⟩
    · simp only [Array.size_append, List.size_toArray, size_zeroCells, List.length_append, List.length_map, List.length_singleton]
      have : (Value.int IntKind.i64 0).cells.size = 1 := rfl
      rw [this]; omega
    · simp only [Array.toList_append, List.map_append, List.map_cons, List.map_nil]
      rw [List.take_append_of_le_length (by simp)]
      rw [List.take_of_length_le (by simp)]
theorem wpList_append_q (w : World) {ops : Array Oper} {rest : List Oper} {o : Oper} {a : Act} {Q : Exit → Act → World → Prop} (hgd : o.guard = none) (s x : Operand) (t : TypeId)
    (ho : o.op = .call { callee := .builtin .append, args := #[s, x], argTypes := #[t, t] }) (e : TypeId) (i : TypeInfo) (ht : P.underlying t = some (.slice e)) (hi : P.info? e = some i) (hz : i.zero = some (.int .i64 0)) (hsize : i.size = 1) (hby : i.bytes = 8)
    {base : Nat} {v : Value} {xs : List Int} (hv : a.eval s = v) (h : QAt w base v xs) (hB : base ≤ w.heap.size) (hl : xs.length ≤ 1000000000) (ad : Addr) (c : Nat) (z : Int) (hxv : a.eval x = .slice (some ad) 1 c) (hx : w.cell? ad = some (.int .i64 z)) (ha : ad.spot = none)
    (hK : ∀ v' w', QAt w' base v' (xs ++ [z]) → Below base w w' → wpList P ops Q rest (a.put o.dst v') w') : wpList P ops Q (o :: rest) a w := by
  refine wpList_plain hgd fun K hK' => ?_
  obtain ⟨v', w', hrun, h1, h2⟩ := run_append_q (P := P) t o.type e i ht hi hz hsize hby h hB hl ad c z hx ha
  unfold Oper.wp
  simp [execOp, ho, resolve, invoke, builtin, hv, hxv, hrun, Result.andThen]
  exact hK' _ _ (hK v' w' h1 h2)
end
/-- block G holds n slices, each a row of the call's own from base on, no two in one block; the s-th reads as f s. -/
def OwnRows (w : World) (G base : Nat) (te ts : TypeId) (n : Nat) (f : Nat → List Int) : Prop :=
  ∃ vals : List Value, vals.length = n ∧ w.heap[G]? = some (.cells vals.toArray ts (0, 0)) ∧ (∀ (s : Nat) (v : Value), vals[s]? = some v → w.ownsRow base te 1 v (f s).length ((f s).map (Value.int .i64))) ∧
    ∀ (s s' : Nat) (v v' : Value) (g : Nat), s ≠ s' → vals[s]? = some v → vals[s']? = some v' → v.ownBlock = some g → v'.ownBlock ≠ some g
theorem ownsRow_kept {w w' : World} {base : Nat} {e : TypeId} {size n : Nat} {v : Value} {xs : List Value} (h : w.ownsRow base e size v n xs) (hb : ∀ g, v.ownBlock = some g → w'.heap[g]? = w.heap[g]?) : w'.ownsRow base e size v n xs := by
  refine ⟨h.1, ?_⟩
  rcases h.2 with h2 | ⟨g, cap, cur, rfl, h2, h3, h4⟩
  · exact .inl h2
  · exact .inr ⟨g, cap, cur, rfl, h2, (hb g rfl).trans h3, h4⟩
theorem OwnRows.carry {w w' : World} {G base : Nat} {te ts : TypeId} {n : Nat} {f : Nat → List Int} (h : OwnRows w G base te ts n f) (hG : w'.heap[G]? = w.heap[G]?) (hb : ∀ g, base ≤ g → g < w.heap.size → w'.heap[g]? = w.heap[g]?) : OwnRows w' G base te ts n f := by
  obtain ⟨vals, h1, h2, h3, h4⟩ := h
  exact ⟨vals, h1, hG.trans h2, fun s v hv => ownsRow_kept (h3 s v hv) (fun g hg => hb g ((h3 s v hv).lt g hg).1 ((h3 s v hv).lt g hg).2), h4⟩
theorem OwnRows.at {w : World} {G base : Nat} {te ts : TypeId} {n : Nat} {f : Nat → List Int} (h : OwnRows w G base te ts n f) {s : Nat} (hs : s < n) : ∃ v, w.cell? ⟨G, s, none⟩ = some v ∧ w.frozen? ⟨G, s, none⟩ = false ∧ w.ownsRow base te 1 v (f s).length ((f s).map (Value.int .i64)) ∧
    ∀ (w' : World) (v' : Value) (x : Int), w.grownBy w' v.ownBlock → w'.ownsRow base te 1 v' ((f s).length + 1) ((f s).map (Value.int .i64) ++ [.int .i64 x]) → (v'.ownBlock = v.ownBlock ∨ ∃ g, v'.ownBlock = some g ∧ w.heap.size ≤ g) → G < base →
      OwnRows (w'.setCell ⟨G, s, none⟩ v') G base te ts n (fun r => if r = s then f s ++ [x] else f r) := by
  obtain ⟨vals, h1, h2, h3, h4⟩ := h
  have hv : vals[s]? = some (vals[s]'(by omega)) := List.getElem?_eq_getElem (by omega)
  generalize vals[s]'(by omega) = v at hv
  refine ⟨v, ?_, frozen_of_row _ _ _ _ _ h2, h3 s v hv, fun w' v' x hg ho hloc hGb => ?_⟩
  · rw [cell_of_row _ _ _ _ _ _ h2]; simpa using hv
  · have hGw : G < w.heap.size := (Array.getElem?_eq_some_iff.1 h2).1
    have hne : ∀ g, v.ownBlock = some g → g ≠ G := fun g hg e => by have := ((h3 s v hv).lt g hg).1; omega
    have h2' : w'.heap[G]? = some (.cells vals.toArray ts (0, 0)) := (hg.block G hGw (fun e => hne G e.symm rfl)).trans h2
    have hh := heap_setCell_same w' G s vals.toArray ts v' h2'
    refine ⟨vals.set s v', (by simpa using h1), (by rw [hh]; simp), fun r u hu => ?_, fun r r' u u' g hrr hu hu' hug => ?_⟩
    · by_cases hrs : r = s
      · subst hrs
        rw [List.getElem?_set_self (by omega)] at hu
        cases hu
        have := ownsRow_kept (w' := w'.setCell ⟨G, r, none⟩ v') ho (fun g hg' => heap_setCell_other w' _ g v' (by
          show g ≠ G
          have := (ho.lt g hg').1
          omega))
        simpa using this
      · rw [List.getElem?_set_ne (fun e => hrs e.symm)] at hu
        simp only [if_neg hrs]
        refine ownsRow_kept (h3 r u hu) (fun g hg' => ?_)
        have hl := (h3 r u hu).lt g hg'
        rw [heap_setCell_other w' _ g v' (by show g ≠ G; omega)]
        exact hg.block g hl.2 (fun e => h4 r s u v g hrs hu hv hg' e.symm)
    · have hnew : ∀ q p, q ≠ s → vals[q]? = some p → ∀ b, p.ownBlock = some b → v'.ownBlock ≠ some b := fun q p hq hp b hb e => by
        rcases hloc with h5 | h5
        · exact h4 q s p v b hq hp hv hb (by rw [← h5]; exact e)
        · obtain ⟨b', h6, h7⟩ := h5
          rw [h6] at e
          cases e
          have := ((h3 q p hp).lt _ hb).2
          omega
      by_cases hr : r = s
      · subst hr
        rw [List.getElem?_set_self (by omega)] at hu
        cases hu
        rw [List.getElem?_set_ne hrr] at hu'
        intro e
        exact hnew r' u' (fun e => hrr e.symm) hu' g e hug
      · rw [List.getElem?_set_ne (fun e => hr e.symm)] at hu
        by_cases hr' : r' = s
        · subst hr'
          rw [List.getElem?_set_self (by omega)] at hu'
          cases hu'
          exact hnew r u hr hu g hug
        · rw [List.getElem?_set_ne (fun e => hr' e.symm)] at hu'
          exact h4 r r' u u' g hrr hu hu' hug
end Go.Um
namespace Go.Um

abbrev Edges := List (Int × Int)
/-- a way of so many edges that ends there. -/
def walkE (E : Edges) : Nat → Int → Prop
  | 0, _ => True
  | k + 1, t => ∃ s, (s, t) ∈ E ∧ walkE E k s
/-- is there a way of more edges than there are states? -/
def cycP (E : Edges) (n : Nat) : Prop := ∃ t, walkE E (n + 1) t
def toF (E : Edges) (s : Int) : List Int := (E.filter fun e => e.1 == s).map Prod.snd
/-- how many edges lead to t from what isn't taken away. -/
def inF (E : Edges) (P : List Int) (t : Int) : Nat := (E.filter fun e => e.2 == t && !P.contains e.1).length
def takeT (st : (Int → Int) × List Int) (t : Int) : (Int → Int) × List Int := (fun x => if x = t then st.1 t - 1 else st.1 x, if st.1 t - 1 = 0 then st.2 ++ [t] else st.2)
def kahnGo (E : Edges) : Nat → (Int → Int) → List Int → Nat → Nat
  | 0, _, _, d => d
  | _ + 1, _, [], d => d
  | f + 1, inn, s :: todo, d => kahnGo E f ((toF E s).foldl takeT (inn, todo)).1 ((toF E s).foldl takeT (inn, todo)).2 (d + 1)

theorem inF_pos {E : Edges} {P : List Int} {t : Int} (h : 0 < inF E P t) : ∃ s, (s, t) ∈ E ∧ s ∉ P := by
  unfold inF at h
  obtain ⟨e, he⟩ := List.exists_mem_of_length_pos h
  rw [List.mem_filter] at he
  obtain ⟨h1, h2⟩ := he
  simp only [Bool.and_eq_true, beq_iff_eq, Bool.not_eq_true', List.contains_eq_mem, decide_eq_false_iff_not] at h2
  obtain ⟨a, b⟩ := e
  obtain ⟨rfl, h3⟩ := h2
  exact ⟨a, h1, h3⟩
theorem inF_zero {E : Edges} {P : List Int} {t : Int} (h : inF E P t = 0) {s : Int} (he : (s, t) ∈ E) : s ∈ P := by
  unfold inF at h
  rw [List.length_eq_zero_iff, List.filter_eq_nil_iff] at h
  have := h _ he
  simpa using this
theorem inF_snoc {E : Edges} {P : List Int} {s t : Int} (hs : s ∉ P) : inF E P t = inF E (P ++ [s]) t + (toF E s).count t := by
  unfold inF toF
  induction E with
  | nil => rfl
  | cons e r ih =>
    obtain ⟨a, b⟩ := e
    simp only [List.filter_cons]
    have ih' : (r.filter fun e => e.2 == t && !decide (e.1 ∈ P)).length = (r.filter fun e => e.2 == t && (!decide (e.1 ∈ P) && !decide (e.1 = s))).length + ((r.filter fun e => e.1 == s).map Prod.snd).count t := by simpa using ih
    clear ih
    by_cases h1 : b = t
    · by_cases h2 : a = s
      · subst h1 h2
        simp [hs]
        omega
      · by_cases h3 : a ∈ P
        · simpa [h1, h2, h3] using ih'
        · simp [h1, h2, h3]; omega
    · by_cases h2 : a = s
      · simpa [h1, h2] using ih'
      · simpa [h1, h2] using ih'
/-- what the inner loop does to the counts, and what it puts behind. -/
theorem takeT_fold {ts : List Int} : ∀ {inn : Int → Int} {todo : List Int}, (∀ t, (ts.count t : Int) ≤ inn t) →
    (∀ t, (ts.foldl takeT (inn, todo)).1 t = inn t - ts.count t) ∧ ∃ more, (ts.foldl takeT (inn, todo)).2 = todo ++ more ∧ more.Nodup ∧ ∀ t, t ∈ more ↔ t ∈ ts ∧ inn t - ts.count t = 0 := by
  induction ts with
  | nil => intro inn todo _; exact ⟨fun t => by simp, [], by simp, by simp, by simp⟩
  | cons a r ih =>
    intro inn todo h
    have h' : ∀ t, (r.count t : Int) ≤ (if t = a then inn a - 1 else inn t) := by
      intro t
      have := h t
      rw [List.count_cons] at this
      by_cases ht : t = a
      · subst ht; simp at this ⊢; omega
      · have : ¬ a = t := fun e => ht e.symm
        have := h t
        rw [List.count_cons] at this
        simp [ht] at this ⊢
        omega
    obtain ⟨h1, more, h2, h3, h4⟩ := ih (inn := fun x => if x = a then inn a - 1 else inn x) (todo := if inn a - 1 = 0 then todo ++ [a] else todo) h'
    have hc : ∀ t, ((a :: r).count t : Int) = r.count t + if t = a then 1 else 0 := by
      intro t
      rw [List.count_cons]
      by_cases ht : t = a
      · subst ht; simp
      · have : ¬ a = t := fun e => ht e.symm
        simp [ht, this]
    refine ⟨fun t => ?_, ?_⟩
    · show (r.foldl takeT (takeT (inn, todo) a)).1 t = _
      rw [takeT, h1, hc]
      by_cases ht : t = a
      · subst ht; simp; omega
      · simp [ht]
    · show ∃ more, (r.foldl takeT (takeT (inn, todo) a)).2 = todo ++ more ∧ _
      rw [takeT, h2]
      by_cases hz : inn a - 1 = 0
      · have hra : r.count a = 0 := by have := h a; rw [hc] at this; simp at this; omega
        have har : a ∉ r := by rw [List.count_eq_zero] at hra; exact hra
        refine ⟨a :: more, by simp [hz], ?_, fun t => ?_⟩
        · rw [List.nodup_cons]
          exact ⟨fun hm => har ((h4 a).1 hm).1, h3⟩
        · rw [List.mem_cons, h4, hc, List.mem_cons]
          by_cases ht : t = a
          · subst ht; simp [hra]; omega
          · simp [ht]
      · refine ⟨more, by simp [hz], h3, fun t => ?_⟩
        rw [h4, hc, List.mem_cons]
        by_cases ht : t = a
        · subst ht
          simp only [if_true]
          constructor
          · rintro ⟨h5, h6⟩; exact ⟨by simp, by omega⟩
          · rintro ⟨_, h6⟩
            have : 0 < r.count t := by
              by_cases h7 : r.count t = 0
              · rw [h7] at h6; omega
              · omega
            exact ⟨List.count_pos_iff.1 this, by omega⟩
        · simp [ht]
/-- what holds between two rounds: P is taken away, in its order. -/
structure KahnI (E : Edges) (n : Nat) (P : List Int) (inn : Int → Int) (todo : List Int) : Prop where
  cnt : ∀ t : Int, inn t = inF E P t
  nd : (P ++ todo).Nodup
  rng : ∀ t ∈ P ++ todo, 0 ≤ t ∧ t < n
  zero : ∀ t : Int, 0 ≤ t → t < n → (t ∈ P ++ todo ↔ inn t = 0)
  ord : ∀ (i : Nat) (t s : Int), P[i]? = some t → (s, t) ∈ E → ∃ j : Nat, j < i ∧ P[j]? = some s
theorem KahnI.step {E : Edges} {n : Nat} {P : List Int} {inn : Int → Int} {s : Int} {todo : List Int} (h : KahnI E n P inn (s :: todo)) (hE : ∀ e ∈ E, 0 ≤ e.2 ∧ e.2 < n) :
    KahnI E n (P ++ [s]) ((toF E s).foldl takeT (inn, todo)).1 ((toF E s).foldl takeT (inn, todo)).2 := by
  have hsP : s ∉ P := fun hs => by
    have := (List.nodup_append.1 h.nd).2.2 s hs s (List.mem_cons_self ..)
    exact this rfl
  have hle : ∀ t, ((toF E s).count t : Int) ≤ inn t := fun t => by
    rw [h.cnt, inF_snoc hsP]
    omega
  obtain ⟨h1, more, h2, h3, h4⟩ := takeT_fold (todo := todo) hle
  have hin : ∀ t, ((toF E s).foldl takeT (inn, todo)).1 t = inF E (P ++ [s]) t := fun t => by
    rw [h1, h.cnt, inF_snoc hsP]; omega
  have hmo : ∀ t ∈ more, 0 ≤ t ∧ t < n := fun t ht => by
    have h5 := ((h4 t).1 ht).1
    unfold toF at h5
    obtain ⟨e, he, rfl⟩ := List.mem_map.1 h5
    exact hE e (List.mem_filter.1 he).1
  have hmn : ∀ t ∈ more, inn t ≠ 0 := fun t ht h0 => by
    have h5 := (h4 t).1 ht
    have h6 : 0 < (toF E s).count t := List.count_pos_iff.2 h5.1
    omega
  have hcat : P ++ [s] ++ (todo ++ more) = (P ++ s :: todo) ++ more := by simp
  refine ⟨hin, ?_, ?_, ?_, ?_⟩
  · rw [h2, hcat, List.nodup_append]
    refine ⟨h.nd, h3, fun a ha b hb hab => ?_⟩
    subst hab
    exact hmn a hb ((h.zero a (hmo a hb).1 (hmo a hb).2).1 ha)
  · rw [h2, hcat]
    intro t ht
    rcases List.mem_append.1 ht with ht | ht
    · exact h.rng t ht
    · exact hmo t ht
  · intro t t0 tn
    rw [h2, hcat, List.mem_append, h.zero t t0 tn, h4, h1]
    constructor
    · rintro (h5 | h5)
      · have := hle t; omega
      · exact h5.2
    · intro h5
      by_cases h6 : inn t = 0
      · exact .inl h6
      · right
        refine ⟨?_, h5⟩
        have : 0 < (toF E s).count t := by omega
        exact List.count_pos_iff.1 this
  · intro i t u hi he
    rw [List.getElem?_append] at hi
    split at hi
    · obtain ⟨j, hj, hju⟩ := h.ord i t u hi he
      exact ⟨j, hj, by rw [List.getElem?_append_left (by omega)]; exact hju⟩
    · rename_i hlt
      have hi0 : i - P.length = 0 := by
        by_cases h0 : i - P.length = 0
        · exact h0
        · rw [List.getElem?_eq_none (by simp; omega)] at hi; cases hi
      rw [hi0] at hi
      simp at hi
      subst hi
      have hz : inn s = 0 := (h.zero s (h.rng s (by simp)).1 (h.rng s (by simp)).2).1 (by simp)
      rw [h.cnt] at hz
      have hu : u ∈ P := inF_zero (E := E) (P := P) (t := s) (by omega) he
      obtain ⟨j, hj, hju⟩ := List.mem_iff_getElem.1 hu
      exact ⟨j, by omega, by rw [List.getElem?_append_left hj, List.getElem?_eq_getElem hj, hju]⟩
theorem nodup_le {n : Nat} {l : List Int} (h : l.Nodup) (hr : ∀ t ∈ l, 0 ≤ t ∧ t < n) : l.length ≤ n := by
  have h1 : (l.map Int.toNat).Nodup := by
    rw [List.Nodup, List.pairwise_map]
    refine List.Pairwise.imp_of_mem (R := fun a b => a ≠ b) ?_ h
    intro a b ha hb hab
    have := hr a ha
    have := hr b hb
    omega
  have h2 := List.Nodup.length_le_of_subset h1 (l₂ := List.range n) (fun a ha => by
    obtain ⟨b, hb, rfl⟩ := List.mem_map.1 ha
    have := hr b hb
    rw [List.mem_range]; omega)
  simpa using h2
theorem nodup_all {n : Nat} {l : List Int} (h : l.Nodup) (hr : ∀ t ∈ l, 0 ≤ t ∧ t < n) (hl : n ≤ l.length) {t : Int} (ht : 0 ≤ t ∧ t < n) : t ∈ l := by
  by_cases hm : t ∈ l
  · exact hm
  · have := nodup_le (n := n) (l := t :: l) (List.nodup_cons.2 ⟨hm, h⟩) (fun x hx => by
      rcases List.mem_cons.1 hx with rfl | hx
      · exact ht
      · exact hr x hx)
    simp at this
    omega
/-- where nothing is left to take away. -/
theorem KahnI.done {E : Edges} {n : Nat} {P : List Int} {inn : Int → Int} (h : KahnI E n P inn []) (hE : ∀ e ∈ E, (0 ≤ e.1 ∧ e.1 < n) ∧ 0 ≤ e.2 ∧ e.2 < n) : P.length < n ↔ cycP E n := by
  have hnd : P.Nodup := by simpa using h.nd
  have hrng : ∀ t ∈ P, 0 ≤ t ∧ t < n := fun t ht => h.rng t (by simpa using ht)
  constructor
  · intro hlt
    have hex : ∃ t : Int, (0 ≤ t ∧ t < n) ∧ t ∉ P := by
      by_cases hall : ∀ t : Int, 0 ≤ t ∧ t < n → t ∈ P
      · exfalso
        have h1 : ((List.range n).map fun k : Nat => (k : Int)).Nodup := by
          rw [List.Nodup, List.pairwise_map]
          exact List.nodup_range.imp fun hab e => hab (by omega)
        have h2 := List.Nodup.length_le_of_subset h1 (l₂ := P) (fun a ha => by
          obtain ⟨b, hb, rfl⟩ := List.mem_map.1 ha
          rw [List.mem_range] at hb
          exact hall _ ⟨by omega, by omega⟩)
        simp at h2
        omega
      · simp only [Classical.not_forall] at hall
        obtain ⟨t, h1, h2⟩ := hall
        exact ⟨t, h1, h2⟩
    have hback : ∀ k (t : Int), (0 ≤ t ∧ t < n) → t ∉ P → walkE E k t := by
      intro k
      induction k with
      | zero => intro t _ _; trivial
      | succ k ih =>
        intro t ht htP
        have h1 : inn t ≠ 0 := fun h0 => htP (by simpa using (h.zero t ht.1 ht.2).2 h0)
        obtain ⟨s, hs, hsP⟩ := inF_pos (E := E) (P := P) (t := t) (by have := h.cnt t; omega)
        exact ⟨s, hs, ih s (hE _ hs).1 hsP⟩
    obtain ⟨t, ht, htP⟩ := hex
    exact ⟨t, hback (n + 1) t ht htP⟩
  · rintro ⟨t, hw⟩
    by_cases hlt : P.length < n
    · exact hlt
    · exfalso
      have hall : ∀ x : Int, 0 ≤ x ∧ x < n → x ∈ P := fun x hx => nodup_all hnd hrng (by omega) hx
      have hrank : ∀ k (t : Int), walkE E k t → 0 ≤ t ∧ t < n → ∃ i : Nat, k ≤ i ∧ P[i]? = some t := by
        intro k
        induction k with
        | zero =>
          intro t _ ht
          obtain ⟨i, hi, he⟩ := List.mem_iff_getElem.1 (hall t ht)
          exact ⟨i, Nat.zero_le _, by rw [List.getElem?_eq_getElem hi, he]⟩
        | succ k ih =>
          rintro t ⟨s, hs, hw⟩ ht
          obtain ⟨j, hj, hjs⟩ := ih s hw (hE _ hs).1
          obtain ⟨i, hi, he⟩ := List.mem_iff_getElem.1 (hall t ht)
          have hi' : P[i]? = some t := by rw [List.getElem?_eq_getElem hi, he]
          obtain ⟨j', hj', hjs'⟩ := h.ord i t s hi' hs
          have : j' = j := by
            obtain ⟨q1, e1⟩ := List.getElem?_eq_some_iff.1 hjs
            obtain ⟨q2, e2⟩ := List.getElem?_eq_some_iff.1 hjs'
            exact (List.getElem_inj hnd).1 (e2.trans e1.symm)
          exact ⟨i, by omega, hi'⟩
      have hw' := hw
      obtain ⟨s, hs, _⟩ := hw'
      obtain ⟨i, hi, hit⟩ := hrank (n + 1) t hw (hE _ hs).2
      have h1 := (List.getElem?_eq_some_iff.1 hit).1
      have h2 := nodup_le hnd hrng
      omega
theorem kahnGo_spec {E : Edges} {n : Nat} (hE : ∀ e ∈ E, (0 ≤ e.1 ∧ e.1 < n) ∧ 0 ≤ e.2 ∧ e.2 < n) : ∀ (f : Nat) {P : List Int} {inn : Int → Int} {todo : List Int}, KahnI E n P inn todo → n + 1 ≤ f + P.length →
    (kahnGo E f inn todo P.length < n ↔ cycP E n) := by
  intro f
  induction f with
  | zero =>
    intro P inn todo h hf
    have := nodup_le h.nd h.rng
    simp at this
    omega
  | succ f ih =>
    intro P inn todo h hf
    cases todo with
    | nil => exact h.done hE
    | cons s todo =>
      have hst := h.step (fun e he => (hE e he).2)
      have := ih hst (by simp; omega)
      simpa [kahnGo] using this
/-- what is there to begin with. -/
def innF (E : Edges) (t : Int) : Int := ((E.filter fun e => e.2 == t).length : Int)
def todoF (E : Edges) (n : Nat) : List Int := ((List.range n).map fun k : Nat => (k : Int)).filter fun t => decide (innF E t = 0)
def kahnF (E : Edges) (n : Nat) : Bool := decide (kahnGo E (n + 1) (innF E) (todoF E n) 0 < n)
theorem kahnF_iff {E : Edges} {n : Nat} (hE : ∀ e ∈ E, (0 ≤ e.1 ∧ e.1 < n) ∧ 0 ≤ e.2 ∧ e.2 < n) : kahnF E n = true ↔ cycP E n := by
  unfold kahnF
  rw [decide_eq_true_iff]
  have hrn : ((List.range n).map fun k : Nat => (k : Int)).Nodup := by
    rw [List.Nodup, List.pairwise_map]
    exact List.nodup_range.imp fun hab e => hab (by omega)
  have hmem : ∀ t, t ∈ todoF E n ↔ (0 ≤ t ∧ t < n) ∧ innF E t = 0 := fun t => by
    unfold todoF
    rw [List.mem_filter, List.mem_map, decide_eq_true_iff]
    constructor
    · rintro ⟨⟨k, hk, rfl⟩, h2⟩
      rw [List.mem_range] at hk
      exact ⟨by omega, h2⟩
    · rintro ⟨h1, h2⟩
      exact ⟨⟨t.toNat, by rw [List.mem_range]; omega, by omega⟩, h2⟩
  have := kahnGo_spec hE (n + 1) (P := []) (inn := innF E) (todo := todoF E n) ⟨fun t => by simp [innF, inF], by rw [List.nil_append]; exact hrn.filter _, fun t ht => ((hmem t).1 (by simpa using ht)).1, fun t t0 tn => by
    rw [List.nil_append, hmem]
    constructor
    · exact fun h => h.2
    · exact fun h => ⟨⟨t0, tn⟩, h⟩, fun i t s hi => by simp at hi⟩ (by simp)
  simpa using this
end Go.Um
namespace Go.Um
open Go.RowKit

def edgesF (rs : List Rule) : Edges := (rs.filter fun r => decide (r.guards.length = 0)).map fun r => (r.src, r.dst)
theorem edgesF_snoc (rs : List Rule) (r : Rule) : edgesF (rs ++ [r]) = edgesF rs ++ (if r.guards.length = 0 then [(r.src, r.dst)] else []) := by
  unfold edgesF
  rw [List.filter_append, List.map_append]
  by_cases h : r.guards.length = 0
  · have h' : r.guards = [] := List.eq_nil_of_length_eq_zero h
    simp [h']
  · have h' : r.guards ≠ [] := fun e => h (by simp [e])
    simp [h']
theorem edgesF_len (rs : List Rule) : (edgesF rs).length ≤ rs.length := by
  unfold edgesF
  rw [List.length_map]
  exact List.length_filter_le _ _
theorem mem_edgesF {rs : List Rule} {e : Int × Int} (h : e ∈ edgesF rs) : ∃ r ∈ rs, r.guards.length = 0 ∧ e = (r.src, r.dst) := by
  unfold edgesF at h
  obtain ⟨r, h1, rfl⟩ := List.mem_map.1 h
  obtain ⟨h2, h3⟩ := List.mem_filter.1 h1
  exact ⟨r, h2, by simpa using h3, rfl⟩
theorem toF_snoc (E : Edges) (a b s : Int) : toF (E ++ [(a, b)]) s = if s = a then toF E s ++ [b] else toF E s := by
  unfold toF
  rw [List.filter_append, List.map_append]
  by_cases h : s = a
  · subst h; simp
  · have : ¬ a = s := fun e => h e.symm
    simp [h, this]
theorem innF_snoc (E : Edges) (a b t : Int) : innF (E ++ [(a, b)]) t = if t = b then innF E t + 1 else innF E t := by
  unfold innF
  rw [List.filter_append, List.length_append]
  by_cases h : t = b
  · subst h; simp
  · have : ¬ b = t := fun e => h e.symm
    simp [h, this]
theorem innF_bounds (E : Edges) (t : Int) : 0 ≤ innF E t ∧ innF E t ≤ E.length := by
  unfold innF
  have := List.length_filter_le (fun e : Int × Int => e.2 == t) E
  exact ⟨by omega, by omega⟩
theorem toF_len (E : Edges) (s : Int) : (toF E s).length ≤ E.length := by
  unfold toF
  rw [List.length_map]
  exact List.length_filter_le _ _
theorem mem_toF {E : Edges} {s t : Int} (h : t ∈ toF E s) : (s, t) ∈ E := by
  unfold toF at h
  obtain ⟨⟨a, b⟩, h1, rfl⟩ := List.mem_map.1 h
  obtain ⟨h2, h3⟩ := List.mem_filter.1 h1
  have : a = s := by simpa using h3
  subst this
  exact h2
theorem inF_le (E : Edges) (P : List Int) (t : Int) : inF E P t ≤ E.length := by
  unfold inF
  exact List.length_filter_le _ _

/-- block G holds n integers, as inn says. -/
def inVals (n : Nat) (inn : Int → Int) : List Value := (List.range n).map fun k : Nat => Value.int .i64 (inn (k : Int))
def InRow (w : World) (G : Nat) (te : TypeId) (n : Nat) (inn : Int → Int) : Prop := w.heap[G]? = some (.cells (inVals n inn).toArray te (0, 0))
theorem inVals_at {n : Nat} {inn : Int → Int} {t : Nat} (ht : t < n) : (inVals n inn)[t]? = some (.int .i64 (inn t)) := by
  unfold inVals
  rw [List.getElem?_map, List.getElem?_range ht]; rfl
theorem InRow.at {w : World} {G n : Nat} {te : TypeId} {inn : Int → Int} (h : InRow w G te n inn) {t : Nat} (ht : t < n) : w.cell? ⟨G, t, none⟩ = some (.int .i64 (inn t)) ∧ w.frozen? ⟨G, t, none⟩ = false := by
  refine ⟨?_, frozen_of_row _ _ _ _ _ h⟩
  rw [cell_of_row _ _ _ _ _ _ h]
  simpa using inVals_at ht
theorem InRow.put {w : World} {G n : Nat} {te : TypeId} {inn : Int → Int} (h : InRow w G te n inn) {t : Nat} (ht : t < n) (z : Int) : InRow (w.setCell ⟨G, t, none⟩ (.int .i64 z)) G te n (fun x => if x = t then z else inn x) := by
  unfold InRow at h ⊢
  rw [heap_setCell_same w G t _ te _ h]
  congr 2
  apply Array.ext'
  simp only [Array.toList_setIfInBounds]
  apply List.ext_getElem?
  intro i
  by_cases hi : i < n
  · rw [inVals_at hi]
    by_cases hit : i = t
    · subst hit
      rw [List.getElem?_set_self (by simp [inVals]; omega)]
      simp
    · rw [List.getElem?_set_ne (fun e => hit e.symm), inVals_at hi, if_neg (by omega)]
  · rw [List.getElem?_eq_none (by simp [inVals]; omega), List.getElem?_eq_none (by simp [inVals]; omega)]
theorem InRow.carry {w w' : World} {G n : Nat} {te : TypeId} {inn : Int → Int} (h : InRow w G te n inn) (hb : w'.heap[G]? = w.heap[G]?) : InRow w' G te n inn := hb.trans h
theorem inVals_zero (n : Nat) : inVals n (fun _ => 0) = List.replicate n (.int .i64 0) := by
  unfold inVals
  rw [List.map_const']
  simp
theorem grown_setCell (w : World) (G j : Nat) (u : Value) : w.grownBy (w.setCell ⟨G, j, none⟩ u) (some G) :=
  ⟨rfl, rfl, rfl, by simp, fun k _ hk => heap_setCell_other w ⟨G, j, none⟩ k u (fun e => hk (by rw [e]))⟩
theorem grown_low {w3 w w' : World} {G : Nat} (h : w3.grownBy w (some G)) (hb : Below w3.heap.size w w') : w3.grownBy w' (some G) :=
  ⟨hb.os.trans h.os, hb.tape.trans h.tape, hb.output.trans h.output, Nat.le_trans h.size hb.size, fun k hk hne => (hb.block k hk).trans (h.block k hk hne)⟩
theorem takeT_two (inn : Int → Int) (todo : List Int) (t : Int) : takeT (inn, todo) t = (fun x => if x = t then inn t - 1 else inn x, if inn t - 1 = 0 then todo ++ [t] else todo) := rfl
theorem fold_snoc {ts : List Int} {j : Nat} {t : Int} (h : ts[j]? = some t) (st : (Int → Int) × List Int) : (ts.take (j + 1)).foldl takeT st = takeT ((ts.take j).foldl takeT st) t := by
  rw [List.take_add_one, h]
  simp
theorem fold_bounds {ts : List Int} {inn : Int → Int} {todo : List Int} (h : ∀ t, (ts.count t : Int) ≤ inn t) (hb : ∀ t, inn t ≤ 4096) (j : Nat) : (∀ t, 0 ≤ ((ts.take j).foldl takeT (inn, todo)).1 t ∧ ((ts.take j).foldl takeT (inn, todo)).1 t ≤ 4096) ∧ ((ts.take j).foldl takeT (inn, todo)).2.length ≤ todo.length + j := by
  have hc : ∀ t, ((ts.take j).count t : Int) ≤ inn t := fun t => by
    have := (List.take_sublist j ts).count_le t
    have := h t
    omega
  obtain ⟨h1, _⟩ := takeT_fold (todo := todo) hc
  refine ⟨fun t => ?_, ?_⟩
  · rw [h1]
    have := hc t
    have := hb t
    omega
  · have hlen : ∀ (l : List Int) (st : (Int → Int) × List Int), (l.foldl takeT st).2.length ≤ st.2.length + l.length := by
      intro l
      induction l with
      | nil => intro st; simp
      | cons a r ih =>
        intro st
        have := ih (takeT st a)
        obtain ⟨x, y⟩ := st
        rw [takeT_two] at this
        simp only [List.foldl_cons, takeT_two, List.length_cons] at this ⊢
        have h3 : (if x a - 1 = 0 then y ++ [a] else y).length ≤ y.length + 1 := by split <;> simp
        omega
    have h4 := hlen (ts.take j) (inn, todo)
    have h5 : (ts.take j).length ≤ j := by rw [List.length_take]; omega
    simp only at h4
    omega
theorem mem_todoF {E : Edges} {n : Nat} {t : Int} : t ∈ todoF E n ↔ (0 ≤ t ∧ t < n) ∧ innF E t = 0 := by
  unfold todoF
  rw [List.mem_filter, List.mem_map, decide_eq_true_iff]
  constructor
  · rintro ⟨⟨k, hk, rfl⟩, h2⟩
    rw [List.mem_range] at hk
    exact ⟨by omega, h2⟩
  · rintro ⟨h1, h2⟩
    exact ⟨⟨t.toNat, by rw [List.mem_range]; omega, by omega⟩, h2⟩
theorem kahn_start (E : Edges) (n : Nat) : KahnI E n [] (innF E) (todoF E n) := by
  have hrn : ((List.range n).map fun k : Nat => (k : Int)).Nodup := by
    rw [List.Nodup, List.pairwise_map]
    exact List.nodup_range.imp fun hab e => hab (by omega)
  refine ⟨fun t => by simp [innF, inF], by rw [List.nil_append]; exact hrn.filter _, fun t ht => (mem_todoF.1 (by simpa using ht)).1, fun t t0 tn => ?_, fun i t s hi => by simp at hi⟩
  rw [List.nil_append, mem_todoF]
  exact ⟨fun h => h.2, fun h => ⟨⟨t0, tn⟩, h⟩⟩
theorem kahnGo_nil (E : Edges) (f : Nat) (inn : Int → Int) (d : Nat) : kahnGo E f inn [] d = d := by cases f <;> rfl
theorem KahnI.room {E : Edges} {n : Nat} {P : List Int} {inn : Int → Int} {s : Int} {todo : List Int} (h : KahnI E n P inn (s :: todo)) : P.length + todo.length + 1 ≤ n := by
  have := nodup_le h.nd h.rng
  simp at this
  omega
theorem KahnI.counts {E : Edges} {n : Nat} {P : List Int} {inn : Int → Int} {s : Int} {todo : List Int} (h : KahnI E n P inn (s :: todo)) : (∀ t, ((toF E s).count t : Int) ≤ inn t) ∧ ∀ t, inn t ≤ E.length := by
  have hsP : s ∉ P := fun hs => by
    have := (List.nodup_append.1 h.nd).2.2 s hs s (List.mem_cons_self ..)
    exact this rfl
  refine ⟨fun t => ?_, fun t => ?_⟩
  · rw [h.cnt, inF_snoc hsP]; omega
  · rw [h.cnt]; have := inF_le E P t; omega
end Go.Um
namespace Go.Um

/-- a power of two. -/
def pw (n : Int) : Int := 2 ^ n.toNat
theorem pw_pos (n : Int) : 0 < pw n := Int.pow_pos (by decide)
theorem pw_mono {n m : Int} (h : n ≤ m) : pw n ≤ pw m := by
  unfold pw
  exact_mod_cast Nat.pow_le_pow_right (by decide : 0 < 2) (show n.toNat ≤ m.toNat by omega)
theorem pw_20 {n : Int} (h : n ≤ 20) : pw n ≤ 1048576 := pw_mono (m := 20) h
theorem pw_21 {n : Int} (h : n ≤ 21) : pw n ≤ 2097152 := pw_mono (m := 21) h
theorem pw_6 {n : Int} (h : n ≤ 6) : pw n ≤ 64 := pw_mono (m := 6) h
/-- are a part's bits right? -/
def bitsF (p : Part) : Bool := decide (0 ≤ p.drop ∧ p.drop ≤ 20 ∧ 1 ≤ p.take ∧ p.take ≤ 21 ∧ 0 ≤ p.up ∧ p.up ≤ 20 ∧ (p.up = 0 ∨ p.take ≤ 6))
theorem bitsF_iff {p : Part} : bitsF p = true ↔ 0 ≤ p.drop ∧ p.drop ≤ 20 ∧ 1 ≤ p.take ∧ p.take ≤ 21 ∧ 0 ≤ p.up ∧ p.up ≤ 20 ∧ (p.up = 0 ∨ p.take ≤ 6) := decide_eq_true_iff
/-- a part's value of a number. -/
def valF (p : Part) (x : Int) : Int := x / pw p.drop % pw p.take * pw p.up
theorem valF_nonneg (p : Part) (x : Int) : 0 ≤ valF p x := Int.mul_nonneg (Int.emod_nonneg _ (by have := pw_pos p.take; omega)) (by have := pw_pos p.up; omega)
theorem valF_le {p : Part} (h : bitsF p = true) (x : Int) : valF p x ≤ 67108864 := by
  have hb := bitsF_iff.1 h
  have h1 := Int.emod_lt_of_pos (x / pw p.drop) (pw_pos p.take)
  have h0 := Int.emod_nonneg (x / pw p.drop) (show pw p.take ≠ 0 by have := pw_pos p.take; omega)
  unfold valF
  rcases hb.2.2.2.2.2.2 with h2 | h2
  · rw [h2, show pw 0 = 1 from rfl, Int.mul_one]
    have := pw_21 hb.2.2.2.1
    omega
  · have h3 := pw_6 h2
    have h4 := pw_20 hb.2.2.2.2.2.1
    have h5 := pw_pos p.up
    have : x / pw p.drop % pw p.take * pw p.up ≤ 64 * 1048576 := Int.mul_le_mul (by omega) h4 (by omega) (by decide)
    omega

/-! ### All numbers of a set -/
def eachS (s : Span) : List Int := (List.range (s.hi - s.lo + 1).toNat).map (fun k : Nat => s.lo + (k : Int))
def eachL (l : List Span) : List Int := l.flatMap eachS
theorem mem_eachS {s : Span} {x : Int} : x ∈ eachS s ↔ s.lo ≤ x ∧ x ≤ s.hi := by
  unfold eachS
  rw [List.mem_map]
  constructor
  · rintro ⟨k, hk, rfl⟩
    rw [List.mem_range] at hk
    omega
  · rintro ⟨h1, h2⟩
    exact ⟨(x - s.lo).toNat, by rw [List.mem_range]; omega, by omega⟩
theorem mem_eachL {l : List Span} {x : Int} : x ∈ eachL l ↔ mem l x := by
  unfold eachL mem
  rw [List.mem_flatMap]
  constructor
  · rintro ⟨s, hs, hx⟩; exact ⟨s, hs, mem_eachS.1 hx⟩
  · rintro ⟨s, hs, hx⟩; exact ⟨s, hs, mem_eachS.2 hx⟩

/-! ### The image of a set -/
/-- of one span of what is left behind the drop: its remainders. -/
def imgOne (d m : Int) (x : Span) : List Span :=
  if x.lo / d % m ≤ x.hi / d % m then [⟨x.lo / d % m, x.hi / d % m⟩] else [⟨0, x.hi / d % m⟩, ⟨x.lo / d % m, m - 1⟩]
def wide (d m : Int) (x : Span) : Bool := decide (m - 1 ≤ x.hi / d - x.lo / d)
def imgRaw (d m : Int) (l : List Span) : List Span := if l.any (wide d m) then [⟨0, m - 1⟩] else l.flatMap (imgOne d m)
theorem ediv_span {d : Int} (hd : 0 < d) {lo hi q : Int} (_h : lo ≤ hi) : (∃ x, lo ≤ x ∧ x ≤ hi ∧ x / d = q) ↔ lo / d ≤ q ∧ q ≤ hi / d := by
  constructor
  · rintro ⟨x, h1, h2, rfl⟩
    exact ⟨Int.ediv_le_ediv hd h1, Int.ediv_le_ediv hd h2⟩
  · rintro ⟨h1, h2⟩
    by_cases h3 : lo / d = q
    · exact ⟨lo, by omega, by omega, h3⟩
    · refine ⟨q * d, ?_, ?_, Int.mul_ediv_cancel q (by omega)⟩
      · have h4 : lo < (lo / d + 1) * d := Int.lt_ediv_add_one_mul_self lo hd
        have h5 : (lo / d + 1) * d ≤ q * d := Int.mul_le_mul_of_nonneg_right (by omega) (by omega)
        omega
      · have h4 : hi / d * d ≤ hi := Int.ediv_mul_le hi (by omega)
        have h5 : q * d ≤ hi / d * d := Int.mul_le_mul_of_nonneg_right h2 (by omega)
        omega
/-- remainders of all numbers from one to another one. -/
theorem emod_wide {m a b r : Int} (hm : 0 < m) (h : m - 1 ≤ b - a) : (∃ q, a ≤ q ∧ q ≤ b ∧ q % m = r) ↔ 0 ≤ r ∧ r ≤ m - 1 := by
  constructor
  · rintro ⟨q, _, _, rfl⟩
    have := Int.emod_nonneg q (show m ≠ 0 by omega)
    have := Int.emod_lt_of_pos q hm
    omega
  · rintro ⟨h1, h2⟩
    have e := Int.emod_nonneg (r - a) (show m ≠ 0 by omega)
    have e2 := Int.emod_lt_of_pos (r - a) hm
    refine ⟨a + (r - a) % m, by omega, by omega, ?_⟩
    rw [Int.add_emod, Int.emod_emod, ← Int.add_emod, show a + (r - a) = r by omega]
    exact Int.emod_eq_of_lt h1 (by omega)
theorem emod_one {m a b r : Int} (hm : 0 < m) (hab : a ≤ b) (h : ¬ m - 1 ≤ b - a) :
    (∃ q, a ≤ q ∧ q ≤ b ∧ q % m = r) ↔ if a % m ≤ b % m then a % m ≤ r ∧ r ≤ b % m else (0 ≤ r ∧ r ≤ b % m) ∨ (a % m ≤ r ∧ r ≤ m - 1) := by
  have a0 := Int.emod_nonneg a (show m ≠ 0 by omega)
  have a1 := Int.emod_lt_of_pos a hm
  have b0 := Int.emod_nonneg b (show m ≠ 0 by omega)
  have b1 := Int.emod_lt_of_pos b hm
  have ea := Int.emod_add_mul_ediv a m
  have eb := Int.emod_add_mul_ediv b m
  -- how far the quotients are apart
  have key : b / m = a / m ∨ b / m = a / m + 1 := by
    have k1 : a / m ≤ b / m := Int.ediv_le_ediv hm hab
    by_cases k2 : b / m ≤ a / m + 1
    · omega
    · exfalso
      have k3 : m * (a / m + 2) ≤ m * (b / m) := Int.mul_le_mul_of_nonneg_left (by omega) (by omega)
      rw [Int.mul_add] at k3
      omega
  constructor
  · rintro ⟨q, h1, h2, rfl⟩
    have q0 := Int.emod_nonneg q (show m ≠ 0 by omega)
    have q1 := Int.emod_lt_of_pos q hm
    have eq := Int.emod_add_mul_ediv q m
    have k1 : a / m ≤ q / m := Int.ediv_le_ediv hm h1
    have k2 : q / m ≤ b / m := Int.ediv_le_ediv hm h2
    rcases key with key | key
    · have : q / m = a / m := by omega
      rw [this] at eq
      rw [key] at eb
      rw [if_pos (by omega)]
      omega
    · rw [key, Int.mul_add] at eb
      rw [if_neg (by omega)]
      by_cases k3 : q / m = a / m
      · rw [k3] at eq; right; omega
      · have : q / m = a / m + 1 := by omega
        rw [this, Int.mul_add] at eq
        left; omega
  · intro hr
    rcases key with key | key
    · rw [key] at eb
      rw [if_pos (by omega)] at hr
      refine ⟨a + (r - a % m), by omega, by omega, ?_⟩
      rw [show a + (r - a % m) = r + m * (a / m) by omega, Int.add_mul_emod_self_left]
      exact Int.emod_eq_of_lt (by omega) (by omega)
    · rw [key, Int.mul_add] at eb
      rw [if_neg (by omega)] at hr
      rcases hr with hr | hr
      · refine ⟨r + m * (a / m + 1), by rw [Int.mul_add]; omega, by rw [Int.mul_add]; omega, ?_⟩
        rw [Int.add_mul_emod_self_left]
        exact Int.emod_eq_of_lt (by omega) (by omega)
      · refine ⟨r + m * (a / m), by omega, by omega, ?_⟩
        rw [Int.add_mul_emod_self_left]
        exact Int.emod_eq_of_lt (by omega) (by omega)
theorem mem_imgRaw {d m : Int} (hd : 0 < d) (hm : 0 < m) {l : List Span} (hl : ∀ s ∈ l, s.lo ≤ s.hi) {r : Int} : mem (imgRaw d m l) r ↔ ∃ x, mem l x ∧ x / d % m = r := by
  have base : ∀ s : Span, s.lo ≤ s.hi → ((∃ x, (s.lo ≤ x ∧ x ≤ s.hi) ∧ x / d % m = r) ↔ ∃ q, s.lo / d ≤ q ∧ q ≤ s.hi / d ∧ q % m = r) := by
    intro s hs
    constructor
    · rintro ⟨x, ⟨h1, h2⟩, h3⟩
      have := (ediv_span hd hs).1 ⟨x, h1, h2, rfl⟩
      exact ⟨_, this.1, this.2, h3⟩
    · rintro ⟨q, h1, h2, h3⟩
      obtain ⟨x, h4, h5, h6⟩ := (ediv_span hd hs).2 ⟨h1, h2⟩
      exact ⟨x, ⟨h4, h5⟩, by rw [h6]; exact h3⟩
  unfold imgRaw
  split
  · rename_i hw
    obtain ⟨s, hs, hw⟩ := List.any_eq_true.1 hw
    have hw : m - 1 ≤ s.hi / d - s.lo / d := of_decide_eq_true hw
    simp only [mem_cons, mem_nil, or_false]
    constructor
    · intro hr
      obtain ⟨x, h1, h2⟩ := (base s (hl s hs)).2 ((emod_wide hm hw).2 hr)
      exact ⟨x, ⟨s, hs, h1⟩, h2⟩
    · rintro ⟨x, _, rfl⟩
      have := Int.emod_nonneg (x / d) (show m ≠ 0 by omega)
      have := Int.emod_lt_of_pos (x / d) hm
      omega
  · rename_i hw
    have hw : ∀ s ∈ l, ¬ m - 1 ≤ s.hi / d - s.lo / d := by
      intro s hs hc
      exact hw (List.any_eq_true.2 ⟨s, hs, decide_eq_true hc⟩)
    have one : ∀ s ∈ l, (mem (imgOne d m s) r ↔ ∃ x, (s.lo ≤ x ∧ x ≤ s.hi) ∧ x / d % m = r) := by
      intro s hs
      rw [base s (hl s hs), emod_one hm (Int.ediv_le_ediv hd (hl s hs)) (hw s hs)]
      unfold imgOne
      split <;> simp [mem_cons, mem_nil]
    constructor
    · rintro ⟨t, ht, h1⟩
      obtain ⟨s, hs, ht⟩ := List.mem_flatMap.1 ht
      obtain ⟨x, h2, h3⟩ := (one s hs).1 ⟨t, ht, h1⟩
      exact ⟨x, ⟨s, hs, h2⟩, h3⟩
    · rintro ⟨x, ⟨s, hs, h2⟩, h3⟩
      obtain ⟨t, ht, h1⟩ := (one s hs).2 ⟨x, h2, h3⟩
      exact ⟨t, List.mem_flatMap.2 ⟨s, hs, ht⟩, h1⟩
/-- all numbers that have a value. -/
def topS : List Span := [⟨0, 2097151⟩]
theorem mem_topS {x : Int} : mem topS x ↔ 0 ≤ x ∧ x ≤ 2097151 := by simp [topS, mem]
theorem inSet_topS {x : Int} : inSet topS x ↔ 0 ≤ x ∧ x ≤ 2097151 := by
  unfold inSet; rw [mem_topS]; omega
/-- what is moved up. -/
def upL (u : Int) (l : List Int) : List Span := l.map fun x => ⟨x * u, x * u⟩
theorem mem_upL {u : Int} {l : List Int} {z : Int} : mem (upL u l) z ↔ ∃ x ∈ l, z = x * u := by
  unfold upL mem
  constructor
  · rintro ⟨s, hs, h1, h2⟩
    obtain ⟨x, hx, rfl⟩ := List.mem_map.1 hs
    exact ⟨x, hx, by simp only at h1 h2; omega⟩
  · rintro ⟨x, hx, rfl⟩
    exact ⟨_, List.mem_map.2 ⟨x, hx, rfl⟩, Int.le_refl _, Int.le_refl _⟩
/-- part.Image. -/
def imgN (p : Part) (s : List Span) : List Span := normF (imgRaw (pw p.drop) (pw p.take) (meetF s topS))
def imgF (p : Part) (s : List Span) : List Span := if p.up = 0 then imgN p s else normF (upL (pw p.up) (eachL (imgN p s)))
theorem imgF_plain (p : Part) (s : List Span) : plain (imgF p s) = true := by
  unfold imgF imgN; split <;> exact normF_plain _
theorem mem_imgN {p : Part} (h : bitsF p = true) {s : List Span} {z : Int} : mem (imgN p s) z ↔ ∃ x, (inSet s x ∧ 0 ≤ x ∧ x ≤ 2097151) ∧ x / pw p.drop % pw p.take = z := by
  have hb := bitsF_iff.1 h
  have ht := pw_21 hb.2.2.2.1
  have ht0 := pw_pos p.take
  unfold imgN
  rw [mem_normF, inSet, mem_imgRaw (pw_pos _) (pw_pos _) (fun s hs => (plainFrom_ok (meetF_plain _ _) s hs).1)]
  simp only [mem_meetF, inSet_topS]
  constructor
  · rintro ⟨_, h2⟩; exact h2
  · rintro ⟨x, h1, rfl⟩
    have := Int.emod_nonneg (x / pw p.drop) (show pw p.take ≠ 0 by omega)
    have := Int.emod_lt_of_pos (x / pw p.drop) ht0
    exact ⟨by omega, x, h1, rfl⟩
theorem mem_imgF {p : Part} (h : bitsF p = true) {s : List Span} {z : Int} : mem (imgF p s) z ↔ ∃ x, (inSet s x ∧ 0 ≤ x ∧ x ≤ 2097151) ∧ valF p x = z := by
  unfold imgF
  split
  · rename_i h0
    rw [mem_imgN h]
    unfold valF
    rw [h0, show pw 0 = 1 from rfl]
    simp only [Int.mul_one]
  · rw [mem_normF, inSet, mem_upL]
    simp only [mem_eachL, mem_imgN h]
    constructor
    · rintro ⟨_, y, ⟨x, h1, rfl⟩, rfl⟩
      exact ⟨x, h1, rfl⟩
    · rintro ⟨x, h1, rfl⟩
      have := valF_nonneg p x
      have := valF_le h x
      exact ⟨by omega, _, ⟨x, h1, rfl⟩, rfl⟩

/-! ### Runs of numbers, one behind the other -/
def runStep (out : List Span) (n : Int) : List Span :=
  match out.getLast? with
  | some t => if t.hi = n - 1 then out.dropLast ++ [⟨t.lo, n⟩] else out ++ [⟨n, n⟩]
  | none => out ++ [⟨n, n⟩]
def runsF (l : List Int) : List Span := l.foldl runStep []
def neL (l : List Span) : Prop := ∀ s ∈ l, s.lo ≤ s.hi
theorem runStep_spec {out : List Span} (h : neL out) (n : Int) : neL (runStep out n) ∧ (∀ z, mem (runStep out n) z ↔ mem out z ∨ z = n) ∧ (runStep out n).length ≤ out.length + 1 := by
  unfold runStep
  cases hq : out.getLast? with
  | none =>
    have : out = [] := by simpa using hq
    subst this
    refine ⟨fun s hs => ?_, fun z => ?_, by simp⟩
    · simp at hs; subst hs; exact Int.le_refl _
    · simp [mem]; omega
  | some t =>
    obtain ⟨ini, rfl⟩ := List.getLast?_eq_some_iff.1 hq
    have ht := h t (by simp)
    simp only [List.dropLast_concat]
    split
    · rename_i hc
      refine ⟨fun s hs => ?_, fun z => ?_, by simp⟩
      · rcases List.mem_append.1 hs with hs | hs
        · exact h s (List.mem_append_left _ hs)
        · simp at hs; subst hs; simp only; omega
      · simp only [mem_append, mem_cons, mem_nil, or_false, or_assoc]
        constructor
        · rintro (h1 | h1)
          · exact .inl h1
          · omega
        · rintro (h1 | h1)
          · exact .inl h1
          · right; omega
    · refine ⟨fun s hs => ?_, fun z => ?_, by simp⟩
      · rcases List.mem_append.1 hs with hs | hs
        · exact h s hs
        · simp at hs; subst hs; exact Int.le_refl _
      · simp only [mem_append, mem_cons, mem_nil, or_false]
        constructor
        · rintro (h1 | h1)
          · exact .inl h1
          · right; omega
        · rintro (h1 | h1)
          · exact .inl h1
          · right; omega
theorem foldRun_spec {l : List Int} : ∀ {out : List Span}, neL out → neL (l.foldl runStep out) ∧ (∀ z, mem (l.foldl runStep out) z ↔ mem out z ∨ z ∈ l) ∧ (l.foldl runStep out).length ≤ out.length + l.length := by
  induction l with
  | nil => intro out h; exact ⟨h, fun z => by simp, by simp⟩
  | cons n r ih =>
    intro out h
    obtain ⟨s1, s2, s3⟩ := runStep_spec h n
    obtain ⟨i1, i2, i3⟩ := ih s1
    refine ⟨i1, fun z => ?_, ?_⟩
    · rw [List.foldl_cons, i2, s2, List.mem_cons, or_assoc]
    · rw [List.foldl_cons]; simp only [List.length_cons]; omega
theorem mem_runsF {l : List Int} {z : Int} : mem (runsF l) z ↔ z ∈ l := by
  have := (foldRun_spec (l := l) (out := []) (fun s hs => by cases hs)).2.1 z
  unfold runsF
  simpa [mem_nil] using this
end Go.Um
namespace Go.Um

/-! ### Sums of two sets -/
def addS (x y : Span) : Span := ⟨x.lo + y.lo, x.hi + y.hi⟩
def plusStep (b : List Span) (out : List Span) (x : Span) : List Span :=
  if 65536 < (out ++ b.map (addS x)).length then normF (out ++ b.map (addS x)) else out ++ b.map (addS x)
def plusF (a b : List Span) : List Span := normF (a.foldl (plusStep b) [])
theorem mem_mapAdd {x : Span} {b : List Span} (hx : x.lo ≤ x.hi) (hb : neL b) {z : Int} : mem (b.map (addS x)) z ↔ ∃ u v, (x.lo ≤ u ∧ u ≤ x.hi) ∧ mem b v ∧ z = u + v := by
  constructor
  · rintro ⟨s, hs, h1, h2⟩
    obtain ⟨y, hy, rfl⟩ := List.mem_map.1 hs
    have := hb y hy
    simp only [addS] at h1 h2
    by_cases h : z - y.lo ≤ x.hi
    · exact ⟨z - y.lo, y.lo, ⟨by omega, h⟩, ⟨y, hy, Int.le_refl _, this⟩, by omega⟩
    · exact ⟨x.hi, z - x.hi, ⟨hx, Int.le_refl _⟩, ⟨y, hy, by omega, by omega⟩, by omega⟩
  · rintro ⟨u, v, h1, ⟨y, hy, h2⟩, rfl⟩
    exact ⟨addS x y, List.mem_map.2 ⟨y, hy, rfl⟩, by simp only [addS]; omega, by simp only [addS]; omega⟩
/-- all of a list lies within so much. -/
def inB (n : Int) (l : List Span) : Prop := ∀ s ∈ l, -n ≤ s.lo ∧ s.hi ≤ n
theorem inB_mem {n : Int} {l : List Span} (h : inB n l) {z : Int} (hz : mem l z) : -n ≤ z ∧ z ≤ n := by
  obtain ⟨s, hs, h1⟩ := hz
  have := h s hs
  omega
theorem mem_inB {n : Int} {l : List Span} (hne : neL l) (h : ∀ z, mem l z → -n ≤ z ∧ z ≤ n) : inB n l := fun s hs =>
  ⟨(h s.lo ⟨s, hs, Int.le_refl _, hne s hs⟩).1, (h s.hi ⟨s, hs, hne s hs, Int.le_refl _⟩).2⟩
theorem normF_ne (l : List Span) : neL (normF l) := fun s hs => (plainFrom_ok (normF_plain l) s hs).1
theorem plain_ne {l : List Span} (h : plain l = true) : neL l := fun s hs => (plainFrom_ok h s hs).1
theorem inSet_inB {l : List Span} (h : inB 1073741824 l) {z : Int} : inSet l z ↔ mem l z := ⟨fun h => h.2, fun hz => ⟨inB_mem h hz, hz⟩⟩
theorem plusStep_spec {b out : List Span} {x : Span} {n m : Int} (hb : neL b) (ho : neL out) (hx : x.lo ≤ x.hi) (hbn : inB m b) (hxn : -n ≤ x.lo ∧ x.hi ≤ n) (hon : inB (n + m) out) (hnm : n + m ≤ 1073741824) :
    neL (plusStep b out x) ∧ inB (n + m) (plusStep b out x) ∧ ∀ z, mem (plusStep b out x) z ↔ mem out z ∨ ∃ u v, (x.lo ≤ u ∧ u ≤ x.hi) ∧ mem b v ∧ z = u + v := by
  have h1 : neL (out ++ b.map (addS x)) := by
    intro s hs
    rcases List.mem_append.1 hs with hs | hs
    · exact ho s hs
    · obtain ⟨y, hy, rfl⟩ := List.mem_map.1 hs
      have := hb y hy
      simp only [addS]; omega
  have h2 : inB (n + m) (out ++ b.map (addS x)) := by
    intro s hs
    rcases List.mem_append.1 hs with hs | hs
    · exact hon s hs
    · obtain ⟨y, hy, rfl⟩ := List.mem_map.1 hs
      have := hbn y hy
      simp only [addS]; omega
  have h3 : ∀ z, mem (out ++ b.map (addS x)) z ↔ mem out z ∨ ∃ u v, (x.lo ≤ u ∧ u ≤ x.hi) ∧ mem b v ∧ z = u + v := fun z => by rw [mem_append, mem_mapAdd hx hb]
  unfold plusStep
  split
  · have h4 : ∀ z, mem (normF (out ++ b.map (addS x))) z ↔ mem (out ++ b.map (addS x)) z := fun z => by
      rw [mem_normF, inSet_inB (fun s hs => by have := h2 s hs; omega)]
    exact ⟨normF_ne _, mem_inB (normF_ne _) fun z hz => inB_mem h2 ((h4 z).1 hz), fun z => by rw [h4, h3]⟩
  · exact ⟨h1, h2, h3⟩
theorem plusFold_spec {b : List Span} {n m : Int} (hb : neL b) (hbn : inB m b) (hnm : n + m ≤ 1073741824) {a : List Span} : ∀ {out : List Span}, neL a → inB n a → neL out → inB (n + m) out →
    neL (a.foldl (plusStep b) out) ∧ inB (n + m) (a.foldl (plusStep b) out) ∧ ∀ z, mem (a.foldl (plusStep b) out) z ↔ mem out z ∨ ∃ u v, mem a u ∧ mem b v ∧ z = u + v := by
  induction a with
  | nil => intro out _ _ h1 h2; exact ⟨h1, h2, fun z => by simp [mem_nil]⟩
  | cons x r ih =>
    intro out ha hn h1 h2
    obtain ⟨s1, s2, s3⟩ := plusStep_spec hb h1 (ha x (List.mem_cons_self ..)) hbn (hn x (List.mem_cons_self ..)) h2 hnm
    obtain ⟨i1, i2, i3⟩ := ih (fun s hs => ha s (List.mem_cons_of_mem _ hs)) (fun s hs => hn s (List.mem_cons_of_mem _ hs)) s1 s2
    refine ⟨i1, i2, fun z => ?_⟩
    rw [List.foldl_cons, i3, s3, or_assoc]
    simp only [mem_cons]
    constructor
    · rintro (h | ⟨u, v, h3, h4, h5⟩ | ⟨u, v, h3, h4, h5⟩)
      · exact .inl h
      · exact .inr ⟨u, v, .inl h3, h4, h5⟩
      · exact .inr ⟨u, v, .inr h3, h4, h5⟩
    · rintro (h | ⟨u, v, h3 | h3, h4, h5⟩)
      · exact .inl h
      · exact .inr (.inl ⟨u, v, h3, h4, h5⟩)
      · exact .inr (.inr ⟨u, v, h3, h4, h5⟩)
theorem mem_plusF {a b : List Span} {n m : Int} (ha : neL a) (hb : neL b) (han : inB n a) (hbn : inB m b) (hnm : n + m ≤ 1073741824) {z : Int} : mem (plusF a b) z ↔ ∃ u v, mem a u ∧ mem b v ∧ z = u + v := by
  obtain ⟨h1, h2, h3⟩ := plusFold_spec (out := []) hb hbn hnm ha han (fun s hs => by cases hs) (fun s hs => by cases hs)
  unfold plusF
  rw [mem_normF, inSet_inB (fun s hs => by have := h2 s hs; omega), h3]
  simp [mem_nil]
theorem plusF_plain (a b : List Span) : plain (plusF a b) = true := normF_plain _

/-! ### Parts of one symbol -/
def sumP (l : List Part) (x : Int) : Int := (l.map fun p => valF p x).sum
theorem sumP_nil (x : Int) : sumP [] x = 0 := rfl
theorem sumP_cons (p : Part) (l : List Part) (x : Int) : sumP (p :: l) x = valF p x + sumP l x := rfl
theorem sumP_snoc (l : List Part) (p : Part) (x : Int) : sumP (l ++ [p]) x = sumP l x + valF p x := by simp [sumP]
theorem sumP_bd {l : List Part} (h : ∀ p ∈ l, bitsF p = true) (x : Int) : 0 ≤ sumP l x ∧ sumP l x ≤ 67108864 * l.length := by
  induction l with
  | nil => exact ⟨Int.le_refl _, by simp [sumP]⟩
  | cons p r ih =>
    have := ih (fun q hq => h q (List.mem_cons_of_mem _ hq))
    have := valF_nonneg p x
    have := valF_le (h p (List.mem_cons_self ..)) x
    rw [sumP_cons, List.length_cons]
    omega
def togF (l : List Part) (s : List Span) : List Span := match l with
  | [p] => imgF p s
  | _ => normF (runsF ((eachL (normF s)).map (sumP l)))
theorem togF_plain (l : List Part) (s : List Span) : plain (togF l s) = true := by
  unfold togF; split
  · exact imgF_plain _ _
  · exact normF_plain _
/-- symbols alone, or the least of them. -/
def symS (s : List Span) : Prop := ∀ z, mem s z → 0 ≤ z ∧ z ≤ 1114111
theorem sym_inSet {s : List Span} (h : symS s) {z : Int} : inSet s z ↔ mem s z := ⟨fun h => h.2, fun hz => ⟨by have := h z hz; omega, hz⟩⟩
theorem mem_togF {l : List Part} (hb : ∀ p ∈ l, bitsF p = true) (hl : l.length ≤ 4) {s : List Span} (hs : symS s) {z : Int} : mem (togF l s) z ↔ ∃ x, mem s x ∧ z = sumP l x := by
  unfold togF
  split
  · rename_i p
    rw [mem_imgF (hb p (by simp))]
    constructor
    · rintro ⟨x, ⟨h1, _⟩, rfl⟩
      exact ⟨x, h1.2, by simp [sumP]⟩
    · rintro ⟨x, h1, rfl⟩
      have := hs x h1
      exact ⟨x, ⟨(sym_inSet hs).2 h1, by omega, by omega⟩, by simp [sumP]⟩
  · rw [mem_normF, inSet, mem_runsF, List.mem_map]
    simp only [mem_eachL, mem_normF, sym_inSet hs]
    constructor
    · rintro ⟨_, x, h1, h2⟩; exact ⟨x, h1, h2.symm⟩
    · rintro ⟨x, h1, rfl⟩
      have := sumP_bd hb x
      exact ⟨by omega, x, h1, rfl⟩

/-! ### All windows -/
/-- places, each once, as they come. -/
def placeStep (l : List Int) (p : Part) : List Int := if p.at_ ∈ l then l else l ++ [p.at_]
def placesF (ps : List Part) : List Int := ps.foldl placeStep []
def ofAt (ps : List Part) (a : Int) : List Part := ps.filter fun p => p.at_ == a
def sumV (ps : List Part) (f : Int → Int) : Int := (ps.map fun p => valF p (f p.at_)).sum
theorem place_mem {l : List Int} {p : Part} {a : Int} : a ∈ placeStep l p ↔ a ∈ l ∨ a = p.at_ := by
  unfold placeStep
  split
  · constructor
    · exact .inl
    · rintro (h | rfl) <;> assumption
  · simp
theorem place_nodup {l : List Int} {p : Part} (h : l.Nodup) : (placeStep l p).Nodup := by
  unfold placeStep
  split
  · exact h
  · rename_i hn
    rw [List.nodup_append]
    refine ⟨h, by simp, ?_⟩
    intro a ha b hb
    simp at hb
    subst hb
    rintro rfl
    exact hn ha
theorem places_fold {ps : List Part} : ∀ {l : List Int}, l.Nodup → (ps.foldl placeStep l).Nodup ∧ ∀ a, a ∈ ps.foldl placeStep l ↔ a ∈ l ∨ ∃ p ∈ ps, p.at_ = a := by
  induction ps with
  | nil => intro l h; exact ⟨h, fun a => by simp⟩
  | cons p r ih =>
    intro l h
    obtain ⟨h1, h2⟩ := ih (place_nodup (p := p) h)
    refine ⟨h1, fun a => ?_⟩
    rw [List.foldl_cons, h2, place_mem, or_assoc]
    constructor
    · rintro (h | h | ⟨q, hq, rfl⟩)
      · exact .inl h
      · exact .inr ⟨p, List.mem_cons_self .., h.symm⟩
      · exact .inr ⟨q, List.mem_cons_of_mem _ hq, rfl⟩
    · rintro (h | ⟨q, hq, rfl⟩)
      · exact .inl h
      · rcases List.mem_cons.1 hq with rfl | hq
        · exact .inr (.inl rfl)
        · exact .inr (.inr ⟨q, hq, rfl⟩)
theorem places_nodup (ps : List Part) : (placesF ps).Nodup := (places_fold (l := []) (by simp)).1
theorem mem_placesF {ps : List Part} {a : Int} : a ∈ placesF ps ↔ ∃ p ∈ ps, p.at_ = a := by
  rw [placesF, (places_fold (l := []) (by simp)).2]; simp
theorem ofAt_cons (p : Part) (ps : List Part) (a : Int) : ofAt (p :: ps) a = if p.at_ = a then p :: ofAt ps a else ofAt ps a := by
  unfold ofAt
  rw [List.filter_cons]
  by_cases h : p.at_ = a <;> simp [h]
theorem sum_add (qs : List Int) (f g : Int → Int) : (qs.map fun a => f a + g a).sum = (qs.map f).sum + (qs.map g).sum := by
  induction qs with
  | nil => rfl
  | cons a r ih => simp only [List.map_cons, List.sum_cons, ih]; omega
theorem sum_one {qs : List Int} (h : qs.Nodup) {a : Int} (ha : a ∈ qs) (v : Int) : (qs.map fun b => if a = b then v else 0).sum = v := by
  induction qs with
  | nil => cases ha
  | cons b r ih =>
    rw [List.nodup_cons] at h
    rw [List.map_cons, List.sum_cons]
    by_cases hab : a = b
    · subst hab
      have hz : ∀ (l : List Int), a ∉ l → (l.map fun b => if a = b then v else 0).sum = 0 := by
        intro l
        induction l with
        | nil => intro _; rfl
        | cons c s ih2 =>
          intro hn
          rw [List.mem_cons, not_or] at hn
          rw [List.map_cons, List.sum_cons, if_neg hn.1, ih2 hn.2]
          rfl
      rw [if_pos rfl, hz r h.1]
      omega
    · rw [if_neg hab, ih h.2 ((List.mem_cons.1 ha).resolve_left hab)]
      omega
theorem sum_placesG {ps : List Part} {qs : List Int} (hq : qs.Nodup) (h : ∀ p ∈ ps, p.at_ ∈ qs) (v : Part → Int → Int) (f : Int → Int) : (qs.map fun a => ((ofAt ps a).map fun p => v p (f a)).sum).sum = (ps.map fun p => v p (f p.at_)).sum := by
  induction ps with
  | nil =>
    have hz : ∀ (l : List Int), (l.map fun a => ((ofAt [] a).map fun p => v p (f a)).sum).sum = 0 := by
      intro l
      induction l with
      | nil => rfl
      | cons c s ih2 => rw [List.map_cons, List.sum_cons, ih2]; rfl
    exact hz qs
  | cons p r ih =>
    have e : ∀ a, ((ofAt (p :: r) a).map fun p => v p (f a)).sum = (if p.at_ = a then v p (f p.at_) else 0) + ((ofAt r a).map fun p => v p (f a)).sum := by
      intro a
      rw [ofAt_cons]
      by_cases h1 : p.at_ = a
      · subst h1; rw [if_pos rfl, if_pos rfl, List.map_cons, List.sum_cons]
      · rw [if_neg h1, if_neg h1]; omega
    rw [show (fun a => ((ofAt (p :: r) a).map fun p => v p (f a)).sum) = fun a => (if p.at_ = a then v p (f p.at_) else 0) + ((ofAt r a).map fun p => v p (f a)).sum from funext e]
    rw [sum_add, sum_one hq (h p (List.mem_cons_self ..)), ih (fun q hq' => h q (List.mem_cons_of_mem _ hq'))]
    rfl
theorem sum_places {ps : List Part} {qs : List Int} (hq : qs.Nodup) (h : ∀ p ∈ ps, p.at_ ∈ qs) (f : Int → Int) : (qs.map fun a => sumP (ofAt ps a) (f a)).sum = sumV ps f := sum_placesG hq h valF f
theorem sum_ones (l : List Part) : (l.map fun _ => (1 : Int)).sum = l.length := by
  induction l with
  | nil => rfl
  | cons p r ih => rw [List.map_cons, List.sum_cons, ih, List.length_cons]; omega
/-- how many parts some places have. -/
def cntF (ps : List Part) (qs : List Int) : Int := (qs.map fun a => ((ofAt ps a).length : Int)).sum
theorem cntF_all {ps : List Part} {qs : List Int} (hq : qs.Nodup) (h : ∀ p ∈ ps, p.at_ ∈ qs) : cntF ps qs = ps.length := by
  have := sum_placesG hq h (fun _ _ => 1) id
  rw [sum_ones] at this
  rw [← this]
  unfold cntF
  congr 1
  exact List.map_congr_left fun a _ => (sum_ones _).symm
theorem cntF_nonneg (ps : List Part) (qs : List Int) : 0 ≤ cntF ps qs := by
  induction qs with
  | nil => exact Int.le_refl _
  | cons a r ih => unfold cntF at *; rw [List.map_cons, List.sum_cons]; omega
/-- the values of some places, with the sum. -/
def valsGo (ps : List Part) (sets : List (List Span)) (out : List Span) (a : Int) : List Span := plusF out (togF (ofAt ps a) (sets[a.toNat]?.getD []))
def valuesF (t : Term) (sets : List (List Span)) : List Span := (placesF t.parts).foldl (valsGo t.parts sets) [⟨t.sum, t.sum⟩]
def symP (gs : List (List Span)) (a x : Int) : Prop := ∃ g, gs[a.toNat]? = some g ∧ mem g x
/-- what a term's inner value may be. -/
def innerP (t : Term) (gs : List (List Span)) (z : Int) : Prop := ∃ f : Int → Int, (∀ p ∈ t.parts, symP gs p.at_ (f p.at_)) ∧ z = t.sum + sumV t.parts f
theorem ofAt_len (ps : List Part) (a : Int) : (ofAt ps a).length ≤ ps.length := List.length_filter_le _ _
theorem ofAt_sub {ps : List Part} {a : Int} {p : Part} (h : p ∈ ofAt ps a) : p ∈ ps := (List.mem_filter.1 h).1
theorem vals_fold {ps : List Part} {sets : List (List Span)} (hb : ∀ p ∈ ps, bitsF p = true) (hl : ps.length ≤ 4) (hs : ∀ g ∈ sets, symS g) {qs : List Int} : ∀ {out : List Span} {n : Int}, (∀ a ∈ qs, ∃ g, sets[a.toNat]? = some g) → qs.Nodup →
    neL out → inB n out → n + 67108864 * cntF ps qs ≤ 1073741824 → n ≥ 0 →
    neL (qs.foldl (valsGo ps sets) out) ∧ inB (n + 67108864 * cntF ps qs) (qs.foldl (valsGo ps sets) out) ∧
    ∀ z, mem (qs.foldl (valsGo ps sets) out) z ↔ ∃ u, ∃ f : Int → Int, mem out u ∧ (∀ a ∈ qs, symP sets a (f a)) ∧ z = u + (qs.map fun a => sumP (ofAt ps a) (f a)).sum := by
  induction qs with
  | nil =>
    intro out n _ _ h1 h2 _ _
    refine ⟨h1, by simpa [cntF] using h2, fun z => ?_⟩
    simp only [List.foldl_nil, List.map_nil, List.sum_nil, Int.add_zero]
    constructor
    · intro h; exact ⟨z, id, h, by simp, rfl⟩
    · rintro ⟨u, f, h, _, rfl⟩; exact h
  | cons a r ih =>
    intro out n hex hnd hne hn hbd hn0
    obtain ⟨g, hg⟩ := hex a (List.mem_cons_self ..)
    have hsym := hs g (List.mem_of_getElem? hg)
    have hbo : ∀ p ∈ ofAt ps a, bitsF p = true := fun p hp => hb p (ofAt_sub hp)
    have hlo : (ofAt ps a).length ≤ 4 := Nat.le_trans (ofAt_len ps a) hl
    have hcn := cntF_nonneg ps r
    have hce : cntF ps (a :: r) = (ofAt ps a).length + cntF ps r := by unfold cntF; rw [List.map_cons, List.sum_cons]
    rw [hce] at hbd ⊢
    have htm : ∀ z, mem (togF (ofAt ps a) g) z ↔ ∃ x, mem g x ∧ z = sumP (ofAt ps a) x := fun z => mem_togF hbo hlo hsym
    have hte : neL (togF (ofAt ps a) g) := plain_ne (togF_plain _ _)
    have htb : inB (67108864 * (ofAt ps a).length) (togF (ofAt ps a) g) := mem_inB hte fun z hz => by
      obtain ⟨x, _, rfl⟩ := (htm z).1 hz
      have := sumP_bd hbo x
      omega
    have hstep : ∀ z, mem (valsGo ps sets out a) z ↔ ∃ u x, mem out u ∧ mem g x ∧ z = u + sumP (ofAt ps a) x := fun z => by
      unfold valsGo
      rw [hg, Option.getD_some, mem_plusF hne hte hn htb (by omega)]
      constructor
      · rintro ⟨u, v, h1, h2, h3⟩
        obtain ⟨x, h4, rfl⟩ := (htm v).1 h2
        exact ⟨u, x, h1, h4, h3⟩
      · rintro ⟨u, x, h1, h4, h3⟩
        exact ⟨u, _, h1, (htm _).2 ⟨x, h4, rfl⟩, h3⟩
    have hne2 : neL (valsGo ps sets out a) := plain_ne (plusF_plain _ _)
    have hn2 : inB (n + 67108864 * (ofAt ps a).length) (valsGo ps sets out a) := mem_inB hne2 fun z hz => by
      obtain ⟨u, x, h1, _, rfl⟩ := (hstep z).1 hz
      have := inB_mem hn h1
      have := sumP_bd hbo x
      omega
    rw [List.nodup_cons] at hnd
    obtain ⟨i1, i2, i3⟩ := ih (out := valsGo ps sets out a) (n := n + 67108864 * (ofAt ps a).length) (fun b hb' => hex b (List.mem_cons_of_mem _ hb')) hnd.2 hne2 hn2 (by omega) (by omega)
    refine ⟨i1, fun s hs' => by have := i2 s hs'; omega, fun z => ?_⟩
    rw [List.foldl_cons, i3]
    constructor
    · rintro ⟨u, f, h1, h2, rfl⟩
      obtain ⟨u', x, h3, h4, rfl⟩ := (hstep u).1 h1
      refine ⟨u', fun b => if b = a then x else f b, h3, fun b hb' => ?_, ?_⟩
      · by_cases hba : b = a
        · subst hba; simp only [if_true]; exact ⟨g, hg, h4⟩
        · simp only [hba, if_false]; exact h2 b ((List.mem_cons.1 hb').resolve_left hba)
      · have h5 : (r.map fun b => sumP (ofAt ps b) (if b = a then x else f b)) = r.map fun b => sumP (ofAt ps b) (f b) := by
          refine List.map_congr_left fun b hb' => ?_
          have : b ≠ a := by rintro rfl; exact hnd.1 hb'
          rw [if_neg this]
        rw [List.map_cons, List.sum_cons]
        simp only [if_true, h5]
        omega
    · rintro ⟨u, f, h1, h2, rfl⟩
      obtain ⟨g', hg', hx⟩ := h2 a (List.mem_cons_self ..)
      rw [hg] at hg'
      cases hg'
      refine ⟨u + sumP (ofAt ps a) (f a), f, (hstep _).2 ⟨u, f a, h1, hx, rfl⟩, fun b hb' => h2 b (List.mem_cons_of_mem _ hb'), ?_⟩
      rw [List.map_cons, List.sum_cons]
      omega
theorem mem_valuesF {t : Term} {sets : List (List Span)} (hb : ∀ p ∈ t.parts, bitsF p = true ∧ 0 ≤ p.at_ ∧ p.at_ < sets.length) (hl : t.parts.length ≤ 4) (hs : ∀ g ∈ sets, symS g) (ht : -1114111 ≤ t.sum ∧ t.sum ≤ 1114111) {z : Int} :
    mem (valuesF t sets) z ↔ innerP t sets z := by
  have hcnt : cntF t.parts (placesF t.parts) = t.parts.length := cntF_all (places_nodup _) fun p hp => mem_placesF.2 ⟨p, hp, rfl⟩
  obtain ⟨h1, h2, h3⟩ := vals_fold (ps := t.parts) (sets := sets) (fun p hp => (hb p hp).1) hl hs (qs := placesF t.parts) (out := [⟨t.sum, t.sum⟩]) (n := 1114111) (fun a ha => by
    obtain ⟨p, hp, rfl⟩ := mem_placesF.1 ha
    have := hb p hp
    exact ⟨sets[p.at_.toNat]'(by omega), List.getElem?_eq_getElem (by omega)⟩) (places_nodup _)
    (fun s hs => by simp at hs; subst hs; exact Int.le_refl _) (fun s hs => by simp at hs; subst hs; exact ht) (by omega) (by decide)
  rw [valuesF, h3]
  have hsum : ∀ f : Int → Int, ((placesF t.parts).map fun a => sumP (ofAt t.parts a) (f a)).sum = sumV t.parts f := fun f => sum_places (places_nodup _) (fun p hp => mem_placesF.2 ⟨p, hp, rfl⟩) f
  constructor
  · rintro ⟨u, f, hu, hf, rfl⟩
    have : u = t.sum := by simp [mem] at hu; omega
    subst this
    exact ⟨f, fun p hp => hf _ (mem_placesF.2 ⟨p, hp, rfl⟩), by rw [hsum]⟩
  · rintro ⟨f, hf, rfl⟩
    refine ⟨t.sum, f, by simp [mem], fun a ha => ?_, by rw [hsum]⟩
    obtain ⟨p, hp, rfl⟩ := mem_placesF.1 ha
    exact hf p hp
end Go.Um
namespace Go.Um

/-- a set, moved. -/
def addN (b : Int) (s : Span) : Span := ⟨s.lo + b, s.hi + b⟩
def moveF (l : List Span) (b : Int) : List Span := if b < -2147483648 ∨ 2147483648 < b then [] else normF ((normF l).map (addN b))
theorem moveF_plain (l : List Span) (b : Int) : plain (moveF l b) = true := by
  unfold moveF; split
  · rfl
  · exact normF_plain _
theorem mem_mapAddN {l : List Span} {b z : Int} : mem (l.map (addN b)) z ↔ mem l (z - b) := by
  unfold mem
  constructor
  · rintro ⟨s, hs, h1, h2⟩
    obtain ⟨t, ht, rfl⟩ := List.mem_map.1 hs
    simp only [addN] at h1 h2
    exact ⟨t, ht, by omega, by omega⟩
  · rintro ⟨t, ht, h1, h2⟩
    exact ⟨_, List.mem_map.2 ⟨t, ht, rfl⟩, by simp only [addN]; omega, by simp only [addN]; omega⟩
theorem mem_moveF {l : List Span} {b : Int} (hb : -2147483648 ≤ b ∧ b ≤ 2147483648) {z : Int} : mem (moveF l b) z ↔ (-1073741824 ≤ z ∧ z ≤ 1073741824) ∧ inSet l (z - b) := by
  unfold moveF
  rw [if_neg (by omega), mem_normF, inSet, mem_mapAddN, mem_normF]

/-! ### The least and the greatest -/
def headLo (l : List Span) : Int := match l with | s :: _ => s.lo | [] => 0
def lastHi (l : List Span) : Int := match l.getLast? with | some s => s.hi | none => 0
theorem headLo_le {last : Int} {l : List Span} (h : plainFrom last l = true) {z : Int} (hz : mem l z) : headLo l ≤ z := by
  cases l with
  | nil => exact absurd hz mem_nil
  | cons s r =>
    obtain ⟨h1, h2⟩ := plainFrom_cons.1 h
    show s.lo ≤ z
    rcases mem_cons.1 hz with h3 | h3
    · exact h3.1
    · have := plainFrom_bound h2 h3; omega
theorem lastHi_cons (s t : Span) (r : List Span) : lastHi (s :: t :: r) = lastHi (t :: r) := by simp [lastHi, List.getLast?_cons_cons]
theorem lastHi_ge {last : Int} {l : List Span} (h : plainFrom last l = true) {z : Int} (hz : mem l z) : z ≤ lastHi l := by
  induction l generalizing last z with
  | nil => exact absurd hz mem_nil
  | cons s r ih =>
    obtain ⟨h1, h2⟩ := plainFrom_cons.1 h
    cases r with
    | nil =>
      rcases mem_cons.1 hz with h3 | h3
      · simpa [lastHi] using h3.2
      · exact absurd h3 mem_nil
    | cons t u =>
      rw [lastHi_cons]
      rcases mem_cons.1 hz with h3 | h3
      · have h4 := ih h2 (z := t.lo) (mem_cons.2 (.inl ⟨Int.le_refl _, (plainFrom_cons.1 h2).1.1⟩))
        have := (plainFrom_cons.1 h2).1.2.2.2
        omega
      · exact ih h2 h3
theorem headLo_mem {l : List Span} (h : plain l = true) (hn : l ≠ []) : mem l (headLo l) := by
  cases l with
  | nil => exact absurd rfl hn
  | cons s r => exact mem_cons.2 (.inl ⟨Int.le_refl _, plain_ne h s (List.mem_cons_self ..)⟩)
theorem lastHi_mem {l : List Span} (h : plain l = true) (hn : l ≠ []) : mem l (lastHi l) := by
  cases hq : l.getLast? with
  | none => simp at hq; exact absurd hq hn
  | some s =>
    have hs := List.mem_of_getLast? hq
    unfold lastHi
    rw [hq]
    exact ⟨s, hs, plain_ne h s hs, Int.le_refl _⟩
/-- are there inner values, and all of them symbols? -/
def okV (l : List Span) : Bool := !l.isEmpty && decide (0 ≤ headLo l) && decide (lastHi l ≤ 1114111)
theorem okV_iff {l : List Span} (h : plain l = true) : okV l = true ↔ l ≠ [] ∧ ∀ z, mem l z → 0 ≤ z ∧ z ≤ 1114111 := by
  unfold okV
  simp only [Bool.and_eq_true, Bool.not_eq_true', List.isEmpty_eq_false_iff, decide_eq_true_eq]
  constructor
  · rintro ⟨⟨h1, h2⟩, h3⟩
    refine ⟨h1, fun z hz => ?_⟩
    have := headLo_le h hz
    have := lastHi_ge h hz
    omega
  · rintro ⟨h1, h2⟩
    exact ⟨⟨h1, (h2 _ (headLo_mem h h1)).1⟩, (h2 _ (lastHi_mem h h1)).2⟩

/-! ### What a term must be -/
def outerT (t : Term) : Part := ⟨0, t.drop, t.take, t.up⟩
def smallN (x : Int) : Bool := decide (-1114111 ≤ x) && decide (x ≤ 1114111)
theorem smallN_iff {x : Int} : smallN x = true ↔ -1114111 ≤ x ∧ x ≤ 1114111 := by simp [smallN]
def wholeP (a : Int) : Part := ⟨a, 0, 21, 0⟩
def plainT (t : Term) : Bool := decide (t.base = 0 ∧ t.drop = 0 ∧ t.take = 21 ∧ t.up = 0)
def risesP (u : Int) : List Part → Bool
  | [] => true
  | p :: r => decide (u < p.up) && risesP p.up r
def risingP : List Part → Bool
  | [] => true
  | p :: r => risesP p.up r
def numbersF (t : Term) : Bool := smallN t.base && smallN t.sum && bitsF (outerT t) && risingP t.parts && decide (t.parts.length ≤ 4)
def rightP (p : Part) (n : Int) : Bool := decide (0 ≤ p.at_) && decide (p.at_ < n) && bitsF p
theorem rightP_iff {p : Part} {n : Int} : rightP p n = true ↔ 0 ≤ p.at_ ∧ p.at_ < n ∧ bitsF p = true := by simp [rightP, and_assoc]
def sortF (s : Int) : Bool := decide (s = 1 ∨ s = 2)
def rightF (t : Term) (inn out : Int) (n : Int) : Bool :=
  sortF inn && sortF out && numbersF t && t.parts.all (fun p => rightP p n && decide (inn = 2 → p = wholeP p.at_)) && decide (inn = 2 → t.parts.length ≤ 1) && decide (out = 2 → plainT t = true)
theorem numbersF_iff {t : Term} : numbersF t = true ↔ smallN t.base = true ∧ smallN t.sum = true ∧ bitsF (outerT t) = true ∧ risingP t.parts = true ∧ t.parts.length ≤ 4 := by
  simp [numbersF, and_assoc]
theorem rightF_iff {t : Term} {inn out n : Int} : rightF t inn out n = true ↔ (inn = 1 ∨ inn = 2) ∧ (out = 1 ∨ out = 2) ∧ numbersF t = true ∧ (∀ p ∈ t.parts, rightP p n = true ∧ (inn = 2 → p = wholeP p.at_)) ∧ (inn = 2 → t.parts.length ≤ 1) ∧ (out = 2 → plainT t = true) := by
  simp only [rightF, sortF, Bool.and_eq_true, decide_eq_true_eq, List.all_eq_true, and_assoc]

/-! ### Does a term fit? -/
def symL : List Span := [⟨0, 1114111⟩]
theorem inSet_symL {x : Int} : inSet symL x ↔ 0 ≤ x ∧ x ≤ 1114111 := by
  simp only [inSet, symL, mem, List.mem_singleton, exists_eq_left]; omega
theorem meetF_sym {g : List Span} (hp : plain g = true) (hs : symS g) : meetF g symL = g :=
  plain_unique (meetF_plain _ _) hp fun x => by
    rw [mem_meetF, inSet_symL, inSet_plain hp]
    constructor
    · exact fun h => h.1
    · exact fun h => ⟨h, hs x h⟩
/-- guards that have something, all of it symbols. -/
def goodG (gs : List (List Span)) : Prop := gs.length ≤ 4 ∧ ∀ g ∈ gs, plain g = true ∧ symS g ∧ g ≠ []
theorem meets_sym {gs : List (List Span)} (h : goodG gs) : gs.map (fun g => meetF g symL) = gs := by
  have : ∀ l : List (List Span), (∀ g ∈ l, plain g = true ∧ symS g ∧ g ≠ []) → l.map (fun g => meetF g symL) = l := by
    intro l
    induction l with
    | nil => intro _; rfl
    | cons g r ih =>
      intro hl
      have hg := hl g (List.mem_cons_self ..)
      rw [List.map_cons, meetF_sym hg.1 hg.2.1, ih fun x hx => hl x (List.mem_cons_of_mem _ hx)]
  exact this gs h.2
/-- the term's value of all windows. -/
def imageT (t : Term) (gs : List (List Span)) : List Span := moveF (imgF (outerT t) (valuesF t gs)) t.base
def fitsG (t : Term) (dom : List Span) (gs : List (List Span)) : Bool := okV (valuesF t gs) && (minusF (imageT t gs) dom).isEmpty
theorem valuesF_plain (t : Term) (gs : List (List Span)) : plain (valuesF t gs) = true ∨ valuesF t gs = [⟨t.sum, t.sum⟩] := by
  unfold valuesF
  rcases List.eq_nil_or_concat (placesF t.parts) with h | ⟨l, a, h⟩
  · rw [h]; exact .inr rfl
  · rw [h, List.concat_eq_append, List.foldl_append]
    exact .inl (plusF_plain _ _)
theorem valuesF_plain' {t : Term} (h : smallN t.sum = true) (gs : List (List Span)) : plain (valuesF t gs) = true := by
  rcases valuesF_plain t gs with h1 | h1
  · exact h1
  · rw [h1]
    have := smallN_iff.1 h
    exact plainFrom_cons.2 ⟨by simp only; omega, rfl⟩
theorem innerP_some {t : Term} {gs : List (List Span)} (hg : goodG gs) (hr : ∀ p ∈ t.parts, rightP p gs.length = true) : ∃ z, innerP t gs z := by
  refine ⟨t.sum + sumV t.parts fun a => match gs[a.toNat]? with | some g => headLo g | none => 0, _, fun p hp => ?_, rfl⟩
  have h1 := rightP_iff.1 (hr p hp)
  have h2 : p.at_.toNat < gs.length := by omega
  have h3 := hg.2 gs[p.at_.toNat] (List.getElem_mem h2)
  refine ⟨gs[p.at_.toNat], List.getElem?_eq_getElem h2, ?_⟩
  rw [List.getElem?_eq_getElem h2]
  exact headLo_mem h3.1 h3.2.2
/-- each window's value is in the set. -/
def fitsP (t : Term) (dom : List Span) (gs : List (List Span)) : Prop := ∀ z, innerP t gs z → (0 ≤ z ∧ z ≤ 1114111) ∧ mem dom (t.base + valF (outerT t) z)
theorem fitsG_iff {t : Term} {dom : List Span} {gs : List (List Span)} (hn : numbersF t = true) (hr : ∀ p ∈ t.parts, rightP p gs.length = true) (hg : goodG gs) (hd : plain dom = true) : fitsG t dom gs = true ↔ fitsP t dom gs := by
  obtain ⟨n1, n2, n3, n4, n5⟩ := numbersF_iff.1 hn
  have hv : ∀ z, mem (valuesF t gs) z ↔ innerP t gs z := fun z => mem_valuesF (fun p hp => by
    have := rightP_iff.1 (hr p hp)
    exact ⟨this.2.2, this.1, this.2.1⟩) n5 (fun g hgm => (hg.2 g hgm).2.1) (smallN_iff.1 n2)
  have hpl := valuesF_plain' n2 gs
  have hb := smallN_iff.1 n1
  obtain ⟨z0, hz0⟩ := innerP_some (t := t) hg hr
  have hne : valuesF t gs ≠ [] := by
    intro h
    have := (hv z0).2 hz0
    rw [h] at this
    exact mem_nil this
  unfold fitsG
  rw [Bool.and_eq_true, okV_iff hpl, List.isEmpty_iff, minusF_nil]
  have himg : (∀ z, innerP t gs z → 0 ≤ z ∧ z ≤ 1114111) → ∀ z, inSet (imageT t gs) z ↔ ∃ x, innerP t gs x ∧ z = t.base + valF (outerT t) x := by
    intro hall z
    unfold imageT
    rw [inSet_plain (moveF_plain _ _), mem_moveF (by omega), inSet_plain (imgF_plain _ _), mem_imgF n3]
    constructor
    · rintro ⟨_, x, ⟨h1, _⟩, h2⟩
      exact ⟨x, (hv x).1 h1.2, by omega⟩
    · rintro ⟨x, h1, rfl⟩
      have h2 := hall x h1
      have h3 := valF_nonneg (outerT t) x
      have h4 := valF_le n3 x
      exact ⟨by omega, x, ⟨⟨by omega, (hv x).2 h1⟩, by omega, by omega⟩, by omega⟩
  constructor
  · rintro ⟨⟨_, h1⟩, h2⟩ z hz
    have hall : ∀ z, innerP t gs z → 0 ≤ z ∧ z ≤ 1114111 := fun z hz => h1 z ((hv z).2 hz)
    refine ⟨hall z hz, ?_⟩
    exact (inSet_plain hd).1 (h2 _ ((himg hall _).2 ⟨z, hz, rfl⟩))
  · intro h
    have hall : ∀ z, innerP t gs z → 0 ≤ z ∧ z ≤ 1114111 := fun z hz => (h z hz).1
    refine ⟨⟨hne, fun z hz => hall z ((hv z).1 hz)⟩, fun z hz => ?_⟩
    obtain ⟨x, h1, rfl⟩ := (himg hall z).1 hz
    exact (inSet_plain hd).2 (h x h1).2
end Go.Um
namespace Go.Um

/-! ### The outer values of a span, one behind the other -/
def outOk (b m u q : Int) : Bool := decide (0 ≤ b + q % m * u ∧ b + q % m * u ≤ 255)
/-- the loop over q: so many are left. -/
def outGo (b m u fr to : Int) : Nat → Int → Bool
  | 0, _ => true
  | f + 1, q => if to < q then true else
      if 300 < q - fr ∧ 300 < m then (if 700 < q - fr then false else (if outOk b m u q = true then outGo b m u fr to f (q + 1) else false))
      else if m < q - fr then true else (if outOk b m u q = true then outGo b m u fr to f (q + 1) else false)
theorem outGo_true {b m u fr to : Int} (hm : 0 < m) (hu : 300 < m → u = 1) : ∀ (f : Nat) (q : Int), fr ≤ q → (q - fr ≤ 701 ∨ q - fr ≤ m + 1) → (to - q + 1 ≤ f) → (∀ r, fr ≤ r → r < q → r ≤ to → outOk b m u r = true) →
    (outGo b m u fr to f q = true ↔ ∀ r, fr ≤ r → r ≤ to → outOk b m u r = true) := by
  intro f
  induction f with
  | zero =>
    intro q h1 _ h2 h3
    exact ⟨fun _ r h4 h5 => h3 r h4 (by omega) h5, fun _ => rfl⟩
  | succ f ih =>
    intro q h1 h1' h2 h3
    have hgo : ∀ (_ : q ≤ to) (_ : q + 1 - fr ≤ 701 ∨ q + 1 - fr ≤ m + 1), ((if outOk b m u q = true then outGo b m u fr to f (q + 1) else false) = true ↔ ∀ r, fr ≤ r → r ≤ to → outOk b m u r = true) := by
      intro h4 h5
      by_cases h6 : outOk b m u q = true
      · rw [if_pos h6]
        exact ih (q + 1) (by omega) h5 (by omega) (fun r h7 h8 h9 => if h : r = q then h ▸ h6 else h3 r h7 (by omega) h9)
      · rw [if_neg h6]
        exact ⟨fun h => absurd h (by decide), fun h => absurd (h q h1 h4) h6⟩
    show (if to < q then true else _) = true ↔ _
    by_cases ht : to < q
    · rw [if_pos ht]
      exact ⟨fun _ r h4 h5 => h3 r h4 (by omega) h5, fun _ => rfl⟩
    · rw [if_neg ht]
      by_cases hc : 300 < q - fr ∧ 300 < m
      · rw [if_pos hc]
        by_cases h7 : 700 < q - fr
        · rw [if_pos h7]
          refine ⟨fun h => absurd h (by decide), fun h => ?_⟩
          exfalso
          have hu1 := hu hc.2
          subst hu1
          have a0 := Int.emod_nonneg fr (show m ≠ 0 by omega)
          have a1 := Int.emod_lt_of_pos fr hm
          have ok : ∀ r, fr ≤ r → r ≤ fr + 700 → 0 ≤ b + r % m ∧ b + r % m ≤ 255 := fun r h8 h9 => by
            have := of_decide_eq_true (h r h8 (by omega))
            rwa [Int.mul_one] at this
          by_cases h8 : fr % m + 300 < m
          · have k1 := ok fr (by omega) (by omega)
            have k2 := ok (fr + 300) (by omega) (by omega)
            have k3 : (fr + 300) % m = fr % m + 300 := by
              have := Int.emod_add_mul_ediv fr m
              rw [show fr + 300 = (fr % m + 300) + m * (fr / m) by omega, Int.add_mul_emod_self_left]
              exact Int.emod_eq_of_lt (by omega) h8
            omega
          · have k0 : (fr + (m - fr % m)) % m = 0 := by
              have := Int.emod_add_mul_ediv fr m
              rw [show fr + (m - fr % m) = 0 + m * (fr / m + 1) by rw [Int.mul_add]; omega, Int.add_mul_emod_self_left]
              rfl
            have k3 : (fr + (m - fr % m) + 300) % m = 300 := by
              have := Int.emod_add_mul_ediv fr m
              rw [show fr + (m - fr % m) + 300 = 300 + m * (fr / m + 1) by rw [Int.mul_add]; omega, Int.add_mul_emod_self_left]
              exact Int.emod_eq_of_lt (by omega) (by omega)
            have k1 := ok (fr + (m - fr % m)) (by omega) (by omega)
            have k2 := ok (fr + (m - fr % m) + 300) (by omega) (by omega)
            omega
        · rw [if_neg h7]
          exact hgo (by omega) (by omega)
      · rw [if_neg hc]
        by_cases h7 : m < q - fr
        · rw [if_pos h7]
          refine ⟨fun _ r h4 h5 => ?_, fun _ => rfl⟩
          have e0 := Int.emod_nonneg (r - fr) (show m ≠ 0 by omega)
          have e1 := Int.emod_lt_of_pos (r - fr) hm
          have e2 : (fr + (r - fr) % m) % m = r % m := by
            rw [Int.add_emod, Int.emod_emod, ← Int.add_emod, show fr + (r - fr) = r by omega]
          have e3 : (r - fr) % m ≤ r - fr := by
            have := Int.emod_add_mul_ediv (r - fr) m
            have h9 : 0 ≤ (r - fr) / m := Int.ediv_nonneg (by omega) (by omega)
            have := Int.mul_nonneg (show 0 ≤ m by omega) h9
            omega
          have k := h3 (fr + (r - fr) % m) (by omega) (by omega) (by omega)
          unfold outOk at k ⊢
          rwa [e2] at k
        · rw [if_neg h7]
          exact hgo (by omega) (by omega)

/-! ### Sums of two lists -/
def Sums (a b : List Int) (ok : Bool) (l : List Int) : Prop := if (∀ x ∈ a, ∀ y ∈ b, x + y ≤ 1114111) then ok = true ∧ Rising l ∧ ∀ z, z ∈ l ↔ ∃ x ∈ a, ∃ y ∈ b, z = x + y else ok = false

/-! ### The inner values, place by place -/
/-- the sums of the parts of one place. -/
def ownP (ps : List Part) (g : List Span) (a z : Int) : Prop := ∃ x, mem g x ∧ z = sumP (ofAt ps a) x
/-- the values of so many places. -/
def nowP (t : Term) (gs : List (List Span)) (k : Nat) (z : Int) : Prop := ∃ f : Int → Int, (∀ a : Nat, a < k → symP gs a (f a)) ∧ z = t.sum + ((List.range k).map fun a : Nat => sumP (ofAt t.parts a) (f a)).sum
theorem nowP_zero {t : Term} {gs : List (List Span)} {z : Int} : nowP t gs 0 z ↔ z = t.sum := by
  unfold nowP
  constructor
  · rintro ⟨f, _, rfl⟩; simp
  · rintro rfl; exact ⟨id, fun a h => absurd h (by omega), by simp⟩
theorem range_sum_congr {k : Nat} {f g : Nat → Int} (h : ∀ a, a < k → f a = g a) : ((List.range k).map f).sum = ((List.range k).map g).sum := by
  congr 1
  exact List.map_congr_left fun a ha => h a (List.mem_range.1 ha)
theorem nowP_succ {t : Term} {gs : List (List Span)} {k : Nat} {g : List Span} (hg : gs[k]? = some g) {z : Int} : nowP t gs (k + 1) z ↔ ∃ u v, nowP t gs k u ∧ ownP t.parts g k v ∧ z = u + v := by
  have hsum : ∀ f : Nat → Int, ((List.range (k + 1)).map f).sum = ((List.range k).map f).sum + f k := fun f => by
    rw [List.range_succ, List.map_append, List.sum_append]; simp
  constructor
  · rintro ⟨f, h1, rfl⟩
    obtain ⟨g', hg', h2⟩ := h1 k (by omega)
    rw [show ((k : Int)).toNat = k by omega, hg] at hg'
    cases hg'
    exact ⟨_, _, ⟨f, fun a ha => h1 a (by omega), rfl⟩, ⟨f k, h2, rfl⟩, by rw [hsum]; omega⟩
  · rintro ⟨u, v, ⟨f, h1, rfl⟩, ⟨x, h2, rfl⟩, rfl⟩
    refine ⟨fun a => if a = (k : Int) then x else f a, fun a ha => ?_, ?_⟩
    · by_cases hak : a = k
      · subst hak
        simp only [if_true]
        exact ⟨g, by rw [show ((a : Int)).toNat = a by omega]; exact hg, h2⟩
      · have : ¬ (a : Int) = (k : Int) := by omega
        simp only [this, if_false]
        exact h1 a (by omega)
    · rw [hsum]
      have e : ((List.range k).map fun a : Nat => sumP (ofAt t.parts a) ((fun a : Int => if a = (k : Int) then x else f a) a)).sum = ((List.range k).map fun a : Nat => sumP (ofAt t.parts a) (f a)).sum :=
        range_sum_congr fun a ha => by
          have : ¬ (a : Int) = (k : Int) := by omega
          simp only [this, if_false]
      rw [e]
      simp only [if_true]
      omega
theorem ofAt_nil {ps : List Part} {a : Int} (h : ∀ p ∈ ps, p.at_ ≠ a) : ofAt ps a = [] := by
  unfold ofAt
  rw [List.filter_eq_nil_iff]
  intro p hp
  have := h p hp
  simpa using this
theorem nowP_skip {t : Term} {gs : List (List Span)} {k : Nat} {g : List Span} (hg : gs[k]? = some g) (hn : ∃ x, mem g x) (h : ofAt t.parts k = []) {z : Int} : nowP t gs (k + 1) z ↔ nowP t gs k z := by
  rw [nowP_succ hg]
  unfold ownP
  rw [h]
  constructor
  · rintro ⟨u, v, h1, ⟨x, _, rfl⟩, rfl⟩
    rw [sumP_nil, Int.add_zero]; exact h1
  · intro h1
    obtain ⟨x, hx⟩ := hn
    exact ⟨z, 0, h1, ⟨x, hx, rfl⟩, by omega⟩
theorem nowP_all {t : Term} {gs : List (List Span)} (hr : ∀ p ∈ t.parts, rightP p gs.length = true) (hg : goodG gs) {z : Int} : nowP t gs gs.length z ↔ innerP t gs z := by
  have hnd : ((List.range gs.length).map fun k : Nat => (k : Int)).Nodup := by
    rw [List.Nodup, List.pairwise_map]
    exact List.nodup_range.imp fun hab e => hab (by omega)
  have hin : ∀ p ∈ t.parts, p.at_ ∈ (List.range gs.length).map fun k : Nat => (k : Int) := fun p hp => by
    have := rightP_iff.1 (hr p hp)
    exact List.mem_map.2 ⟨p.at_.toNat, by rw [List.mem_range]; omega, by omega⟩
  have hsum : ∀ f : Int → Int, ((List.range gs.length).map fun a : Nat => sumP (ofAt t.parts a) (f a)).sum = sumV t.parts f := fun f => by
    rw [← sum_places hnd hin f, List.map_map]
    rfl
  constructor
  · rintro ⟨f, h1, rfl⟩
    refine ⟨f, fun p hp => ?_, by rw [hsum]⟩
    have := rightP_iff.1 (hr p hp)
    have h2 := h1 p.at_.toNat (by omega)
    rwa [show ((p.at_.toNat : Nat) : Int) = p.at_ by omega] at h2
  · rintro ⟨f, h1, rfl⟩
    -- places that no part has: any symbol of theirs
    refine ⟨fun a => if ∃ p ∈ t.parts, p.at_ = a then f a else (match gs[a.toNat]? with | some g => headLo g | none => 0), fun a ha => ?_, ?_⟩
    · by_cases h2 : ∃ p ∈ t.parts, p.at_ = (a : Int)
      · simp only [h2, if_true]
        obtain ⟨p, hp, he⟩ := h2
        rw [← he]
        exact h1 p hp
      · simp only [h2, if_false]
        have h3 := hg.2 gs[a] (List.getElem_mem ha)
        rw [show ((a : Int)).toNat = a by omega, List.getElem?_eq_getElem ha]
        exact ⟨gs[a], by rw [show ((a : Int)).toNat = a by omega]; exact List.getElem?_eq_getElem ha, headLo_mem h3.1 h3.2.2⟩
    · have e := hsum fun a => if ∃ p ∈ t.parts, p.at_ = a then f a else (match gs[a.toNat]? with | some g => headLo g | none => 0)
      refine Eq.trans ?_ (congrArg (t.sum + ·) e.symm)
      show t.sum + sumV t.parts f = t.sum + sumV t.parts _
      unfold sumV
      congr 2
      refine List.map_congr_left fun p hp => ?_
      have : ∃ q ∈ t.parts, q.at_ = p.at_ := ⟨p, hp, rfl⟩
      simp only [this, if_true]
/-- values only grow: what is too great at a place is too great at the end. -/
theorem nowP_grow {t : Term} {gs : List (List Span)} (hg : goodG gs) {k : Nat} (hk : k ≤ gs.length) {z : Int} (h : nowP t gs k z) : ∃ y, nowP t gs gs.length y ∧ z ≤ y := by
  have key : ∀ n, k + n ≤ gs.length → ∃ y, nowP t gs (k + n) y ∧ z ≤ y := by
    intro n
    induction n with
    | zero => intro _; exact ⟨z, h, Int.le_refl _⟩
    | succ n ih =>
      intro hn
      obtain ⟨y, h1, h2⟩ := ih (by omega)
      have hlt : k + n < gs.length := by omega
      have h3 := hg.2 gs[k + n] (List.getElem_mem hlt)
      refine ⟨y + sumP (ofAt t.parts ((k + n : Nat) : Int)) (headLo gs[k + n]), (nowP_succ (List.getElem?_eq_getElem hlt)).2 ⟨_, _, h1, ⟨_, headLo_mem h3.1 h3.2.2, rfl⟩, rfl⟩, ?_⟩
      have : 0 ≤ sumP (ofAt t.parts ((k + n : Nat) : Int)) (headLo gs[k + n]) := by
        generalize ofAt t.parts ((k + n : Nat) : Int) = l
        induction l with
        | nil => exact Int.le_refl _
        | cons p r ih2 => rw [sumP_cons]; have := valF_nonneg p (headLo gs[k + n]); omega
      omega
  have := key (gs.length - k) (by omega)
  rwa [show k + (gs.length - k) = gs.length by omega] at this

/-! ### What comes out -/
def outSpan (t : Term) (s : Span) : Bool := outGo t.base (pw t.take) (pw t.up) (s.lo / pw t.drop) (s.hi / pw t.drop) (s.hi / pw t.drop - s.lo / pw t.drop + 1).toNat (s.lo / pw t.drop)
def outAll (t : Term) (l : List Span) : Bool := l.all (outSpan t)
theorem outSpan_iff {t : Term} (hb : bitsF (outerT t) = true) {s : Span} (hs : s.lo ≤ s.hi) : outSpan t s = true ↔ ∀ z, s.lo ≤ z ∧ z ≤ s.hi → 0 ≤ t.base + valF (outerT t) z ∧ t.base + valF (outerT t) z ≤ 255 := by
  have h := bitsF_iff.1 hb
  have hu : 300 < pw t.take → pw t.up = 1 := fun h1 => by
    rcases h.2.2.2.2.2.2 with h2 | h2
    · have h3 : t.up = 0 := h2
      rw [h3]; rfl
    · have := pw_6 (n := t.take) h2
      omega
  have hd := Int.ediv_le_ediv (pw_pos t.drop) hs
  unfold outSpan
  rw [outGo_true (pw_pos _) hu _ _ (Int.le_refl _) (by omega) (by omega) (fun r h1 h2 => absurd h1 (by omega))]
  constructor
  · intro h1 z hz
    have h2 := (ediv_span (pw_pos t.drop) hs (q := z / pw t.drop)).1 ⟨z, hz.1, hz.2, rfl⟩
    have h3 := of_decide_eq_true (h1 _ h2.1 h2.2)
    exact h3
  · intro h1 r h2 h3
    obtain ⟨z, hz1, hz2, rfl⟩ := (ediv_span (pw_pos t.drop) hs (q := r)).2 ⟨h2, h3⟩
    exact decide_eq_true (h1 z ⟨hz1, hz2⟩)
theorem outAll_iff {t : Term} (hb : bitsF (outerT t) = true) {l : List Span} (hl : neL l) : outAll t l = true ↔ ∀ z, mem l z → 0 ≤ t.base + valF (outerT t) z ∧ t.base + valF (outerT t) z ≤ 255 := by
  unfold outAll
  rw [List.all_eq_true]
  constructor
  · rintro h z ⟨s, hs, hz⟩
    exact (outSpan_iff hb (hl s hs)).1 (h s hs) z hz
  · intro h s hs
    exact (outSpan_iff hb (hl s hs)).2 fun z hz => h z ⟨s, hs, hz⟩
theorem valF_plain {t : Term} (h : plainT t = true) {z : Int} (hz : 0 ≤ z ∧ z ≤ 1114111) : t.base + valF (outerT t) z = z := by
  have h1 := of_decide_eq_true h
  unfold valF outerT
  simp only
  rw [h1.1, h1.2.1, h1.2.2.1, h1.2.2.2, show pw 0 = 1 from rfl, show pw 21 = 2097152 from rfl]
  omega
theorem valF_whole {a z : Int} (hz : 0 ≤ z ∧ z ≤ 1114111) : valF (wholeP a) z = z := by
  unfold valF wholeP
  simp only
  rw [show pw 0 = 1 from rfl, show pw 21 = 2097152 from rfl]
  omega
end Go.Um
namespace Go.Um
/-- where the piece that begins at a border ends. -/
def toR : List Int → Int
  | [] => 1073741824
  | y :: _ => y - 1
def stepR (out : List Span) (s : Span) : List Span :=
  match out.getLast? with
  | some t => if t.hi = s.lo - 1 then out.dropLast ++ [⟨t.lo, s.hi⟩] else out ++ [s]
  | none => out ++ [s]
def makeR (f : Int → Bool) : List Int → List Span → List Span
  | [], out => out
  | x :: r, out => makeR f r (if f x then stepR out ⟨x, toR r⟩ else out)
theorem stepR_join {out : List Span} {s : Span} (h : ∀ t, out.getLast? = some t → t.hi ≤ s.lo - 1) (hs : s.lo - 1 ≤ s.hi) : stepR out s = joinStep out s := by
  unfold stepR joinStep
  cases hl : out.getLast? with
  | none => rfl
  | some t =>
    have := h t hl
    simp only
    by_cases he : t.hi = s.lo - 1
    · rw [if_pos he, if_pos (by omega), show max t.hi s.hi = s.hi by omega]
    · rw [if_neg he, if_neg (by omega)]
theorem last_step {out : List Span} {s t : Span} (h : (stepR out s).getLast? = some t) : t.hi = s.hi := by
  unfold stepR at h
  cases hl : out.getLast? with
  | none => rw [hl] at h; simp at h; rw [← h]
  | some u =>
    rw [hl] at h
    simp only at h
    split at h
    · simp at h; rw [← h]
    · simp at h; rw [← h]
theorem segsF_cons (f : Int → Bool) (x : Int) (r : List Int) : segsF f (x :: r) = if f x then ⟨x, toR r⟩ :: segsF f r else segsF f r := by cases r <;> rfl
theorem makeR_eq {f : Int → Bool} : ∀ {l : List Int} {out : List Span}, Rising l → (∀ x ∈ l, x ≤ 1073741824) → (∀ t x, out.getLast? = some t → l.head? = some x → t.hi ≤ x - 1) → makeR f l out = joinL out (segsF f l) := by
  intro l
  induction l with
  | nil => intro out _ _ _; rfl
  | cons x r ih =>
    intro out hr hb hl
    obtain ⟨h1, h2⟩ := List.pairwise_cons.1 hr
    have hx := hb x (by simp)
    have hto : x ≤ toR r := by
      cases r with
      | nil => exact hx
      | cons y q => have := h1 y (by simp); show x ≤ y - 1; omega
    have hnext : ∀ y, r.head? = some y → toR r = y - 1 := fun y hy => by
      cases r with
      | nil => cases hy
      | cons z q => simp at hy; subst hy; rfl
    rw [segsF_cons]
    unfold makeR
    by_cases hf : f x = true
    · rw [if_pos hf, ih h2 (fun y hy => hb y (by simp [hy])) (fun t y ht hy => ?_)]
      · rw [if_pos hf, joinL, stepR_join (fun t ht => hl t x ht rfl) (by show x - 1 ≤ toR r; omega)]
      · have := last_step ht
        have := hnext y hy
        simp only at *
        omega
    · rw [if_neg hf, ih h2 (fun y hy => hb y (by simp [hy])) (fun t y ht hy => ?_)]
      · rw [if_neg hf]
      · have h3 := hl t x ht rfl
        have h4 := h1 y (by cases r with | nil => cases hy | cons z q => simp at hy; simp [hy])
        omega
/-- what Make does with two answers. -/
def gOf (how : Int) (a b : Bool) : Bool := if how = 2 then a && !b else if how = 1 then a && b else a || b
theorem makeR_ref (how : Int) (a b : List Span) : makeR (fun z => gOf how (hasF a z) (hasF b z)) (bordersF a b) [] = refMake (gOf how) a b := by
  obtain ⟨h1, h2⟩ := borders_spec a b
  refine makeR_eq h1 (fun x hx => ?_) (fun t x ht => (by simp at ht))
  rcases (h2 x).1 hx with rfl | ⟨s, _, ⟨rfl, q⟩ | ⟨rfl, q⟩⟩ <;> omega
theorem borders_bd {a b : List Span} {x : Int} (hx : x ∈ bordersF a b) : -1073741824 ≤ x ∧ x ≤ 1073741824 := by
  obtain ⟨_, h2⟩ := borders_spec a b
  rcases (h2 x).1 hx with rfl | ⟨s, _, ⟨rfl, q⟩ | ⟨rfl, q⟩⟩ <;> omega
theorem stepR_len (out : List Span) (s : Span) : (stepR out s).length ≤ out.length + 1 := by
  unfold stepR
  cases hl : out.getLast? with
  | none => simp
  | some t => simp only; split <;> simp <;> omega
theorem stepR_nil (s : Span) : stepR [] s = [s] := rfl
theorem stepR_eq {init : List Span} {t s : Span} (h : t.hi = s.lo - 1) : stepR (init ++ [t]) s = init ++ [⟨t.lo, s.hi⟩] := by
  unfold stepR; simp [h]
theorem stepR_ne {init : List Span} {t s : Span} (h : t.hi ≠ s.lo - 1) : stepR (init ++ [t]) s = init ++ [t] ++ [s] := by
  unfold stepR; simp [h]
theorem list_snoc {α : Type} (l : List α) : l = [] ∨ ∃ init t, l = init ++ [t] := by
  cases h : l.getLast? with
  | none => left; simpa using h
  | some t => right; exact ⟨l.dropLast, t, by rw [List.getLast?_eq_some_iff] at h; obtain ⟨q, rfl⟩ := h; simp⟩
theorem borders_length (a b : List Span) : (bordersF a b).length ≤ 1 + 2 * (a.length + b.length) := by
  have hput : ∀ (x : Int) (l : List Int), (putF x l).length ≤ l.length + 1 := by
    intro x l
    induction l with
    | nil => simp [putF]
    | cons y r ih =>
      unfold putF
      split
      · simp; omega
      · split <;> simp
  have hb : ∀ (s : Span) (l : List Int), (bordS l s).length ≤ l.length + 2 := by
    intro s l
    unfold bordS
    simp only
    have h1 := hput s.lo l
    split
    · split
      · have := hput (s.hi + 1) (putF s.lo l); omega
      · have := hput (s.hi + 1) l; omega
    · split
      · omega
      · omega
  have hf : ∀ (s : List Span) (l : List Int), (s.foldl bordS l).length ≤ l.length + 2 * s.length := by
    intro s
    induction s with
    | nil => intro l; simp
    | cons x r ih =>
      intro l
      have h1 := ih (bordS l x)
      have h2 := hb x l
      simp only [List.foldl_cons, List.length_cons]
      omega
  have h1 := hf a [-1073741824]
  have h2 := hf b (a.foldl bordS [-1073741824])
  unfold bordersF
  simp at h1
  omega
end Go.Um
namespace Go.Um
/-! ### Numbers as a set -/
def spansF (l : List Int) : List Span := l.foldl (fun out z => stepR out ⟨z, z⟩) []
theorem neL_append {a b : List Span} : neL (a ++ b) ↔ neL a ∧ neL b := by
  unfold neL
  simp only [List.mem_append]
  constructor
  · intro h; exact ⟨fun s hs => h s (.inl hs), fun s hs => h s (.inr hs)⟩
  · rintro ⟨h1, h2⟩ s (hs | hs)
    · exact h1 s hs
    · exact h2 s hs
theorem mem_one {s : Span} {z : Int} : mem [s] z ↔ s.lo ≤ z ∧ z ≤ s.hi := by simp [mem]
theorem stepR_spec {out : List Span} {s : Span} (ho : neL out) (hs : s.lo ≤ s.hi) : neL (stepR out s) ∧ ∀ z, mem (stepR out s) z ↔ mem out z ∨ (s.lo ≤ z ∧ z ≤ s.hi) := by
  rcases list_snoc out with rfl | ⟨init, t, rfl⟩
  · rw [stepR_nil]
    exact ⟨fun x hx => by simp at hx; subst hx; exact hs, fun z => by rw [mem_one]; simp [mem_nil]⟩
  · have ht := ho t (by simp)
    by_cases h : t.hi = s.lo - 1
    · rw [stepR_eq h]
      refine ⟨neL_append.2 ⟨(neL_append.1 ho).1, fun x hx => ?_⟩, fun z => ?_⟩
      · simp at hx; subst hx; simp only; omega
      · rw [mem_append, mem_append, mem_one, mem_one]
        simp only
        constructor
        · rintro (h1 | h1)
          · exact .inl (.inl h1)
          · by_cases hz : z ≤ t.hi
            · exact .inl (.inr ⟨h1.1, hz⟩)
            · exact .inr ⟨by omega, h1.2⟩
        · rintro ((h1 | h1) | h1)
          · exact .inl h1
          · exact .inr ⟨h1.1, by omega⟩
          · exact .inr ⟨by omega, h1.2⟩
    · rw [stepR_ne h]
      exact ⟨neL_append.2 ⟨ho, fun x hx => by simp at hx; subst hx; exact hs⟩, fun z => by rw [mem_append, mem_one]⟩
theorem fold_spans {l : List Int} : ∀ {out : List Span}, neL out → neL (l.foldl (fun out z => stepR out ⟨z, z⟩) out) ∧ (∀ z, mem (l.foldl (fun out z => stepR out ⟨z, z⟩) out) z ↔ mem out z ∨ z ∈ l) ∧ (l.foldl (fun out z => stepR out ⟨z, z⟩) out).length ≤ out.length + l.length := by
  induction l with
  | nil => intro out h; exact ⟨h, fun z => by simp, by simp⟩
  | cons x r ih =>
    intro out h
    have h1 := stepR_spec (s := ⟨x, x⟩) h (Int.le_refl _)
    obtain ⟨i1, i2, i3⟩ := ih h1.1
    have h2 := stepR_len out ⟨x, x⟩
    refine ⟨i1, fun z => ?_, by simp only [List.foldl_cons, List.length_cons]; omega⟩
    rw [List.foldl_cons, i2, h1.2, List.mem_cons]
    simp only
    constructor
    · rintro ((h3 | h3) | h3)
      · exact .inl h3
      · exact .inr (.inl (by omega))
      · exact .inr (.inr h3)
    · rintro (h3 | h3 | h3)
      · exact .inl (.inl h3)
      · exact .inl (.inr (by omega))
      · exact .inr h3
theorem neL_nil : neL [] := fun _ h => by cases h
theorem spansF_ne (l : List Int) : neL (spansF l) := (fold_spans (l := l) neL_nil).1
theorem mem_spansF {l : List Int} {z : Int} : mem (spansF l) z ↔ z ∈ l := by
  unfold spansF
  rw [(fold_spans (l := l) neL_nil).2.1]
  simp [mem_nil]
theorem spansF_length (l : List Int) : (spansF l).length ≤ l.length := by
  have := (fold_spans (l := l) (out := []) neL_nil).2.2
  simpa [spansF] using this
theorem rising_count {l : List Int} (h : Rising l) {lo hi : Int} (hb : ∀ z ∈ l, lo ≤ z ∧ z ≤ hi) : l.length ≤ (hi - lo + 1).toNat := by
  induction l generalizing lo with
  | nil => simp
  | cons x r ih =>
    obtain ⟨h1, h2⟩ := List.pairwise_cons.1 h
    have hx := hb x (by simp)
    have := ih h2 (lo := x + 1) (fun z hz => ⟨by have := h1 z hz; omega, (hb z (by simp [hz])).2⟩)
    simp only [List.length_cons]
    omega

/-! ### Sums of two lists, one by one -/
def sumIn {α : Type} (ins : Int → α → α) (x : Int) : List Int → α → Option α
  | [], o => some o
  | y :: r, o => if 1114111 < x + y then none else sumIn ins x r (ins (x + y) o)
def sumOut {α : Type} (ins : Int → α → α) : List Int → List Int → α → Option α
  | [], _, o => some o
  | x :: r, b, o => (sumIn ins x b o).bind (sumOut ins r b)
theorem sumIn_spec {α : Type} {ins : Int → α → α} {P : α → Int → Prop} {I : α → Prop} (hP : ∀ z o w, P (ins z o) w ↔ w = z ∨ P o w) (hI : ∀ z o, I o → I (ins z o)) {x : Int} {b : List Int} : ∀ {o : α}, I o →
    (sumIn ins x b o = none ↔ ∃ y ∈ b, 1114111 < x + y) ∧ ∀ o', sumIn ins x b o = some o' → I o' ∧ ∀ w, P o' w ↔ P o w ∨ ∃ y ∈ b, w = x + y := by
  induction b with
  | nil => intro o hi; exact ⟨by simp [sumIn], fun o' h => by simp [sumIn] at h; subst h; exact ⟨hi, fun w => by simp⟩⟩
  | cons y r ih =>
    intro o hi
    unfold sumIn
    by_cases h : 1114111 < x + y
    · rw [if_pos h]
      exact ⟨⟨fun _ => ⟨y, by simp, h⟩, fun _ => rfl⟩, fun o' h' => by cases h'⟩
    · rw [if_neg h]
      obtain ⟨i1, i2⟩ := ih (hI (x + y) o hi)
      refine ⟨?_, fun o' ho => ?_⟩
      · rw [i1]
        constructor
        · rintro ⟨z, hz, hz2⟩; exact ⟨z, by simp [hz], hz2⟩
        · rintro ⟨z, hz, hz2⟩
          rcases List.mem_cons.1 hz with rfl | hz
          · exact absurd hz2 h
          · exact ⟨z, hz, hz2⟩
      · obtain ⟨k1, k2⟩ := i2 o' ho
        refine ⟨k1, fun w => ?_⟩
        rw [k2, hP]
        constructor
        · rintro ((h1 | h1) | ⟨z, hz, h1⟩)
          · exact .inr ⟨y, by simp, h1⟩
          · exact .inl h1
          · exact .inr ⟨z, by simp [hz], h1⟩
        · rintro (h1 | ⟨z, hz, h1⟩)
          · exact .inl (.inr h1)
          · rcases List.mem_cons.1 hz with rfl | hz
            · exact .inl (.inl h1)
            · exact .inr ⟨z, hz, h1⟩
theorem sumOut_spec {α : Type} {ins : Int → α → α} {P : α → Int → Prop} {I : α → Prop} (hP : ∀ z o w, P (ins z o) w ↔ w = z ∨ P o w) (hI : ∀ z o, I o → I (ins z o)) {a b : List Int} : ∀ {o : α}, I o →
    (sumOut ins a b o = none ↔ ∃ x ∈ a, ∃ y ∈ b, 1114111 < x + y) ∧ ∀ o', sumOut ins a b o = some o' → I o' ∧ ∀ w, P o' w ↔ P o w ∨ ∃ x ∈ a, ∃ y ∈ b, w = x + y := by
  induction a with
  | nil => intro o hi; exact ⟨by simp [sumOut], fun o' h => by simp [sumOut] at h; subst h; exact ⟨hi, fun w => by simp⟩⟩
  | cons x r ih =>
    intro o hi
    obtain ⟨s1, s2⟩ := sumIn_spec (P := P) hP hI (x := x) (b := b) hi
    unfold sumOut
    cases hs : sumIn ins x b o with
    | none =>
      rw [Option.bind_none]
      refine ⟨⟨fun _ => ?_, fun _ => rfl⟩, fun o' h' => by cases h'⟩
      obtain ⟨y, h1, h2⟩ := s1.1 hs
      exact ⟨x, by simp, y, h1, h2⟩
    | some o1 =>
      rw [Option.bind_some]
      obtain ⟨k1, k2⟩ := s2 o1 hs
      obtain ⟨i1, i2⟩ := ih k1
      have hno : ¬ ∃ y ∈ b, 1114111 < x + y := fun h => by have := s1.2 h; rw [hs] at this; cases this
      refine ⟨?_, fun o' ho => ?_⟩
      · rw [i1]
        constructor
        · rintro ⟨z, hz, hz2⟩; exact ⟨z, by simp [hz], hz2⟩
        · rintro ⟨z, hz, hz2⟩
          rcases List.mem_cons.1 hz with rfl | hz
          · exact absurd hz2 hno
          · exact ⟨z, hz, hz2⟩
      · obtain ⟨j1, j2⟩ := i2 o' ho
        refine ⟨j1, fun w => ?_⟩
        rw [j2, k2]
        constructor
        · rintro ((h1 | h1) | ⟨z, hz, h1⟩)
          · exact .inl h1
          · exact .inr ⟨x, by simp, h1⟩
          · exact .inr ⟨z, by simp [hz], h1⟩
        · rintro (h1 | ⟨z, hz, h1⟩)
          · exact .inl (.inl h1)
          · rcases List.mem_cons.1 hz with rfl | hz
            · exact .inl (.inr h1)
            · exact .inr ⟨z, hz, h1⟩
theorem all_le {a b : List Int} : (∀ x ∈ a, ∀ y ∈ b, x + y ≤ 1114111) ↔ ¬ ∃ x ∈ a, ∃ y ∈ b, 1114111 < x + y := by
  constructor
  · rintro h ⟨x, hx, y, hy, hz⟩; have := h x hx y hy; omega
  · intro h x hx y hy
    rcases Int.lt_or_le 1114111 (x + y) with h1 | h1
    · exact absurd ⟨x, hx, y, hy, h1⟩ h
    · exact h1
/-- with put. -/
theorem sums_put_none {a b : List Int} (h : sumOut putF a b [] = none) (l : List Int) : Sums a b false l := by
  have h1 := (sumOut_spec (ins := putF) (P := fun o w => w ∈ o) (I := Rising) (fun z o w => mem_putF) (fun z o hi => putF_rising hi) (a := a) (b := b) (o := []) List.Pairwise.nil).1.1 h
  unfold Sums
  rw [if_neg (by rw [all_le]; exact fun h2 => h2 h1)]
theorem sums_put_some {a b l : List Int} (h : sumOut putF a b [] = some l) : Sums a b true l := by
  obtain ⟨h1, h2⟩ := sumOut_spec (ins := putF) (P := fun o w => w ∈ o) (I := Rising) (fun z o w => mem_putF) (fun z o hi => putF_rising hi) (a := a) (b := b) (o := []) List.Pairwise.nil
  obtain ⟨h3, h4⟩ := h2 l h
  unfold Sums
  rw [if_pos (by rw [all_le, ← h1, h]; simp)]
  exact ⟨rfl, h3, fun z => by rw [h4]; simp⟩
/-- with a table. -/
def insS (z : Int) (S : Int → Bool) : Int → Bool := fun w => decide (w = z) || S w
/-- what a table holds before a place. -/
def colF (S : Int → Bool) (n : Nat) : List Int := ((List.range n).filter fun j : Nat => S ((j : Int) - 1114111)).map fun j : Nat => (j : Int) - 1114111
theorem colF_zero (S : Int → Bool) : colF S 0 = [] := rfl
theorem colF_yes {S : Int → Bool} {n : Nat} (h : S ((n : Int) - 1114111) = true) : colF S (n + 1) = colF S n ++ [(n : Int) - 1114111] := by
  simp [colF, List.range_succ, List.filter_append, h]
theorem colF_no {S : Int → Bool} {n : Nat} (h : S ((n : Int) - 1114111) = false) : colF S (n + 1) = colF S n := by
  simp [colF, List.range_succ, List.filter_append, h]
theorem colF_length (S : Int → Bool) (n : Nat) : (colF S n).length ≤ n := by
  unfold colF
  rw [List.length_map]
  exact Nat.le_trans (List.length_filter_le _ _) (by simp)
theorem mem_colF {S : Int → Bool} {n : Nat} {z : Int} : z ∈ colF S n ↔ (-1114111 ≤ z ∧ z < (n : Int) - 1114111) ∧ S z = true := by
  unfold colF
  simp only [List.mem_map, List.mem_filter, List.mem_range]
  constructor
  · rintro ⟨j, ⟨h1, h2⟩, rfl⟩
    exact ⟨⟨by omega, by omega⟩, h2⟩
  · rintro ⟨⟨h1, h2⟩, h3⟩
    refine ⟨(z + 1114111).toNat, ⟨by omega, ?_⟩, by omega⟩
    rw [show (((z + 1114111).toNat : Nat) : Int) - 1114111 = z by omega]
    exact h3
theorem colF_rising (S : Int → Bool) (n : Nat) : Rising (colF S n) := by
  induction n with
  | zero => exact List.Pairwise.nil
  | succ n ih =>
    cases h : S ((n : Int) - 1114111) with
    | true =>
      rw [colF_yes h]
      refine List.pairwise_append.2 ⟨ih, by simp, fun a ha b hb => ?_⟩
      simp at hb
      subst hb
      exact (mem_colF.1 ha).1.2
    | false => rw [colF_no h]; exact ih
theorem sums_tab_none {a b : List Int} (h : sumOut insS a b (fun _ => false) = none) (l : List Int) : Sums a b false l := by
  have h1 := (sumOut_spec (ins := insS) (P := fun o w => o w = true) (I := fun _ => True) (fun z o w => by simp [insS]) (fun _ _ _ => trivial) (a := a) (b := b) (o := fun _ => false) trivial).1.1 h
  unfold Sums
  rw [if_neg (by rw [all_le]; exact fun h2 => h2 h1)]
theorem sums_tab_some {a b : List Int} {S : Int → Bool} (h : sumOut insS a b (fun _ => false) = some S) (hb : ∀ x ∈ a, ∀ y ∈ b, -1114111 ≤ x + y) : Sums a b true (colF S 2228223) := by
  obtain ⟨h1, h2⟩ := sumOut_spec (ins := insS) (P := fun o w => o w = true) (I := fun _ => True) (fun z o w => by simp [insS]) (fun _ _ _ => trivial) (a := a) (b := b) (o := fun _ => false) trivial
  obtain ⟨_, h4⟩ := h2 S h
  have hall : ∀ x ∈ a, ∀ y ∈ b, x + y ≤ 1114111 := by rw [all_le, ← h1, h]; simp
  unfold Sums
  rw [if_pos hall]
  refine ⟨rfl, colF_rising _ _, fun z => ?_⟩
  rw [mem_colF, h4]
  constructor
  · rintro ⟨_, h5 | h5⟩
    · cases h5
    · exact h5
  · rintro ⟨x, hx, y, hy, rfl⟩
    have := hall x hx y hy
    have := hb x hx y hy
    exact ⟨⟨by omega, by omega⟩, .inr ⟨x, hx, y, hy, rfl⟩⟩
/-- the cells of a table. -/
def tabL (n : Nat) (S : Int → Bool) : List Bool := (List.range n).map fun j : Nat => S ((j : Int) - 1114111)
theorem tabL_length (n : Nat) (S : Int → Bool) : (tabL n S).length = n := by simp [tabL]
theorem tabL_get {n : Nat} {S : Int → Bool} {j : Nat} (h : j < n) : (tabL n S)[j]? = some (S ((j : Int) - 1114111)) := by
  simp [tabL, h]
theorem tabL_set {n : Nat} {S : Int → Bool} {j : Nat} {z : Int} (hz : (j : Int) = z + 1114111) : (tabL n S).set j true = tabL n (insS z S) := by
  refine List.ext_getElem? fun i => ?_
  rw [List.getElem?_set]
  by_cases hij : j = i
  · subst hij
    rw [if_pos rfl, tabL_length]
    split
    · next h => rw [tabL_get h, insS]; simp; left; omega
    · next h => rw [List.getElem?_eq_none (by rw [tabL_length]; omega)]
  · rw [if_neg hij]
    by_cases hi : i < n
    · rw [tabL_get hi, tabL_get hi, insS]
      have : ¬ ((i : Int) - 1114111 = z) := by omega
      simp [this]
    · rw [List.getElem?_eq_none (by rw [tabL_length]; omega), List.getElem?_eq_none (by rw [tabL_length]; omega)]
theorem tabL_none (n : Nat) : tabL n (fun _ => false) = List.replicate n false := by
  simp [tabL, List.map_const']
end Go.Um
namespace Go.Um
def BRow (w : World) (G : Nat) (te : TypeId) (bs : List Bool) : Prop := w.heap[G]? = some (.cells (bs.map Value.bool).toArray te (0, 0))
theorem BRow.at {w : World} {G : Nat} {te : TypeId} {bs : List Bool} (h : BRow w G te bs) {t : Nat} {b : Bool} (ht : bs[t]? = some b) : w.cell? ⟨G, t, none⟩ = some (.bool b) ∧ w.frozen? ⟨G, t, none⟩ = false := by
  refine ⟨?_, frozen_of_row _ _ _ _ _ h⟩
  rw [cell_of_row _ _ _ _ _ _ h]
  simp [ht]
theorem BRow.put {w : World} {G : Nat} {te : TypeId} {bs : List Bool} (h : BRow w G te bs) (t : Nat) (b : Bool) : BRow (w.setCell ⟨G, t, none⟩ (.bool b)) G te (bs.set t b) := by
  unfold BRow at h ⊢
  rw [heap_setCell_same w G t _ te _ h]
  congr 2
  apply Array.ext'
  simp [List.map_set]
theorem BRow.carry {w w' : World} {G : Nat} {te : TypeId} {bs : List Bool} (h : BRow w G te bs) (hb : w'.heap[G]? = w.heap[G]?) : BRow w' G te bs := hb.trans h
theorem BRow.make (w : World) (te : TypeId) (n : Nat) : BRow (w.alloc (.cells (madeCells #[.bool false] n) te)) w.heap.size te (List.replicate n false) := by
  unfold BRow
  rw [heap_alloc_new]
  congr 2
  apply Array.ext'
  rw [toList_madeCells_one]
  simp
end Go.Um
namespace Go.Um
/-- the values of one place so far, each once, rising. -/
def ownN (ps : List Part) (g : List Span) (a : Int) : Nat → List Int
  | 0 => []
  | n + 1 => if hasF g n then putF (sumP (ofAt ps a) n) (ownN ps g a n) else ownN ps g a n
def anyN (ps : List Part) (g : List Span) (a : Int) : Nat → Bool
  | 0 => false
  | n + 1 => if hasF g n then anyN ps g a n || !(ofAt ps a).isEmpty else anyN ps g a n
theorem ownN_rising (ps : List Part) (g : List Span) (a : Int) (n : Nat) : Rising (ownN ps g a n) := by
  induction n with
  | zero => exact List.Pairwise.nil
  | succ n ih => unfold ownN; split; exact putF_rising ih; exact ih
theorem mem_ownN {ps : List Part} {g : List Span} {a : Int} {n : Nat} {z : Int} : z ∈ ownN ps g a n ↔ ∃ j : Nat, j < n ∧ inSet g j ∧ z = sumP (ofAt ps a) j := by
  induction n with
  | zero => simp [ownN]
  | succ n ih =>
    unfold ownN
    by_cases h : hasF g n = true
    · rw [if_pos h, mem_putF, ih]
      constructor
      · rintro (h1 | ⟨j, h1, h2⟩)
        · exact ⟨n, by omega, hasF_iff.1 h, h1⟩
        · exact ⟨j, by omega, h2⟩
      · rintro ⟨j, h1, h2, h3⟩
        by_cases hj : j = n
        · subst hj; exact .inl h3
        · exact .inr ⟨j, by omega, h2, h3⟩
    · rw [if_neg h, ih]
      constructor
      · rintro ⟨j, h1, h2⟩; exact ⟨j, by omega, h2⟩
      · rintro ⟨j, h1, h2, h3⟩
        by_cases hj : j = n
        · subst hj; exact absurd (hasF_iff.2 h2) h
        · exact ⟨j, by omega, h2, h3⟩
theorem ownN_length (ps : List Part) (g : List Span) (a : Int) (n : Nat) : (ownN ps g a n).length ≤ n := by
  induction n with
  | zero => simp [ownN]
  | succ n ih =>
    unfold ownN
    split
    · have hput : ∀ (x : Int) (l : List Int), (putF x l).length ≤ l.length + 1 := by
        intro x l
        induction l with
        | nil => simp [putF]
        | cons y r ih => unfold putF; split; · simp; omega
                         · split <;> simp
      have := hput (sumP (ofAt ps a) n) (ownN ps g a n)
      omega
    · omega
theorem anyN_iff {ps : List Part} {g : List Span} {a : Int} {n : Nat} : anyN ps g a n = true ↔ (∃ j : Nat, j < n ∧ inSet g j) ∧ ofAt ps a ≠ [] := by
  induction n with
  | zero => simp [anyN]
  | succ n ih =>
    unfold anyN
    by_cases h : hasF g n = true
    · rw [if_pos h, Bool.or_eq_true, ih]
      constructor
      · rintro (⟨⟨j, h1, h2⟩, h3⟩ | h3)
        · exact ⟨⟨j, by omega, h2⟩, h3⟩
        · exact ⟨⟨n, by omega, hasF_iff.1 h⟩, by simpa using h3⟩
      · rintro ⟨_, h3⟩; exact .inr (by simpa using h3)
    · rw [if_neg h, ih]
      constructor
      · rintro ⟨⟨j, h1, h2⟩, h3⟩; exact ⟨⟨j, by omega, h2⟩, h3⟩
      · rintro ⟨⟨j, h1, h2⟩, h3⟩
        by_cases hj : j = n
        · subst hj; exact absurd (hasF_iff.2 h2) h
        · exact ⟨⟨j, by omega, h2⟩, h3⟩
/-- a sum of parts, one more part. -/
theorem ofAt_snoc {ps : List Part} {a : Int} {i : Nat} {p : Part} (h : ps[i]? = some p) : ofAt (ps.take (i + 1)) a = if p.at_ = a then ofAt (ps.take i) a ++ [p] else ofAt (ps.take i) a := by
  have : ps.take (i + 1) = ps.take i ++ [p] := by rw [List.take_add_one, h]; rfl
  rw [this]
  unfold ofAt
  rw [List.filter_append]
  by_cases hp : p.at_ = a
  · rw [if_pos hp]; simp [hp]
  · rw [if_neg hp]; simp [hp]
theorem sumP_append (a b : List Part) (x : Int) : sumP (a ++ b) x = sumP a x + sumP b x := by
  induction a with
  | nil => simp [sumP_nil]
  | cons p r ih => rw [List.cons_append, sumP_cons, sumP_cons, ih]; omega
theorem sumP_bdR {l : List Part} (h : ∀ p ∈ l, bitsF p = true) (x : Int) : 0 ≤ sumP l x ∧ sumP l x ≤ 134217728 * l.length := by
  induction l with
  | nil => simp [sumP_nil]
  | cons p r ih =>
    obtain ⟨h1, h2⟩ := ih fun q hq => h q (by simp [hq])
    have h3 := valF_nonneg p x
    have h4 := valF_le (h p (by simp)) x
    rw [sumP_cons]
    simp only [List.length_cons]
    omega
/-- what inner comes to. -/
def InnerR (t : Term) (gs : List (List Span)) (l : List Span) (ok : Bool) : Prop := (ok = true ↔ ∀ z, innerP t gs z → 0 ≤ z ∧ z ≤ 1114111) ∧ (ok = true → neL l ∧ ∀ z, mem l z ↔ innerP t gs z)
/-- the values of the first places as a list. -/
def NowL (t : Term) (gs : List (List Span)) (k : Nat) (l : List Int) : Prop := Rising l ∧ (∀ z, z ∈ l ↔ nowP t gs k z) ∧ ∀ z ∈ l, -1114111 ≤ z ∧ z ≤ 1114111
theorem nowL_zero {t : Term} {gs : List (List Span)} (h : -1114111 ≤ t.sum ∧ t.sum ≤ 1114111) : NowL t gs 0 [t.sum] :=
  ⟨by simp [Rising], fun z => by rw [nowP_zero]; simp, fun z hz => by simp at hz; subst hz; exact h⟩
theorem nowL_length {t : Term} {gs : List (List Span)} {k : Nat} {l : List Int} (h : NowL t gs k l) : l.length ≤ 2228223 := by
  have := rising_count h.1 h.2.2
  omega
/-- a byte's own values. -/
theorem ownN_all {ps : List Part} {g : List Span} {a : Int} (hp : plain g = true) (hs : ∀ z, mem g z → 0 ≤ z ∧ z ≤ 255) {z : Int} : z ∈ ownN ps g a 256 ↔ ownP ps g a z := by
  rw [mem_ownN]
  unfold ownP
  constructor
  · rintro ⟨j, _, h2, h3⟩
    exact ⟨j, (inSet_plain hp).1 h2, h3⟩
  · rintro ⟨x, h1, rfl⟩
    have := hs x h1
    refine ⟨x.toNat, by omega, ?_, ?_⟩
    · rw [show ((x.toNat : Nat) : Int) = x by omega]; exact (inSet_plain hp).2 h1
    · rw [show ((x.toNat : Nat) : Int) = x by omega]
theorem nowL_skip {t : Term} {gs : List (List Span)} {k : Nat} {g : List Span} {l : List Int} (hg : gs[k]? = some g) (hn : ∃ x, mem g x) (h : ofAt t.parts k = []) (hl : NowL t gs k l) : NowL t gs (k + 1) l :=
  ⟨hl.1, fun z => by rw [nowP_skip hg hn h]; exact hl.2.1 z, hl.2.2⟩
theorem nowL_sums {t : Term} {gs : List (List Span)} {k : Nat} {g : List Span} {l own l' : List Int} (hg : gs[k]? = some g) (hb : ∀ p ∈ t.parts, bitsF p = true) (ho : ∀ z, z ∈ own ↔ ownP t.parts g k z) (hl : NowL t gs k l) (hs : Sums l own true l') : NowL t gs (k + 1) l' := by
  unfold Sums at hs
  split at hs
  · next hall =>
    obtain ⟨_, h1, h2⟩ := hs
    refine ⟨h1, fun z => ?_, fun z hz => ?_⟩
    · rw [h2, nowP_succ hg]
      constructor
      · rintro ⟨x, hx, y, hy, rfl⟩; exact ⟨x, y, (hl.2.1 x).1 hx, (ho y).1 hy, rfl⟩
      · rintro ⟨x, y, hx, hy, rfl⟩; exact ⟨x, (hl.2.1 x).2 hx, y, (ho y).2 hy, rfl⟩
    · obtain ⟨x, hx, y, hy, rfl⟩ := (h2 z).1 hz
      have h3 := hall x hx y hy
      have h4 := hl.2.2 x hx
      obtain ⟨s, _, rfl⟩ := (ho y).1 hy
      have h5 := (sumP_bdR (l := ofAt t.parts k) (fun p hp => hb p (List.mem_filter.1 hp).1) s).1
      omega
  · cases hs
/-- one sum is beyond: then an inner value is. -/
theorem innerR_beyond {t : Term} {gs : List (List Span)} {k : Nat} {g : List Span} {l own l' : List Int} (hr : ∀ p ∈ t.parts, rightP p gs.length = true) (hgood : goodG gs) (hg : gs[k]? = some g) (ho : ∀ z, z ∈ own ↔ ownP t.parts g k z) (hl : NowL t gs k l) (hs : Sums l own false l') (l2 : List Span) : InnerR t gs l2 false := by
  unfold Sums at hs
  split at hs
  · exact absurd hs.1 (by simp)
  · next hno =>
    rw [all_le, Classical.not_not] at hno
    obtain ⟨x, hx, y, hy, h1⟩ := hno
    have h2 : nowP t gs (k + 1) (x + y) := (nowP_succ hg).2 ⟨x, y, (hl.2.1 x).1 hx, (ho y).1 hy, rfl⟩
    obtain ⟨z, h3, h4⟩ := nowP_grow hgood (by have := (List.getElem?_eq_some_iff.1 hg).1; omega) h2
    refine ⟨⟨fun h => by simp at h, fun h => ?_⟩, fun h => by simp at h⟩
    have := h z ((nowP_all hr hgood).1 h3)
    omega
/-- the end. -/
theorem innerR_end {t : Term} {gs : List (List Span)} {l : List Int} {x y : Int} (hr : ∀ p ∈ t.parts, rightP p gs.length = true) (hgood : goodG gs) (hl : NowL t gs gs.length l) (hx : l[0]? = some x) (hy : l[l.length - 1]? = some y) : InnerR t gs (spansF l) (decide (0 ≤ x) && decide (y ≤ 1114111)) := by
  have hin : ∀ z, z ∈ l ↔ innerP t gs z := fun z => by rw [hl.2.1, nowP_all hr hgood]
  refine ⟨?_, fun _ => ⟨spansF_ne l, fun z => by rw [mem_spansF, hin]⟩⟩
  rw [Bool.and_eq_true, decide_eq_true_eq, decide_eq_true_eq]
  constructor
  · rintro ⟨h1, h2⟩ z hz
    obtain ⟨i, hi⟩ := List.mem_iff_getElem?.1 ((hin z).2 hz)
    have hlt := (List.getElem?_eq_some_iff.1 hi).1
    have hb := hl.2.2 z ((hin z).2 hz)
    refine ⟨?_, hb.2⟩
    obtain ⟨h01, rfl⟩ := List.getElem?_eq_some_iff.1 hx
    obtain ⟨hi1, rfl⟩ := List.getElem?_eq_some_iff.1 hi
    rcases Nat.eq_zero_or_pos i with rfl | hpos
    · exact h1
    · have := (List.pairwise_iff_getElem.1 hl.1) 0 i h01 hi1 hpos
      omega
  · intro h
    exact ⟨(h x ((hin x).1 (List.mem_of_getElem? hx))).1, (h y ((hin y).1 (List.mem_of_getElem? hy))).2⟩
theorem nowL_ne {t : Term} {gs : List (List Span)} {l : List Int} (hr : ∀ p ∈ t.parts, rightP p gs.length = true) (hgood : goodG gs) (hl : NowL t gs gs.length l) : l ≠ [] := by
  rintro rfl
  obtain ⟨z, hz⟩ := innerP_some hgood hr
  exact absurd ((hl.2.1 z).2 ((nowP_all hr hgood).2 hz)) (by simp)
/-- the short way: one part of a scalar. -/
theorem innerR_one {t : Term} {gs : List (List Span)} {g : List Span} {p : Part} (hp : t.parts = [p]) (hw : p = wholeP p.at_) (h0 : 0 ≤ p.at_) (hg : gs[p.at_.toNat]? = some g) (hpl : plain g = true) (hsy : symS g) (hne : g ≠ []) (hsum : -1114111 ≤ t.sum ∧ t.sum ≤ 1114111) : InnerR t gs (moveF g t.sum) (okV (moveF g t.sum)) ∧ moveF g t.sum ≠ [] := by
  have hin : ∀ z, mem (moveF g t.sum) z ↔ innerP t gs z := fun z => by
    rw [mem_moveF (by omega), inSet_plain hpl]
    unfold innerP
    rw [hp]
    constructor
    · rintro ⟨_, h1⟩
      have h2 := hsy _ h1
      refine ⟨fun _ => z - t.sum, fun q hq => ?_, ?_⟩
      · simp at hq; subst hq; exact ⟨g, hg, h1⟩
      · rw [hw]
        simp only [sumV, List.map_cons, List.map_nil, List.sum_cons, List.sum_nil]
        rw [valF_whole h2]; omega
    · rintro ⟨f, h1, rfl⟩
      obtain ⟨g', hg', h2⟩ := h1 p (by simp)
      rw [hg] at hg'
      cases hg'
      have h3 := hsy _ h2
      rw [hw]
      simp only [sumV, List.map_cons, List.map_nil, List.sum_cons, List.sum_nil]
      have e : (wholeP p.at_).at_ = p.at_ := rfl
      rw [e, valF_whole h3]
      exact ⟨by omega, by rw [show t.sum + (f p.at_ + 0) - t.sum = f p.at_ by omega]; exact h2⟩
  have hnn : moveF g t.sum ≠ [] := by
    intro h
    have h1 := headLo_mem hpl hne
    have h2 := hsy _ h1
    have h3 : mem (moveF g t.sum) (headLo g + t.sum) := by
      rw [mem_moveF (by omega), inSet_plain hpl]
      exact ⟨by omega, by rw [show headLo g + t.sum - t.sum = headLo g by omega]; exact h1⟩
    rw [h] at h3
    exact mem_nil h3
  refine ⟨⟨?_, fun _ => ⟨plain_ne (moveF_plain _ _), hin⟩⟩, hnn⟩
  rw [okV_iff (moveF_plain _ _)]
  constructor
  · rintro ⟨_, h⟩ z hz; exact h z ((hin z).2 hz)
  · intro h; exact ⟨hnn, fun z hz => h z ((hin z).1 hz)⟩
end Go.Um
namespace Go.Um
open Go.RowKit Go.Maps Go.ChangeShapes

def valEl (v : Value) : Option (DataW Value × List MemPlace) := some (.held v, [])
/-- block b is a map of at most n entries: at each key the value that F says. -/
def VMap (P : Program) (w : World) (k : TypeId) (b n : Nat) (F : Int → Value) : Prop :=
  ∃ D : DataW Value, w.ownsMap P k valEl b n D ∧ IsMap D ∧ ∀ s : Int, D.atKey (.int .i64 s) (.held (.slice none 0 0)) = .held (F s)

variable {P : Program} {w w' : World} {k t E : TypeId} {b n : Nat} {F : Int → Value} {s : Int}
theorem VMap.made (w : World) : VMap P (w.alloc (.map #[] 0)) k w.heap.size 0 (fun _ => .slice none 0 0) :=
  ⟨.map [], World.ownsMap_made w P k valEl, ⟨[], rfl⟩, fun _ => rfl⟩
theorem VMap.kept {row : Option Nat} (h : VMap P w k b n F) (hg : w.grownBy w' row) (hne : some b ≠ row) : VMap P w' k b n F := by
  obtain ⟨D, h1, h2, h3⟩ := h
  exact ⟨D, h1.kept hg hne, h2, h3⟩
theorem VMap.alloc (h : VMap P w k b n F) (o : Obj) : VMap P (w.alloc o) k b n F := h.kept (World.grownBy_alloc _ _ none) (by simp)
theorem VMap.drew (h : VMap P w k b n F) : VMap P w.drew k b n F := h
theorem VMap.lt (h : VMap P w k b n F) : b < w.heap.size := by obtain ⟨D, h1, _⟩ := h; exact h1.lt
theorem VMap.held (h : VMap P w k b n F) (hw : w'.heap[b]? = w.heap[b]?) : VMap P w' k b n F := by
  obtain ⟨D, ⟨es, clock, hb, q1, q2, q3⟩, h2, h3⟩ := h
  exact ⟨D, ⟨es, clock, hw.trans hb, q1, q2, q3⟩, h2, h3⟩
theorem VMap.lookup (h : VMap P w k b n F) (K : Keyed P k) (ht : P.underlying t = some (.map k E)) (hz : (zeroValue E).run P w = .ok (.slice none 0 0) w) (hkey : keyOf P k (.int .i64 s) = some (.int .i64 s)) :
    (Instr.lookup t (.map (some b)) (.int .i64 s) false).run P w = .ok (F s) w := by
  obtain ⟨D, h1, h2, h3⟩ := h
  obtain ⟨v, ps, hr, hv⟩ := h1.lookup K ht hz (zd := .held (.slice none 0 0)) (zp := []) rfl hkey
  rw [h3] at hv
  unfold valEl at hv
  simp only [Option.some.injEq, Prod.mk.injEq, DataW.held.injEq] at hv
  rw [hr, hv.1]
theorem VMap.update (h : VMap P w k b n F) (K : Keyed P k) (ht : P.underlying t = some (.map k E)) (hn : n < maxLen) (hkey : keyOf P k (.int .i64 s) = some (.int .i64 s)) (v : Value) :
    ∃ w', (Instr.mapUpdate t (.map (some b)) (.int .i64 s) v).run P w = .ok () w' ∧ VMap P w' k b (n + 1) (fun r => if r = s then v else F r) ∧ w.grownBy w' (some b) := by
  obtain ⟨D, h1, h2, h3⟩ := h
  obtain ⟨w', hr, h4, h5⟩ := h1.update K ht hn (val := v) (d := .held v) (ps := []) hkey rfl
  refine ⟨w', hr, ⟨_, h4, h2.put _ _, fun r => ?_⟩, h5⟩
  by_cases hr' : r = s
  · subst hr'
    rw [atKey_put_same h2 (show WideAt.IsKeyLit (.int .i64 r) from trivial)]
    simp
  · rw [atKey_put_other (by simpa using hr'), h3]
    simp [hr']
end Go.Um
namespace Go.Um
def nextF (E : Edges) (S : Int → Bool) : Int → Bool := fun t => E.any fun e => decide (e.2 = t) && S e.1
def someF (E : Edges) (S : Int → Bool) : Bool := E.any fun e => S e.1
def cycR (E : Edges) : Nat → (Int → Bool) → Bool
  | 0, _ => true
  | f + 1, S => if someF E S then cycR E f (nextF E S) else false
theorem walk_chain {E : Edges} : ∀ (f j : Nat), (∃ t, walkE E (j + f) t) → ∃ t, walkE E j t := by
  intro f
  induction f with
  | zero => exact fun j h => h
  | succ f ih =>
    rintro j ⟨t, s, _, h⟩
    exact ih j ⟨s, h⟩
theorem someF_iff {E : Edges} {S : Int → Bool} {j : Nat} (h : ∀ t, S t = true ↔ walkE E j t) : someF E S = true ↔ ∃ t, walkE E (j + 1) t := by
  unfold someF
  rw [List.any_eq_true]
  constructor
  · rintro ⟨⟨s, t⟩, he, hs⟩; exact ⟨t, s, he, (h s).1 hs⟩
  · rintro ⟨t, s, he, hs⟩; exact ⟨(s, t), he, (h s).2 hs⟩
theorem nextF_iff {E : Edges} {S : Int → Bool} {j : Nat} (h : ∀ t, S t = true ↔ walkE E j t) (t : Int) : nextF E S t = true ↔ walkE E (j + 1) t := by
  unfold nextF
  rw [List.any_eq_true]
  constructor
  · rintro ⟨⟨s, u⟩, he, hs⟩
    rw [Bool.and_eq_true, decide_eq_true_eq] at hs
    obtain ⟨rfl, h2⟩ := hs
    exact ⟨s, he, (h s).1 h2⟩
  · rintro ⟨s, he, hs⟩; exact ⟨(s, t), he, by simp [(h s).2 hs]⟩
theorem cycR_iff {E : Edges} : ∀ (f j : Nat) (S : Int → Bool), (∀ t, S t = true ↔ walkE E j t) → (cycR E f S = true ↔ (f = 0 ∨ ∃ t, walkE E (j + f) t)) := by
  intro f
  induction f with
  | zero => intro j S _; simp [cycR]
  | succ f ih =>
    intro j S h
    unfold cycR
    have h1 := someF_iff h
    by_cases hs : someF E S = true
    · rw [if_pos hs, ih (j + 1) _ (nextF_iff h)]
      rw [show j + 1 + f = j + (f + 1) by omega]
      constructor
      · rintro (rfl | h2)
        · exact .inr (h1.1 hs)
        · exact .inr h2
      · rintro (h2 | h2)
        · omega
        · exact .inr h2
    · rw [if_neg hs]
      refine ⟨fun h2 => absurd h2 (by decide), ?_⟩
      rintro (h2 | h2)
      · omega
      · rw [show j + (f + 1) = (j + 1) + f by omega] at h2
        exact absurd (h1.2 (walk_chain f (j + 1) h2)) hs
theorem cycR_cycP {E : Edges} {n : Nat} : cycR E (n + 1) (fun _ => true) = true ↔ cycP E n := by
  rw [cycR_iff (n + 1) 0 _ (fun t => by simp [walkE])]
  unfold cycP
  simp
theorem cycR_kahn {E : Edges} {n : Nat} (hE : ∀ e ∈ E, (0 ≤ e.1 ∧ e.1 < n) ∧ 0 ≤ e.2 ∧ e.2 < n) : cycR E (n + 1) (fun _ => true) = kahnF E n := by
  rw [Bool.eq_iff_iff, cycR_cycP, kahnF_iff hE]
/-- a table of states. -/
def tabN (n : Nat) (S : Int → Bool) : List Bool := (List.range n).map fun k : Nat => S (k : Int)
theorem tabN_length (n : Nat) (S : Int → Bool) : (tabN n S).length = n := by simp [tabN]
theorem tabN_get {n : Nat} {S : Int → Bool} {j : Nat} (h : j < n) : (tabN n S)[j]? = some (S (j : Int)) := by simp [tabN, h]
theorem tabN_congr {n : Nat} {S T : Int → Bool} (h : ∀ k : Nat, k < n → S k = T k) : tabN n S = tabN n T := by
  unfold tabN
  exact List.map_congr_left fun k hk => h k (List.mem_range.1 hk)
theorem tabN_set {n : Nat} {S : Int → Bool} (j : Nat) : (tabN n S).set j true = tabN n (fun x => decide (x = (j : Int)) || S x) := by
  refine List.ext_getElem? fun i => ?_
  rw [List.getElem?_set]
  by_cases hij : j = i
  · subst hij
    rw [if_pos rfl, tabN_length]
    split
    · next h => rw [tabN_get h]; simp
    · next h => rw [List.getElem?_eq_none (by rw [tabN_length]; omega)]
  · rw [if_neg hij]
    by_cases hi : i < n
    · rw [tabN_get hi, tabN_get hi]
      have : ¬ ((i : Int) = (j : Int)) := by omega
      simp [this]
    · rw [List.getElem?_eq_none (by rw [tabN_length]; omega), List.getElem?_eq_none (by rw [tabN_length]; omega)]
theorem tabN_none (n : Nat) : tabN n (fun _ => false) = List.replicate n false := by simp [tabN, List.map_const']
/-- the table being filled. -/
theorem tabN_fill {n k : Nat} : (tabN n (fun x => decide (x < (k : Int)))).set k true = tabN n (fun x => decide (x < ((k + 1 : Nat) : Int))) := by
  rw [tabN_set]
  refine tabN_congr fun j _ => ?_
  rw [Bool.eq_iff_iff]
  simp only [Bool.or_eq_true, decide_eq_true_eq]
  omega
theorem nextF_snoc (E : Edges) (e : Int × Int) (S : Int → Bool) : nextF (E ++ [e]) S = fun t => if decide (e.2 = t) && S e.1 then true else nextF E S t := by
  funext t
  unfold nextF
  rw [List.any_append]
  cases h : (decide (e.2 = t) && S e.1) <;> simp [h]
theorem nextF_yes {E : Edges} {s t : Int} {S : Int → Bool} (h : S s = true) : nextF (E ++ [(s, t)]) S = fun x => decide (x = t) || nextF E S x := by
  rw [nextF_snoc]
  funext x
  simp only [h, Bool.and_true]
  by_cases hx : x = t
  · subst hx; simp
  · have : ¬ t = x := fun e => hx e.symm
    simp [hx, this]
theorem nextF_no {E : Edges} {s t : Int} {S : Int → Bool} (h : S s = false) : nextF (E ++ [(s, t)]) S = nextF E S := by
  rw [nextF_snoc]
  funext x
  simp [h]
theorem someF_snoc (E : Edges) (s t : Int) (S : Int → Bool) : someF (E ++ [(s, t)]) S = (someF E S || S s) := by
  unfold someF
  rw [List.any_append]
  simp
end Go.Um
namespace Go.Um
open Go.RowKit Go.ChangeShapes Go.WideShapes Go.Deep

section
variable {H : Type} {enc : TypeId × Value → H} {P : Program} {w : World} {base : Nat} {spare : Nat → Bool} {held : Bool}
theorem open_fields {e : TypeId} {fs : Array Field} {fuel : Nat} {cs : List Value} {x : DataW H × List MemPlace} (he : P.underlying e = some (.struct fs)) (hone : oneCellFields P fs = true) (hC : P.cellsOf e = fs.size)
    (h : DataW.trod enc P w base spare held fuel e cs = some x) : cs.length = fs.size ∧ ∃ n, ∀ (j : Nat) (f : Field), fs[j]? = some f → ∃ (v : Value) (y : DataW H × List MemPlace), cs[j]? = some v ∧ DataW.trod enc P w base spare held n f.type [v] = some y := by
  obtain ⟨ys, n', hn', hy, hlen, hyl, hf⟩ := DataW.trod_struct he h
  rw [hC] at hlen
  refine ⟨hlen, n', fun j f hj => ?_⟩
  obtain ⟨ho, hk⟩ := hone_of hone j f hj
  have hjl : j < fs.size := (Array.getElem?_eq_some_iff.1 hj).1
  have hv : cs[j]? = some (cs[j]'(by omega)) := List.getElem?_eq_getElem (by omega)
  have h1 := hf j f hj
  rw [ho, hk] at h1
  have hone' : (cs.drop j).take 1 = [cs[j]'(by omega)] := by
    rw [List.drop_eq_getElem_cons (by omega)]
    rfl
  rw [hone'] at h1
  have hys : ys[j]? = some (ys[j]'(by omega)) := List.getElem?_eq_getElem (by omega)
  exact ⟨_, _, hv, h1.trans hys⟩

theorem open_rep {α : Type} {r : RepOf α} {t e : TypeId} {fuel : Nat} {cs : List Value} {x : DataW H × List MemPlace} (ht : P.underlying t = some (.slice e)) (hC : P.cellsOf e = r.width) (hw : 0 < r.width)
    (hel : ∀ fuel cs x, DataW.trod enc P w base spare held fuel e cs = some x → ∃ y, r.rel w (upto w.heap.size) cs y)
    (h : DataW.trod enc P w base spare held fuel t cs = some x) : ∃ ys, (listR r).rel w (upto w.heap.size) cs ys := by
  rcases open_slice ht h with ⟨rfl, _⟩ | ⟨a, len, cap, m, n, D, Pl, rfl, hb, hl, hm, hmm, hx, hi⟩
  · exact ⟨[], list_nil r _ _⟩
  · have hlm : len ≤ m := by rw [hmm]; split <;> omega
    have hall : ∀ k, k ≤ len → ∃ ys : List α, ys.length = k ∧ ∀ (i : Nat) (y : α), ys[i]? = some y → ∃ ds, r.rel w (upto w.heap.size) ds y ∧ ∀ (j : Nat) (v : Value), ds[j]? = some v → w.cell? (a.add (i * r.width + j)) = some v := by
      intro k
      induction k with
      | zero => exact fun _ => ⟨[], rfl, fun i y hy => by simp at hy⟩
      | succ k ih =>
        intro hk
        obtain ⟨ys, hyl, hys⟩ := ih (by omega)
        obtain ⟨cs', hc, ht'⟩ := hi k (by omega)
        obtain ⟨y, hy⟩ := hel _ _ _ ht'
        rw [hC] at hc
        obtain ⟨_, hcl, hat⟩ := World.cells?_some hc
        refine ⟨ys ++ [y], by simp [hyl], fun i z hz => ?_⟩
        rcases Nat.lt_or_ge i ys.length with h1 | h1
        · rw [List.getElem?_append_left h1] at hz
          exact hys i z hz
        · rw [List.getElem?_append_right h1] at hz
          have : i = k := by
            have := (List.getElem?_eq_some_iff.1 hz).1
            simp at this
            omega
          subst this
          rw [hyl, Nat.sub_self] at hz
          simp at hz
          subst hz
          refine ⟨cs', hy, fun j v hv => ?_⟩
          have hj := (List.getElem?_eq_some_iff.1 hv).1
          rw [← Go.Deep.add_add, hat j (by omega), hv]
    obtain ⟨ys, hyl, hys⟩ := hall len (Nat.le_refl _)
    refine ⟨ys, some a, len, cap, rfl, hyl.symm, hl, hm, ?_⟩
    rcases Nat.eq_zero_or_pos len with h0 | h0
    · exact .inl h0
    · right
      obtain ⟨y, hy⟩ := at_lt (xs := ys) (i := 0) (by omega)
      obtain ⟨ds, hr, hd⟩ := hys 0 y hy
      have hdl := r.len hr
      have hc0 := hd 0 (ds[0]'(by omega)) (List.getElem?_eq_getElem (by omega))
      obtain ⟨b, o, spot⟩ := a
      have hspot : spot = none := by simpa [Addr.add] using World.cell?_spot hc0
      subst hspot
      have hadd : ∀ k, (⟨b, o, none⟩ : Addr).add k = ⟨b, o + k, none⟩ := fun k => by unfold Addr.add; split <;> simp_all
      refine ⟨b, o, rfl, ?_, fun i z hz => ?_⟩
      · have h1 : w.cell? ⟨b, o + (0 * r.width + 0), none⟩ = some (ds[0]'(by omega)) := by rw [← hadd]; exact hc0
        exact block_lt_of_cell h1
      · obtain ⟨ds, hr, hd⟩ := hys i z hz
        refine ⟨ds, hr, fun j v hv => ?_⟩
        have := hd j v hv
        rw [hadd] at this
        rw [Nat.add_assoc]
        exact this
end
end Go.Um
