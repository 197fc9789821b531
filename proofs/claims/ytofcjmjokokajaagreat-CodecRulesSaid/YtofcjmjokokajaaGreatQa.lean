/-
  A machine over plain values: its values, and how they stand for the model's. No program is named here. The machine's store, and how it stands for the model's memory. No program is named here. The machine's types, and what its operations yield: plain functions. No program is named here.
-/
import Derived.WalkKit
import Derived.WalkSpells
import Derived.WalkLawsBesides
import Derived.Maps.AppendAt
import Derived.Laws.StructEq
namespace Go.Vm
open Go.RowKit
inductive V where
  | int (k : IntKind) (n : Int)
  | bool (b : Bool)
  | str (s : ByteArray)
  | nil
  | list (m : Nat) (xs : List (List V))
  | row (id g i n : Nat)
  | nilptr
  | ptr (id g i o : Nat)
  | iptr (cs : List V)
  | nilmap
  | map (id : Nat)
  | nilfunc
  | func (fn : Fn) (first captured : List V)
  | agg (cs : List V)
  | tuple (vs : List V)
  | any
  deriving Inhabited
def V.one : V → Bool
  | .agg _ | .tuple _ | .any => false
  | _ => true
structure Ent where
  blk : Nat
  cap : Nat
  len : Nat
  wid : Nat
abbrev Gh := Nat → Nat → Option Ent
inductive Rv (w : World) (Sb : Nat → Prop) (G : Gh) : V → Value → Prop where
  | int (k n) : Rv w Sb G (.int k n) (.int k n)
  | bool (b) : Rv w Sb G (.bool b) (.bool b)
  | str (s) : Rv w Sb G (.str s) (.string s)
  | nil : Rv w Sb G .nil (.slice none 0 0)
  | list {xs : List (List V)} {b o m c : Nat} (f : Nat → Nat → Value) (hb : Sb b) (hm : 0 < m) (hc : xs.length ≤ c) (hcm : c ≤ maxLen) (hl : ∀ (i : Nat) (cs : List V), xs[i]? = some cs → cs.length = m) (ho : ∀ (i : Nat) (cs : List V) (v : V), xs[i]? = some cs → v ∈ cs → v.one = true)
      (hcell : ∀ (i : Nat) (cs : List V) (j : Nat) (v : V), xs[i]? = some cs → cs[j]? = some v → w.cell? ⟨b, o + i * m + j, none⟩ = some (f i j))
      (hv : ∀ (i : Nat) (cs : List V) (j : Nat) (v : V), xs[i]? = some cs → cs[j]? = some v → Rv w Sb G v (f i j)) : Rv w Sb G (.list m xs) (.slice (some ⟨b, o, none⟩) xs.length c)
  | list0 {m : Nat} {a : Option Addr} {c : Nat} (hcm : c ≤ maxLen) : Rv w Sb G (.list m []) (.slice a 0 c)
  | row {id g i n c : Nat} {E : Ent} {a : Option Addr} (hG : G id g = some E) (hn : i + n ≤ E.len) (hw : 0 < E.wid) (hc : c + i = E.cap) (hs : a.isSome = true) (ha : i = 0 ∨ 0 < n → a = some ⟨E.blk, i * E.wid, none⟩) : Rv w Sb G (.row id g i n) (.slice a n c)
  | nilptr : Rv w Sb G .nilptr (.pointer none)
  | ptr {id g i o : Nat} {E : Ent} (hG : G id g = some E) (hi : i < E.len) (ho : o < E.wid) : Rv w Sb G (.ptr id g i o) (.pointer (some ⟨E.blk, i * E.wid + o, none⟩))
  | iptr {cs : List V} {b o : Nat} (f : Nat → Value) (hb : Sb b) (hn : 0 < cs.length) (ho : ∀ v ∈ cs, v.one = true) (hcell : ∀ (j : Nat) (v : V), cs[j]? = some v → w.cell? ⟨b, o + j, none⟩ = some (f j))
      (hv : ∀ (j : Nat) (v : V), cs[j]? = some v → Rv w Sb G v (f j)) : Rv w Sb G (.iptr cs) (.pointer (some ⟨b, o, none⟩))
  | nilmap : Rv w Sb G .nilmap (.map none)
  | map {id : Nat} {E : Ent} (hG : G id 0 = some E) : Rv w Sb G (.map id) (.map (some E.blk))
  | nilfunc : Rv w Sb G .nilfunc .nilFunc
  | func {fn : Fn} {fs cs : List V} {us vs : Array Value} (h1 : us.size = fs.length) (h2 : vs.size = cs.length) (hf : ∀ (i : Nat) (v : V) (u : Value), fs[i]? = some v → us[i]? = some u → Rv w Sb G v u)
      (hc : ∀ (i : Nat) (v : V) (u : Value), cs[i]? = some v → vs[i]? = some u → Rv w Sb G v u) : Rv w Sb G (.func fn fs cs) (.func fn us vs)
  | agg {cs : List V} {us : Array Value} (h1 : us.size = cs.length) (ho : ∀ v ∈ cs, v.one = true) (h2 : ∀ (i : Nat) (v : V) (u : Value), cs[i]? = some v → us[i]? = some u → Rv w Sb G v u) : Rv w Sb G (.agg cs) (.agg us)
  | tuple {cs : List V} {us : Array Value} (h1 : us.size = cs.length) (h2 : ∀ (i : Nat) (v : V) (u : Value), cs[i]? = some v → us[i]? = some u → Rv w Sb G v u) : Rv w Sb G (.tuple cs) (.tuple us)
  | any (u) : Rv w Sb G .any u
theorem Rv.mono {w w' : World} {Sb Sb' : Nat → Prop} {G G' : Gh} {v : V} {u : Value} (h : Rv w Sb G v u) (hw : ∀ b, Sb b → w'.heap[b]? = w.heap[b]?) (hS : ∀ b, Sb b → Sb' b) (hG : ∀ id g E, G id g = some E → G' id g = some E) :
    Rv w' Sb' G' v u := by
  induction h with
  | int k n => exact .int k n
  | bool b => exact .bool b
  | str s => exact .str s
  | nil => exact .nil
  | list f hb hm hc hcm hl ho hcell hv ih => exact .list f (hS _ hb) hm hc hcm hl ho (fun i cs j v h1 h2 => (World.cell?_of_block (hw _ hb)).trans (hcell i cs j v h1 h2)) ih
  | list0 hcm => exact .list0 hcm
  | row h1 hn hw' hc hs ha => exact .row (hG _ _ _ h1) hn hw' hc hs ha
  | nilptr => exact .nilptr
  | ptr h1 hi ho => exact .ptr (hG _ _ _ h1) hi ho
  | iptr f hb hn ho hcell hv ih => exact .iptr f (hS _ hb) hn ho (fun j v h1 => (World.cell?_of_block (hw _ hb)).trans (hcell j v h1)) ih
  | nilmap => exact .nilmap
  | map h1 => exact .map (hG _ _ _ h1)
  | nilfunc => exact .nilfunc
  | func h1 h2 hf hc ih1 ih2 => exact .func h1 h2 ih1 ih2
  | agg h1 ho h2 ih => exact .agg h1 ho ih
  | tuple h1 h2 ih => exact .tuple h1 ih
  | any u => exact .any u
theorem Rv.one {w : World} {Sb : Nat → Prop} {G : Gh} {v : V} {u : Value} (h : Rv w Sb G v u) (hv : v.one = true) : u.oneCell' = true := by
  cases h <;> first | rfl | (simp [V.one] at hv)
def Rvs (w : World) (Sb : Nat → Prop) (G : Gh) (vs : List V) (us : List Value) : Prop := us.length = vs.length ∧ ∀ (i : Nat) (v : V) (u : Value), vs[i]? = some v → us[i]? = some u → Rv w Sb G v u
section
variable {w w' : World} {Sb Sb' : Nat → Prop} {G G' : Gh}
theorem Rvs.mono {vs : List V} {us : List Value} (h : Rvs w Sb G vs us) (hw : ∀ b, Sb b → w'.heap[b]? = w.heap[b]?) (hS : ∀ b, Sb b → Sb' b) (hG : ∀ id g E, G id g = some E → G' id g = some E) : Rvs w' Sb' G' vs us :=
  ⟨h.1, fun i v u h1 h2 => (h.2 i v u h1 h2).mono hw hS hG⟩
theorem Rvs.nil : Rvs w Sb G [] [] := ⟨rfl, fun i v u h => by simp at h⟩
theorem Rvs.cons {v : V} {u : Value} {vs : List V} {us : List Value} (h : Rv w Sb G v u) (hs : Rvs w Sb G vs us) : Rvs w Sb G (v :: vs) (u :: us) :=
  ⟨by simp [hs.1], fun i a b h1 h2 => by
    cases i with
    | zero => simp at h1 h2; subst h1 h2; exact h
    | succ i => exact hs.2 i a b (by simpa using h1) (by simpa using h2)⟩
theorem Rvs.head {v : V} {vs : List V} {us : List Value} (h : Rvs w Sb G (v :: vs) us) : ∃ u us', us = u :: us' ∧ Rv w Sb G v u ∧ Rvs w Sb G vs us' := by
  cases us with
  | nil => have := h.1; simp at this
  | cons u us => exact ⟨u, us, rfl, h.2 0 v u rfl rfl, by have := h.1; simpa using this, fun i a b h1 h2 => h.2 (i + 1) a b (by simpa using h1) (by simpa using h2)⟩
theorem Rvs.none {us : List Value} (h : Rvs w Sb G [] us) : us = [] := List.eq_nil_of_length_eq_zero (by simpa using h.1)
theorem Rvs.at {vs : List V} {us : List Value} (h : Rvs w Sb G vs us) {i : Nat} {v : V} (hv : vs[i]? = some v) : ∃ u, us[i]? = some u ∧ Rv w Sb G v u := by
  have hl : i < us.length := by rw [h.1]; exact (List.getElem?_eq_some_iff.1 hv).1
  exact ⟨us[i], List.getElem?_eq_getElem hl, h.2 i v _ hv (List.getElem?_eq_getElem hl)⟩
theorem Rvs.append {vs vs2 : List V} {us us2 : List Value} (h : Rvs w Sb G vs us) (h2 : Rvs w Sb G vs2 us2) : Rvs w Sb G (vs ++ vs2) (us ++ us2) := by
  refine ⟨by simp [h.1, h2.1], fun i v u a b => ?_⟩
  rcases Nat.lt_or_ge i vs.length with hi | hi
  · rw [List.getElem?_append_left hi] at a
    rw [List.getElem?_append_left (by rw [h.1]; exact hi)] at b
    exact h.2 i v u a b
  · rw [List.getElem?_append_right hi] at a
    rw [List.getElem?_append_right (by rw [h.1]; exact hi), h.1] at b
    exact h2.2 _ v u a b
theorem Rvs.drop {vs : List V} {us : List Value} (h : Rvs w Sb G vs us) (n : Nat) : Rvs w Sb G (vs.drop n) (us.drop n) :=
  ⟨by simp [h.1], fun i v u a b => h.2 (n + i) v u (by rw [← a, List.getElem?_drop]) (by rw [← b, List.getElem?_drop])⟩
theorem Rvs.take {vs : List V} {us : List Value} (h : Rvs w Sb G vs us) (n : Nat) : Rvs w Sb G (vs.take n) (us.take n) := by
  refine ⟨by simp [h.1], fun i v u a b => ?_⟩
  rw [List.getElem?_take] at a b
  split at a
  · rename_i hi
    rw [if_pos hi] at b
    exact h.2 i v u a b
  · cases a
theorem Rvs.set {vs : List V} {us : List Value} {v : V} {u : Value} (h : Rvs w Sb G vs us) (hv : Rv w Sb G v u) (n : Nat) : Rvs w Sb G (vs.set n v) (us.set n u) := by
  refine ⟨by simp [h.1], fun i a b h1 h2 => ?_⟩
  rw [List.getElem?_set] at h1 h2
  split at h1
  · rename_i hi
    subst hi
    rw [if_pos rfl] at h2
    split at h1
    · split at h2
      · cases h1; cases h2; exact hv
      · cases h2
    · cases h1
  · rename_i hi
    rw [if_neg hi] at h2
    exact h.2 i a b h1 h2
end
theorem addr_add (b o n : Nat) : (⟨b, o, none⟩ : Addr).add n = ⟨b, o + n, none⟩ := by unfold Addr.add; split <;> simp_all
end Go.Vm
namespace Go.Vm
open Go.RowKit
inductive Blk where
  | cells (e : TypeId) (m g L : Nat) (xs : List (List V))
  | map (kt : TypeId) (es : List (V × V))
  | void
  | hole
  deriving Inhabited
abbrev Store := Nat → Option Blk
def put (st : Store) (id : Nat) (b : Blk) : Store := fun k => if k = id then some b else st k
@[simp] theorem put_same (st : Store) (id : Nat) (b : Blk) : put st id b id = some b := by simp [put]
theorem put_ne (st : Store) {id k : Nat} (b : Blk) (h : k ≠ id) : put st id b k = st k := by simp [put, h]
theorem put_comm (st : Store) {i j : Nat} (h : i ≠ j) (b c : Blk) : put (put st i b) j c = put (put st j c) i b := by
  funext k
  simp only [put]
  split
  · rename_i hk; subst hk; simp [Ne.symm h]
  · rfl
def live (st : Store) (id k : Nat) : Prop := match st id with | some (.cells _ _ g L _) => L ≤ k ∧ k ≤ g | some (.map _ _) => k = 0 | some .void => False | some .hole => False | none => False
def Own (st : Store) (G : Gh) (b : Nat) : Prop := ∃ id k E, live st id k ∧ G id k = some E ∧ E.blk = b
def entryV (w : World) (Sb : Nat → Prop) (G : Gh) (e : V × V) (m : MapEntry) : Prop := Rv w Sb G e.1 m.key ∧ Rv w Sb G e.2 m.val
def TurnOk (w : World) (Sb : Nat → Prop) (G : Gh) (e : TypeId) (m : Nat) (xs : List (List V)) (E : Ent) : Prop :=
  ∃ cur, E.wid = m ∧ w.heap[E.blk]? = some (.cells cur e (0, 0)) ∧ cur.size = E.cap * m ∧ E.len ≤ E.cap ∧ E.cap ≤ maxLen ∧ E.len ≤ xs.length ∧
    ∀ (i : Nat) (cs : List V) (j : Nat) (v : V), i < E.len → xs[i]? = some cs → cs[j]? = some v → ∃ u, cur[i * m + j]? = some u ∧ Rv w Sb G v u
def BlkOk (w : World) (Sb : Nat → Prop) (G : Gh) (id : Nat) : Blk → Prop
  | .cells e m g L xs => 0 < m ∧ L ≤ g ∧ (∀ cs ∈ xs, cs.length = m ∧ ∀ v ∈ cs, v.one = true) ∧ (∀ k, L ≤ k → k ≤ g → ∃ E, G id k = some E ∧ TurnOk w Sb G e m xs E) ∧ (∀ E, G id g = some E → E.len = xs.length) ∧ ∀ k, g < k → G id k = none
  | .map _ es => ∃ E ms clock, G id 0 = some E ∧ w.heap[E.blk]? = some (.map ms clock) ∧ ms.size = es.length ∧ ∀ (i : Nat) (x : V × V) (y : MapEntry), es[i]? = some x → ms[i]? = some y → entryV w Sb G x y
  | .void => True
  | .hole => ∀ k, G id k = none
structure WSim (w : World) (Sb : Nat → Prop) (G : Gh) (st : Store) : Prop where
  sub : ∀ b, Sb b → b < w.heap.size
  blk : ∀ id b, st id = some b → BlkOk w Sb G id b
  off : ∀ id k E, live st id k → G id k = some E → ¬ Sb E.blk
  dis : ∀ id k E id' k' E', live st id k → live st id' k' → G id k = some E → G id' k' = some E' → E.blk = E'.blk → id = id'
structure Nxt (w : World) (Sb : Nat → Prop) (G : Gh) (st : Store) (w' : World) (Sb' : Nat → Prop) (G' : Gh) (st' : Store) : Prop where
  sim : WSim w' Sb' G' st'
  os : w'.os = w.os
  tape : w'.tape = w.tape
  output : w'.output = w.output
  size : w.heap.size ≤ w'.heap.size
  keep : ∀ b, b < w.heap.size → ¬ Own st G b → w'.heap[b]? = w.heap[b]?
  own : ∀ b, Own st' G' b → Own st G b ∨ w.heap.size ≤ b
  sb : ∀ b, Sb b → Sb' b
  gh : ∀ id k E, G id k = some E → G' id k = some E
  sbn : ∀ b, Sb' b → Sb b ∨ Own st G b ∨ w.heap.size ≤ b
section
variable {w w' w2 : World} {Sb Sb' Sb2 : Nat → Prop} {G G' G2 : Gh} {st st' st2 : Store}
theorem WSim.stays (h : WSim w Sb G st) {b : Nat} (hb : Sb b) : ¬ Own st G b := fun ⟨id, k, E, h1, h2, h3⟩ => h.off id k E h1 h2 (h3 ▸ hb)
theorem Nxt.rv (h : WSim w Sb G st) (n : Nxt w Sb G st w' Sb' G' st') {v : V} {u : Value} (hv : Rv w Sb G v u) : Rv w' Sb' G' v u :=
  hv.mono (fun b hb => n.keep b (h.sub b hb) (h.stays hb)) n.sb n.gh
theorem Nxt.rvs (h : WSim w Sb G st) (n : Nxt w Sb G st w' Sb' G' st') {v : List V} {u : List Value} (hv : Rvs w Sb G v u) : Rvs w' Sb' G' v u :=
  hv.mono (fun b hb => n.keep b (h.sub b hb) (h.stays hb)) n.sb n.gh
theorem Nxt.trans (h : Nxt w Sb G st w' Sb' G' st') (k : Nxt w' Sb' G' st' w2 Sb2 G2 st2) : Nxt w Sb G st w2 Sb2 G2 st2 where
  sim := k.sim
  os := k.os.trans h.os
  tape := k.tape.trans h.tape
  output := k.output.trans h.output
  size := Nat.le_trans h.size k.size
  keep := fun b hb ho => (k.keep b (Nat.lt_of_lt_of_le hb h.size) (fun ho' => (h.own b ho').elim ho (fun hl => absurd hb (by omega)))).trans (h.keep b hb ho)
  own := fun b hb => (k.own b hb).elim (fun h1 => h.own b h1) (fun h1 => .inr (Nat.le_trans h.size h1))
  sb := fun b hb => k.sb b (h.sb b hb)
  gh := fun id g E hE => k.gh id g E (h.gh id g E hE)
  sbn := fun b hb => (k.sbn b hb).elim (h.sbn b) fun q => q.elim (fun q => (h.own b q).elim (fun q => .inr (.inl q)) fun q => .inr (.inr q)) fun q => .inr (.inr (Nat.le_trans h.size q))
theorem Nxt.refl (h : WSim w Sb G st) : Nxt w Sb G st w Sb G st := ⟨h, rfl, rfl, rfl, Nat.le_refl _, fun _ _ _ => rfl, fun _ h => .inl h, fun _ h => h, fun _ _ _ h => h, fun _ h => .inl h⟩
theorem TurnOk.mono {e : TypeId} {m : Nat} {xs : List (List V)} {E : Ent} (h : TurnOk w Sb G e m xs E) (hE : w'.heap[E.blk]? = w.heap[E.blk]?)
    (hw : ∀ b, Sb b → w'.heap[b]? = w.heap[b]?) (hS : ∀ b, Sb b → Sb' b) (hG : ∀ id g E, G id g = some E → G' id g = some E) : TurnOk w' Sb' G' e m xs E := by
  obtain ⟨cur, h1, h2, h3, h4, h5, h6, h7⟩ := h
  exact ⟨cur, h1, hE.trans h2, h3, h4, h5, h6, fun i cs j v a b c => by
    obtain ⟨u, q1, q2⟩ := h7 i cs j v a b c
    exact ⟨u, q1, q2.mono hw hS hG⟩⟩
theorem live_cells {id : Nat} {e : TypeId} {m g L : Nat} {xs : List (List V)} (h : st id = some (.cells e m g L xs)) {k : Nat} : live st id k ↔ L ≤ k ∧ k ≤ g := by unfold live; rw [h]
theorem live_map {id : Nat} {kt : TypeId} {es : List (V × V)} (h : st id = some (.map kt es)) {k : Nat} : live st id k ↔ k = 0 := by unfold live; rw [h]
theorem live_some {id k : Nat} (h : live st id k) : ∃ b, st id = some b := by
  unfold live at h
  split at h
  · exact ⟨_, ‹_›⟩
  · exact ⟨_, ‹_›⟩
  · exact h.elim
  · exact h.elim
  · exact h.elim
theorem WSim.ent (h : WSim w Sb G st) {id k : Nat} (hl : live st id k) : ∃ E, G id k = some E ∧ E.blk < w.heap.size := by
  obtain ⟨b, hb⟩ := live_some hl
  have hk := h.blk id b hb
  cases b with
  | cells e m g L xs =>
    obtain ⟨_, _, _, h4, _⟩ := hk
    obtain ⟨h5, h6⟩ := (live_cells hb).1 hl
    obtain ⟨E, hE, cur, _, h8, _⟩ := h4 k h5 h6
    exact ⟨E, hE, (Array.getElem?_eq_some_iff.1 h8).1⟩
  | map kt es =>
    obtain ⟨E, ms, cl, h4, h5, _⟩ := hk
    have := (live_map hb).1 hl
    subst this
    exact ⟨E, h4, (Array.getElem?_eq_some_iff.1 h5).1⟩
  | void => unfold live at hl; rw [hb] at hl; exact hl.elim
  | hole => unfold live at hl; rw [hb] at hl; exact hl.elim
theorem BlkOk.mono {id : Nat} {b : Blk} (h : BlkOk w Sb G id b) (hE : ∀ k E, G id k = some E → live (fun _ => some b) id k → w'.heap[E.blk]? = w.heap[E.blk]?)
    (hw : ∀ b, Sb b → w'.heap[b]? = w.heap[b]?) (hS : ∀ b, Sb b → Sb' b) (hG : ∀ id g E, G id g = some E → G' id g = some E) (hGe : ∀ k, G' id k = G id k) : BlkOk w' Sb' G' id b := by
  cases b with
  | cells e m g L xs =>
    obtain ⟨h1, h2, h3, h4, h5, h6⟩ := h
    refine ⟨h1, h2, h3, fun k a b => ?_, fun E hE' => ?_, fun k hk => (hGe k).trans (h6 k hk)⟩
    · obtain ⟨E, q1, q2⟩ := h4 k a b
      exact ⟨E, hG _ _ _ q1, q2.mono (hE k E q1 ⟨a, b⟩) hw hS hG⟩
    · obtain ⟨E2, q1, q2⟩ := h4 g h2 (Nat.le_refl _)
      have := hG _ _ _ q1
      rw [this] at hE'
      cases hE'
      exact h5 _ q1
  | map kt es =>
    obtain ⟨E, ms, cl, h1, h2, h3, h4⟩ := h
    exact ⟨E, ms, cl, hG _ _ _ h1, (hE 0 E h1 rfl).trans h2, h3, fun i x y a b => ⟨(h4 i x y a b).1.mono hw hS hG, (h4 i x y a b).2.mono hw hS hG⟩⟩
  | void => trivial
  | hole => exact fun k => (hGe k).trans (h k)
theorem Nxt.same (h : WSim w Sb G st) (hh : w'.heap = w.heap) (h1 : w'.os = w.os) (h2 : w'.tape = w.tape) (h3 : w'.output = w.output) : Nxt w Sb G st w' Sb G st where
  sim := ⟨fun b hb => by rw [hh]; exact h.sub b hb, fun id b hb => (h.blk id b hb).mono (fun _ _ _ _ => by rw [hh]) (fun _ _ => by rw [hh]) (fun _ h => h) (fun _ _ _ h => h) (fun _ => rfl), h.off, h.dis⟩
  os := h1
  tape := h2
  output := h3
  size := by rw [hh]; exact Nat.le_refl _
  keep := fun _ _ _ => by rw [hh]
  own := fun _ h => .inl h
  sb := fun _ h => h
  gh := fun _ _ _ h => h
  sbn := fun _ h => .inl h
def gput (G : Gh) (id k : Nat) (E : Ent) : Gh := fun i j => if i = id ∧ j = k then some E else G i j
theorem gput_same (G : Gh) (id k : Nat) (E : Ent) : gput G id k E id k = some E := by simp [gput]
theorem gput_ne (G : Gh) {id k i j : Nat} (E : Ent) (h : ¬ (i = id ∧ j = k)) : gput G id k E i j = G i j := by simp only [gput]; rw [if_neg h]
theorem gput_mono (G : Gh) (id k : Nat) (E : Ent) (hn : G id k = none) : ∀ i j F, G i j = some F → gput G id k E i j = some F := by
  intro i j F h
  rw [gput_ne]
  · exact h
  · rintro ⟨rfl, rfl⟩; rw [hn] at h; cases h
theorem Nxt.new (h : WSim w Sb G st) {id : Nat} (hs : st id = none) (hg : ∀ k, G id k = none) (o : Obj) (b : Blk) (E : Ent) (hE : E.blk = w.heap.size) (hlive : ∀ k, live (fun _ => some b) id k ↔ k = 0)
    (hb : (∀ v u, Rv w Sb G v u → Rv (w.alloc o) Sb (gput G id 0 E) v u) → BlkOk (w.alloc o) Sb (gput G id 0 E) id b) :
    Nxt w Sb G st (w.alloc o) Sb (gput G id 0 E) (put st id b) := by
  have hgm := gput_mono G id 0 E (hg 0)
  have hold : ∀ k, k < w.heap.size → (w.alloc o).heap[k]? = w.heap[k]? := fun k hk => Below.heap_alloc _ _ _ hk
  have hrv : ∀ v u, Rv w Sb G v u → Rv (w.alloc o) Sb (gput G id 0 E) v u := fun v u hv => hv.mono (fun b hb => hold b (h.sub b hb)) (fun _ h => h) hgm
  have hl : ∀ i k, live (put st id b) i k → (i = id ∧ k = 0) ∨ (i ≠ id ∧ live st i k) := by
    intro i k hl
    by_cases hi : i = id
    · subst hi
      left
      refine ⟨rfl, (hlive k).1 ?_⟩
      unfold live at hl ⊢
      rwa [put_same] at hl
    · right
      refine ⟨hi, ?_⟩
      unfold live at hl ⊢
      rwa [put_ne _ _ hi] at hl
  have hge : ∀ i k F, live (put st id b) i k → gput G id 0 E i k = some F → (i = id ∧ F = E) ∨ (i ≠ id ∧ live st i k ∧ G i k = some F ∧ F.blk < w.heap.size) := by
    intro i k F h1 h2
    rcases hl i k h1 with ⟨rfl, rfl⟩ | ⟨h3, h4⟩
    · left
      rw [gput_same] at h2
      cases h2
      exact ⟨rfl, rfl⟩
    · right
      rw [gput_ne _ _ (fun hh => h3 hh.1)] at h2
      obtain ⟨F', q1, q2⟩ := h.ent h4
      rw [q1] at h2
      cases h2
      exact ⟨h3, h4, q1, q2⟩
  refine ⟨⟨fun b hb => ?_, fun i b' hb' => ?_, fun i k F h1 h2 hS => ?_, fun i k F i' k' F' h1 h2 h3 h4 h5 => ?_⟩, rfl, rfl, rfl, by simp, fun b hb _ => hold b hb, fun b hb => ?_, fun _ h => h, hgm, fun _ h => .inl h⟩
  · have := h.sub b hb
    simp
    omega
  · by_cases hi : i = id
    · subst hi
      rw [put_same] at hb'
      cases hb'
      exact hb hrv
    · rw [put_ne _ _ hi] at hb'
      refine (h.blk i b' hb').mono (fun k F h1 h2 => hold _ ?_) (fun b hb => hold b (h.sub b hb)) (fun _ h => h) hgm (fun k => gput_ne _ _ (fun q => hi q.1))
      have : live st i k := by unfold live at h2 ⊢; rw [hb']; exact h2
      obtain ⟨F', q1, q2⟩ := h.ent this
      rw [q1] at h1
      cases h1
      exact q2
  · rcases hge i k F h1 h2 with ⟨rfl, rfl⟩ | ⟨h3, h4, h5, h6⟩
    · have := h.sub _ hS
      omega
    · exact h.off i k F h4 h5 hS
  · rcases hge i k F h1 h3 with ⟨rfl, rfl⟩ | ⟨q1, q2, q3, q4⟩
    · rcases hge i' k' F' h2 h4 with ⟨rfl, rfl⟩ | ⟨r1, r2, r3, r4⟩
      · rfl
      · omega
    · rcases hge i' k' F' h2 h4 with ⟨rfl, rfl⟩ | ⟨r1, r2, r3, r4⟩
      · omega
      · exact h.dis i k F i' k' F' q2 r2 q3 r3 h5
  · obtain ⟨i, k, F, h1, h2, h3⟩ := hb
    rcases hge i k F h1 h2 with ⟨rfl, rfl⟩ | ⟨q1, q2, q3, q4⟩
    · right; omega
    · left; exact ⟨i, k, F, q2, q3, h3⟩
theorem live_put {id : Nat} {b : Blk} {i k : Nat} (h : live (put st id b) i k) : (i = id ∧ live (fun _ => some b) id k) ∨ (i ≠ id ∧ live st i k) := by
  by_cases hi : i = id
  · subst hi
    left
    refine ⟨rfl, ?_⟩
    unfold live at h ⊢
    rwa [put_same] at h
  · right
    refine ⟨hi, ?_⟩
    unfold live at h ⊢
    rwa [put_ne _ _ hi] at h
theorem Nxt.turn (h : WSim w Sb G st) {id : Nat} {b : Blk} (h1 : w'.os = w.os) (h2 : w'.tape = w.tape) (h3 : w'.output = w.output) (hs : w.heap.size ≤ w'.heap.size)
    (hk : ∀ k, k < w.heap.size → (∀ j E, live st id j → G id j = some E → E.blk ≠ k) → w'.heap[k]? = w.heap[k]?)
    (hG : ∀ i j E, G i j = some E → G' i j = some E) (hG' : ∀ i j, i ≠ id → G' i j = G i j)
    (hnew : ∀ k E, live (fun _ => some b) id k → G' id k = some E → w.heap.size ≤ E.blk ∨ ∃ j F, live st id j ∧ G id j = some F ∧ F.blk = E.blk)
    (hb : (∀ v u, Rv w Sb G v u → Rv w' Sb G' v u) → BlkOk w' Sb G' id b) : Nxt w Sb G st w' Sb G' (put st id b) := by
  have hsb : ∀ k, Sb k → w'.heap[k]? = w.heap[k]? := fun k hk' => hk k (h.sub k hk') (fun j E q1 q2 q3 => h.off id j E q1 q2 (q3 ▸ hk'))
  have hrv : ∀ v u, Rv w Sb G v u → Rv w' Sb G' v u := fun v u hv => hv.mono hsb (fun _ h => h) hG
  have hother : ∀ i k F, i ≠ id → live st i k → G i k = some F → ∀ j E, live st id j → G id j = some E → E.blk ≠ F.blk := fun i k F hi q1 q2 j E q3 q4 q5 => hi (h.dis i k F id j E q1 q3 q2 q4 q5.symm)
  have hge : ∀ i k F, live (put st id b) i k → G' i k = some F → (i = id ∧ (w.heap.size ≤ F.blk ∨ ∃ j E, live st id j ∧ G id j = some E ∧ E.blk = F.blk)) ∨ (i ≠ id ∧ live st i k ∧ G i k = some F ∧ F.blk < w.heap.size) := by
    intro i k F q1 q2
    rcases live_put q1 with ⟨rfl, q3⟩ | ⟨q3, q4⟩
    · exact .inl ⟨rfl, hnew k F q3 q2⟩
    · rw [hG' i k q3] at q2
      obtain ⟨F', r1, r2⟩ := h.ent q4
      rw [r1] at q2
      cases q2
      exact .inr ⟨q3, q4, r1, r2⟩
  refine ⟨⟨fun k hk' => Nat.lt_of_lt_of_le (h.sub k hk') hs, fun i b' hb' => ?_, fun i k F q1 q2 hS => ?_, fun i k F i' k' F' q1 q2 q3 q4 q5 => ?_⟩, h1, h2, h3, hs, fun k hk' ho => hk k hk' (fun j E q1 q2 q3 => ho ⟨id, j, E, q1, q2, q3⟩), fun k hk' => ?_, fun _ h => h, hG, fun _ h => .inl h⟩
  · by_cases hi : i = id
    · subst hi
      rw [put_same] at hb'
      cases hb'
      exact hb hrv
    · rw [put_ne _ _ hi] at hb'
      have hli : ∀ k, live (fun _ => some b') i k → live st i k := fun k hl => by unfold live at hl ⊢; rw [hb']; exact hl
      refine (h.blk i b' hb').mono (fun k F q1 q2 => ?_) hsb (fun _ h => h) hG (fun k => hG' i k hi)
      obtain ⟨F', r1, r2⟩ := h.ent (hli k q2)
      rw [r1] at q1
      cases q1
      exact hk _ r2 (hother i k _ hi (hli k q2) r1)
  · rcases hge i k F q1 q2 with ⟨rfl, r1 | ⟨j, E, r1, r2, r3⟩⟩ | ⟨r1, r2, r3, r4⟩
    · have := h.sub _ hS; omega
    · exact h.off _ j E r1 r2 (r3 ▸ hS)
    · exact h.off i k F r2 r3 hS
  · rcases hge i k F q1 q3 with ⟨rfl, r1⟩ | ⟨r1, r2, r3, r4⟩
    · rcases hge i' k' F' q2 q4 with ⟨rfl, s1⟩ | ⟨s1, s2, s3, s4⟩
      · rfl
      · rcases r1 with r1 | ⟨j, E, r1, r2, r3⟩
        · omega
        · exact absurd (r3.trans q5) (hother i' k' F' s1 s2 s3 j E r1 r2)
    · rcases hge i' k' F' q2 q4 with ⟨rfl, s1⟩ | ⟨s1, s2, s3, s4⟩
      · rcases s1 with s1 | ⟨j, E, s1, s2, s3⟩
        · omega
        · exact absurd (s3.trans q5.symm) (hother i k F r1 r2 r3 j E s1 s2)
      · exact h.dis i k F i' k' F' r2 s2 r3 s3 q5
  · obtain ⟨i, k2, F, q1, q2, q3⟩ := hk'
    rcases hge i k2 F q1 q2 with ⟨rfl, r1 | ⟨j, E, r1, r2, r3⟩⟩ | ⟨r1, r2, r3, r4⟩
    · right; omega
    · left; exact ⟨_, j, E, r1, r2, r3.trans q3⟩
    · left; exact ⟨i, k2, F, r2, r3, q3⟩
end
end Go.Vm
namespace Go.Vm
open Go.RowKit
def ofVal1 : Value → Option V
  | .int k n => some (.int k n)
  | .bool b => some (.bool b)
  | .string s => some (.str s)
  | .pointer none => some .nilptr
  | .slice none 0 0 => some .nil
  | .map none => some .nilmap
  | .nilFunc => some .nilfunc
  | _ => none
def ofVals : List Value → Option (List V)
  | [] => some []
  | u :: us => match ofVal1 u, ofVals us with | some v, some vs => some (v :: vs) | _, _ => none
def ofVal : Value → Option V
  | .agg cs => (ofVals cs.toList).map .agg
  | .tuple vs => match vs.toList with | [] => some (.tuple []) | _ => none
  | u => ofVal1 u
inductive TK where
  | int (k : IntKind) | bool | str | ptr (e : TypeId) | slice (e : TypeId) | array (n : Nat) (e : TypeId) | map (k e : TypeId) | struct (fs : List (Nat × TypeId)) | func | other
structure TI where
  k : TK
  size : Nat
  bytes : Nat
  agg : Bool
  zero : Option V
def kindOf : TypeDesc → TK
  | .int k => .int k
  | .bool => .bool
  | .string => .str
  | .pointer e => .ptr e
  | .slice e => .slice e
  | .array n e => .array n e
  | .map k e => .map k e
  | .struct fs => .struct (fs.toList.map fun f => (f.offset, f.type))
  | .func .. => .func
  | _ => .other
def aggOf : TypeDesc → Bool
  | .struct _ | .array _ _ => true
  | _ => false
def tinfo (P : Program) (t : TypeId) : Option TI :=
  match P.info? t, P.underlying t with
  | some i, some u => some ⟨kindOf u, i.size, i.bytes, aggOf u, i.zero.bind ofVal⟩
  | _, _ => none
def tk (P : Program) (t : TypeId) : Option TK := (tinfo P t).map TI.k
def vcells : V → List V
  | .agg cs => cs
  | v => [v]
def zlen (i : TI) : Nat := match i.zero with | some z => (vcells z).length | none => 0
abbrev Out := V × List (Nat × Blk) × Nat
def splice (cs : List V) (o : Nat) (vs : List V) : List V := cs.take o ++ (vs ++ cs.drop (o + vs.length))
def vpart (agg : Bool) (o sz : Nat) (cs : List V) : Option V := if agg then (if o + sz ≤ cs.length then some (.agg ((cs.drop o).take sz)) else none) else cs[o]?
def vload (st : Store) (agg : Bool) (sz : Nat) : V → Option V
  | .ptr id g i o => match st id with
    | some (.cells _ _ G L xs) => if L ≤ g ∧ g ≤ G then (xs[i]?).bind (vpart agg o sz) else none
    | _ => none
  | .iptr cs => vpart agg 0 sz cs
  | _ => none
def vstore (st : Store) (sz : Nat) (v : V) : V → Option (List (Nat × Blk))
  | .ptr id g i o => match st id with
    | some (.cells e m G _ xs) => if g = G ∧ (vcells v).length = sz ∧ o + sz ≤ m ∧ (vcells v).all V.one = true then (xs[i]?).map fun cs => [(id, .cells e m G G (xs.set i (splice cs o (vcells v))))] else none
    | _ => none
  | _ => none
def vseq (st : Store) : V → Option (List (List V))
  | .nil => some []
  | .list _ xs => some xs
  | .row id g i n => match st id with
    | some (.cells _ _ G L xs) => if L ≤ g ∧ g ≤ G ∧ i + n ≤ xs.length then some ((xs.drop i).take n) else none
    | _ => none
  | .str s => some (s.data.toList.map fun b => [.int .u8 b.toNat])
  | _ => none
def okw (st : Store) (m : Nat) : V → Bool
  | .nil => true
  | .list k _ => k == m
  | .row id g _ _ => match st id with
    | some (.cells _ k G L _) => k == m && decide (L ≤ g ∧ g ≤ G)
    | _ => false
  | .str _ => m == 1
  | _ => false
def room : Nat := 140737488355328
def vappend (st : Store) (n : Nat) (e : TypeId) (m bytes : Nat) (ys : List (List V)) : V → Option Out
  | .nil => if ys.length = 0 then some (.nil, [], n) else if ys.length * bytes ≤ room then some (.row n 0 0 ys.length, [(n, .cells e m 0 0 ys)], n + 1) else none
  | .row id g 0 k => match st id with
    | some (.cells e' m' G L xs) => if e' = e ∧ m' = m ∧ g = G ∧ k ≤ xs.length ∧ (k + ys.length) * bytes ≤ room then
        if k + ys.length ≤ xs.length ∧ k < xs.length then some (.row id G 0 (k + ys.length), [(id, .cells e m G G (xs.take k ++ (ys ++ xs.drop (k + ys.length))))], n) else
        some (.row id (G + 1) 0 (k + ys.length), [(id, .cells e m (G + 1) (if k = xs.length then L else G + 1) (xs.take k ++ ys))], n) else none
    | _ => none
  | _ => none
def chunk : Nat → Nat → List V → List (List V)
  | 0, _, _ => []
  | k + 1, m, l => l.take m :: chunk k m (l.drop m)
def vfill (place : Nat → Option (Nat × Nat)) (cells : List V) : List (Nat × V) → Option (List V)
  | [] => some cells
  | (i, v) :: rest => match place i with
    | none => none
    | some (off, size) => if (vcells v).length = size ∧ off + size ≤ cells.length ∧ (vcells v).all V.one = true then vfill place (splice cells off (vcells v)) rest else none
def valloc (e : TypeId) (cs : List V) (n : Nat) : Option Out :=
  if 0 < cs.length ∧ cs.all V.one = true then some (.ptr n 0 0 0, [(n, .cells e cs.length 0 0 [cs])], n + 1) else none
def bitsOp (op : BinOp) (k : IntKind) (x y : Int) : Int :=
  k.wrap ((match op with
    | .and => BitVec.ofInt k.bits x &&& BitVec.ofInt k.bits y
    | .or => BitVec.ofInt k.bits x ||| BitVec.ofInt k.bits y
    | .xor => BitVec.ofInt k.bits x ^^^ BitVec.ofInt k.bits y
    | _ => BitVec.ofInt k.bits x &&& ~~~ BitVec.ofInt k.bits y).toNat : Int)
def vint (op : BinOp) (k : IntKind) (a b : Int) : Option V :=
  match op with
  | .add => some (.int k (k.wrap (a + b)))
  | .sub => some (.int k (k.wrap (a - b)))
  | .mul => some (.int k (k.wrap (a * b)))
  | .quo => if b = 0 then none else some (.int k (k.wrap (a.tdiv b)))
  | .rem => if b = 0 then none else some (.int k (a.tmod b))
  | .and => some (.int k (bitsOp .and k a b))
  | .or => some (.int k (bitsOp .or k a b))
  | .xor => some (.int k (bitsOp .xor k a b))
  | .andNot => some (.int k (bitsOp .andNot k a b))
  | .eql => some (.bool (a == b))
  | .neq => some (.bool (a != b))
  | .lss => some (.bool (decide (a < b)))
  | .leq => some (.bool (decide (a ≤ b)))
  | .gtr => some (.bool (decide (b < a)))
  | .geq => some (.bool (decide (b ≤ a)))
  | .shl => if b < 0 then none else some (.int k (k.wrap (a * 2 ^ (min b.toNat k.bits))))
  | .shr => if b < 0 then none else some (.int k (a.fdiv (2 ^ (min b.toNat k.bits))))
def vstr (op : BinOp) (x y : ByteArray) : Option V :=
  match op with
  | .add => if x.size + y.size ≤ 9223372036854775807 then some (.str (x ++ y)) else none
  | .eql => some (.bool (x.toList == y.toList))
  | .neq => some (.bool !(x.toList == y.toList))
  | .lss => some (.bool (Op.bytesLess x.toList y.toList))
  | .leq => some (.bool (Op.bytesLess x.toList y.toList || x.toList == y.toList))
  | .gtr => some (.bool !(Op.bytesLess x.toList y.toList || x.toList == y.toList))
  | .geq => some (.bool !(Op.bytesLess x.toList y.toList))
  | _ => none
def flatFs (P : Program) : Nat → List Field → Bool
  | _, [] => true
  | o, f :: r => (f.name != "_") && Nat.beq f.offset o && (match P.underlying f.type with | some (.int _) => true | _ => false) && flatFs P (o + 1) r
def flatEq (P : Program) (t : TypeId) : Option Nat := match P.underlying t with
  | some (.struct fs) => if (flatFs P 0 fs.toList && !P.stoodInHeld t && !P.eqGuardType P.depth t) = true then some fs.toList.length else none
  | _ => none
def sameK : List V → List V → Bool
  | [], [] => true
  | .int k _ :: r, .int k' _ :: s => decide (k = k') && sameK r s
  | _, _ => false
def intsOf : List V → List Int
  | [] => []
  | .int _ a :: r => a :: intsOf r
  | _ :: r => 0 :: intsOf r
def vbin (op : BinOp) (tk : Option TK) (fl : Option Nat) : V → V → Option V
  | .int k a, .int k' b => match op with
    | .shl | .shr => vint op k a b
    | _ => if k = k' then vint op k a b else none
  | .str a, .str b => vstr op a b
  | .bool a, .bool b => match op, tk with
    | .eql, some .bool => some (.bool (a == b))
    | .neq, some .bool => some (.bool !(a == b))
    | _, _ => none
  | .agg xs, .agg ys => if fl = some xs.length ∧ sameK xs ys = true then (match op with
    | .eql => some (.bool (decide (intsOf xs = intsOf ys)))
    | .neq => some (.bool (decide (intsOf xs ≠ intsOf ys)))
    | _ => none) else none
  | _, _ => none
def vun (op : UnOp) : V → Option V
  | .int k a => match op with
    | .neg => some (.int k (k.wrap (0 - a)))
    | .xor => some (.int k (bitsOp .xor k (if k.signed then -1 else k.max) a))
    | _ => none
  | .bool b => match op with
    | .not => some (.bool !b)
    | _ => none
  | _ => none
def byteList : List (List V) → Option (List UInt8)
  | [] => some []
  | [.int .u8 b] :: r => (byteList r).map (UInt8.ofNat b.toNat :: ·)
  | _ => none
def runeList : List (List V) → Option (List Int)
  | [] => some []
  | [.int .i32 b] :: r => (runeList r).map (b :: ·)
  | _ => none
def runesString (l : List Int) : ByteArray := l.foldl (fun s n => s ++ Utf8.encode n) ByteArray.empty
def vconv (P : Program) (st : Store) (src dst : TypeId) (x : V) : Option V :=
  match tinfo P src, tinfo P dst with
  | some s, some d => match d.k, x with
    | .int k, .int _ n => some (.int k (k.wrap n))
    | .str, .int _ n => some (.str (Utf8.encode n))
    | .str, .str s => some (.str s)
    | .str, x => match s.k with
      | .slice e => match tk P e with
        | some (.int .u8) => ((vseq st x).bind byteList).map fun l => .str ⟨l.toArray⟩
        | some (.int .i32) => ((vseq st x).bind runeList).map fun l => .str (runesString l)
        | _ => none
      | _ => none
    | .slice e, .str z => match s.k, tk P e with
      | .str, some (.int .u8) => if z.size ≤ 9223372036854775807 then some (.list 1 (z.data.toList.map fun b => [.int .u8 b.toNat])) else none
      | _, _ => none
    | _, _ => none
  | _, _ => none
def bnd (d : Int) : Option V → Option Int
  | none => some d
  | some (.int _ n) => some n
  | _ => none
def vslice (st : Store) (str : Bool) (sz : Nat) (lo hi : Option V) : V → Option V
  | .str s => if str = true then match bnd 0 lo, bnd s.size hi with
    | some l, some h => if 0 ≤ l ∧ l ≤ h ∧ h ≤ s.size then some (.str (s.extract l.toNat h.toNat)) else none
    | _, _ => none else none
  | .nil => if str = false then match bnd 0 lo, bnd 0 hi with
    | some l, some h => if l = 0 ∧ h = 0 then some .nil else none
    | _, _ => none else none
  | .list m xs => if str = false then match bnd 0 lo, bnd xs.length hi with
    | some l, some h => if 0 ≤ l ∧ l ≤ h ∧ h ≤ xs.length ∧ m = sz then some (.list m ((xs.drop l.toNat).take (h.toNat - l.toNat))) else none
    | _, _ => none else none
  | .row id g i n => if str = false then match bnd 0 lo, bnd n hi with
    | some l, some h => if 0 ≤ l ∧ l ≤ h ∧ h ≤ n ∧ okw st sz (.row id g i n) = true then some (.row id g (i + l.toNat) (h.toNat - l.toNat)) else none
    | _, _ => none else none
  | _ => none
def vshift (st : Store) (d : Nat) : V → Option V
  | .ptr id g i o => match st id with
    | some (.cells _ m G L _) => if o + d < m ∧ L ≤ g ∧ g ≤ G then some (.ptr id g i (o + d)) else none
    | _ => none
  | .iptr cs => if d < cs.length then some (.iptr (cs.drop d)) else none
  | _ => none
def veq : TK → V → V → Option Bool
  | .int _, .int k a, .int k' b => if k = k' then some (a == b) else none
  | .str, .str a, .str b => some (a == b)
  | .bool, .bool a, .bool b => some (a == b)
  | _, _, _ => none
def vfind (kk : TK) (k : V) : List (V × V) → Nat → Option (Option Nat)
  | [], _ => some none
  | e :: es, i => match veq kk k e.1 with
    | some true => some (some i)
    | some false => vfind kk k es (i + 1)
    | none => none
def plainKey : TK → Bool
  | .int _ | .str | .bool => true
  | _ => false
def vlookup (P : Program) (st : Store) (t : TypeId) (ok : Bool) (m k : V) : Option V :=
  match tk P t with
  | some (.map kt et) =>
    match tk P kt with
    | none => none
    | some kk => if plainKey kk = true then
      let es : Option (List (V × V)) := match m with
        | .nilmap => some []
        | .map id => match st id with | some (.map _ es) => some es | _ => none
        | _ => none
      match es with
      | some es => match vfind kk k es 0 with
        | some (some i) => (es[i]?).map fun e => if ok then .tuple [e.2, .bool true] else e.2
        | some none => match (tinfo P et).bind (·.zero) with
          | some z => some (if ok then .tuple [z, .bool false] else z)
          | none => none
        | none => none
      | none => none
    else none
  | _ => none
def vupdate (P : Program) (st : Store) (t : TypeId) (m k v : V) : Option (List (Nat × Blk)) :=
  match tk P t with
  | some (.map kt _) =>
    match tk P kt with
    | none => none
    | some kk => if plainKey kk = true then
      match m with
      | .map id => match st id with
        | some (.map kt' es) => match vfind kk k es 0 with
          | some (some i) => some [(id, .map kt' (es.set i (k, v)))]
          | some none => some [(id, .map kt' (es ++ [(k, v)]))]
          | none => none
        | _ => none
      | _ => none
    else none
  | _ => none
def vlen (st : Store) : TK → V → Option Nat
  | .array n _, _ => some n
  | .slice _, .nil => some 0
  | .slice _, .list _ xs => some xs.length
  | .slice _, .row _ _ _ n => some n
  | .str, .str s => some s.size
  | .map _ _, .nilmap => some 0
  | .map _ _, .map id => match st id with | some (.map _ es) => some es.length | _ => none
  | _, _ => none
def vfold (f : Int → Int → Int) (k : IntKind) (a : Int) : List V → Option V
  | [] => some (.int k a)
  | .int k' b :: r => if k = k' then vfold f k (f a b) r else none
  | _ => none
def apk : TK → Bool
  | .slice _ | .str => true
  | _ => false
def vbuiltin (P : Program) (st : Store) (n : Nat) (ts : List TypeId) (b : Builtin) (args : List V) : Option Out :=
  match b, args, ts with
  | .len, [x], [t] => match tk P t with
    | some kk => (vlen st kk x).map fun (k : Nat) => (V.int .i64 (k : Int), [], n)
    | none => none
  | .append, [s, x], [t, u] => match tinfo P t with
    | some ⟨.slice e, _, _, _, _⟩ => match tinfo P e, tk P u with
      | some i, some ku => if apk ku = true ∧ 0 < i.size ∧ 0 < i.bytes ∧ zlen i = i.size ∧ okw st i.size x = true then (vseq st x).bind fun ys => vappend st n e i.size i.bytes ys s else none
      | _, _ => none
    | _ => none
  | .max, .int k a :: r, _ => (vfold (fun a b => if b > a then b else a) k a r).map fun v => (v, [], n)
  | .min, .int k a :: r, _ => (vfold (fun a b => if b < a then b else a) k a r).map fun v => (v, [], n)
  | _, _, _ => none
def vmake (P : Program) (n : Nat) (t : TypeId) (l c : V) : Option Out :=
  match tk P t, l, c with
  | some (.slice e), .int _ l, .int _ c => match tinfo P e with
    | some i => match i.zero with
      | some z => if 0 ≤ l ∧ l ≤ c ∧ (i.bytes : Int) * c ≤ room ∧ 0 < i.bytes ∧ 0 < i.size ∧ (vcells z).length = i.size ∧ (vcells z).all V.one = true then some (.row n 0 0 l.toNat, [(n, .cells e i.size 0 0 (List.replicate l.toNat (vcells z)))], n + 1) else none
      | none => none
    | none => none
  | _, _, _ => none
def vplaces (P : Program) : List (Nat × TypeId) → Option (List (Nat × Nat))
  | [] => some []
  | f :: r => match tinfo P f.2, vplaces P r with
    | some i, some l => some ((f.1, i.size) :: l)
    | _, _ => none
def vop (P : Program) (ρ : Operand → V) (st : Store) (n : Nat) : Op → Option Out
  | .move x | .assign x => some (ρ x, [], n)
  | .pick c a b => match ρ c with
    | .bool t => some (if t then ρ a else ρ b, [], n)
    | _ => none
  | .alloc e => match tinfo P e with
    | some i => match i.zero with
      | some z => if (vcells z).length = i.size then valloc e (vcells z) n else none
      | none => none
    | none => none
  | .box e x => valloc e (vcells (ρ x)) n
  | .build t ps => match tinfo P t with
    | some i => match i.zero, i.k with
      | some z, .struct fs => if (vcells z).all V.one = true then (vplaces P fs).bind fun pl => (vfill (fun k => pl[k]?) (vcells z) (ps.toList.map fun p => (p.1, ρ p.2))).map fun cs => (.agg cs, [], n) else none
      | some z, .array _ e => match tinfo P e with
        | some j => if (vcells z).all V.one = true then (vfill (fun k => some (k * j.size, j.size)) (vcells z) (ps.toList.map fun p => (p.1, ρ p.2))).map fun cs => (.agg cs, [], n) else none
        | none => none
      | _, _ => none
    | none => none
  | .buildSlice t len ps => match tk P t with
    | some (.slice e) => match tinfo P e with
      | some i => match i.zero with
        | some z => if 0 < i.size ∧ (vcells z).length = i.size ∧ (vcells z).all V.one = true ∧ len * i.size ≤ 16777216 then
            (vfill (fun k => some (k * i.size, i.size)) (List.replicate len (vcells z)).flatten (ps.toList.map fun p => (p.1, ρ p.2))).map fun cs => (.row n 0 0 len, [(n, .cells e i.size 0 0 (chunk len i.size cs))], n + 1) else none
        | none => none
      | none => none
    | _ => none
  | .load t a => match tinfo P t with
    | some i => (vload st i.agg i.size (ρ a)).map fun v => (v, [], n)
    | none => none
  | .store t a x => match tinfo P t with
    | some i => (vstore st i.size (ρ x) (ρ a)).map fun u => (.tuple [], u, n)
    | none => none
  | .nilCheck x => match ρ x with
    | .ptr id g i o => some (.ptr id g i o, [], n)
    | .iptr cs => some (.iptr cs, [], n)
    | _ => none
  | .binOp op t x y _ => (vbin op (tk P t) (flatEq P t) (ρ x) (ρ y)).map fun v => (v, [], n)
  | .unOp op _ x => (vun op (ρ x)).map fun v => (v, [], n)
  | .convert src dst x => (vconv P st src dst (ρ x)).map fun v => (v, [], n)
  | .makeFunc fn f c => some (.func fn (f.toList.map ρ) (c.toList.map ρ), [], n)
  | .makeMap t none => match tk P t with
    | some (.map kt _) => some (.map n, [(n, .map kt [])], n + 1)
    | _ => none
  | .makeSlice t l c => vmake P n t (ρ l) (ρ c)
  | .slice t x lo hi none => match tk P t with
    | some .str => (vslice st true 0 (lo.map ρ) (hi.map ρ) (ρ x)).map fun v => (v, [], n)
    | some (.slice e) => (tinfo P e).bind fun i => (vslice st false i.size (lo.map ρ) (hi.map ρ) (ρ x)).map fun v => (v, [], n)
    | _ => none
  | .fieldAddr s x f => match tk P s with
    | some (.struct fs) => match fs[f]? with
      | some (o, ft) => match tinfo P ft with
        | some i => if i.size = 0 then none else (vshift st o (ρ x)).map fun v => (v, [], n)
        | none => none
      | none => none
    | _ => none
  | .field t x f => match tk P t, ρ x with
    | some (.struct fs), .agg cs => match fs[f]? with
      | some (o, ft) => match tinfo P ft with
        | some i => (vpart i.agg o i.size cs).map fun v => (v, [], n)
        | none => none
      | none => none
    | _, _ => none
  | .indexAddr t x i => match tk P t, ρ i with
    | some (.slice e), .int _ j => match tinfo P e with
      | some ie => if 0 ≤ j then match ρ x with
        | .list m xs => if m = ie.size then (xs[j.toNat]?).map fun cs => (.iptr cs, [], n) else none
        | .row id g i0 k => match st id with
          | some (.cells _ m G L _) => if m = ie.size ∧ j.toNat < k ∧ L ≤ g ∧ g ≤ G then some (.ptr id g (i0 + j.toNat) 0, [], n) else none
          | _ => none
        | _ => none else none
      | none => none
    | some (.array k e), .int _ j => match tinfo P e with
      | some ie => if 0 ≤ j ∧ j.toNat < k then (vshift st (j.toNat * ie.size) (ρ x)).map fun v => (v, [], n) else none
      | none => none
    | _, _ => none
  | .index t x i => match tk P t, ρ x, ρ i with
    | some .str, .str s, .int _ j => if 0 ≤ j then (s.data.toList[j.toNat]?).map fun b => (.int .u8 b.toNat, [], n) else none
    | some (.array k e), .agg cs, .int _ j => match tinfo P e with
      | some ie => if 0 ≤ j ∧ j.toNat < k then (vpart ie.agg (j.toNat * ie.size) ie.size cs).map fun v => (v, [], n) else none
      | none => none
    | _, _, _ => none
  | .lookup t m k ok => (vlookup P st t ok (ρ m) (ρ k)).map fun v => (v, [], n)
  | .mapUpdate t m k v => (vupdate P st t (ρ m) (ρ k) (ρ v)).map fun u => (.tuple [], u, n)
  | .extract x i => match ρ x with
    | .tuple vs => (vs[i]?).map fun v => (v, [], n)
    | _ => none
  | .call c => match c.callee with
    | .builtin b => vbuiltin P st n c.argTypes.toList b (c.args.toList.map ρ)
    | _ => none
  | _ => none
def upd (st : Store) : List (Nat × Blk) → Store
  | [] => st
  | (i, b) :: r => upd (put st i b) r
end Go.Vm
namespace Go.Vm
open Go.RowKit
section
variable {P : Program} {w w' : World} {Sb : Nat → Prop} {G : Gh} {st : Store}
theorem ofVal1_rv {u : Value} {v : V} (h : ofVal1 u = some v) : Rv w Sb G v u ∧ v.one = true ∧ u.cells = #[u] := by
  unfold ofVal1 at h
  split at h <;> first | (cases h; exact ⟨by constructor, rfl, rfl⟩) | cases h
theorem ofVals_rvs : ∀ {us : List Value} {vs : List V}, ofVals us = some vs → Rvs w Sb G vs us ∧ ∀ v ∈ vs, v.one = true
  | [], vs, h => by simp [ofVals] at h; subst h; exact ⟨.nil, by simp⟩
  | u :: us, vs, h => by
    simp only [ofVals] at h
    split at h
    · rename_i v vs' h1 h2
      cases h
      have h3 := ofVal1_rv (w := w) (Sb := Sb) (G := G) h1
      have h4 := ofVals_rvs h2
      exact ⟨.cons h3.1 h4.1, by simp only [List.mem_cons]; rintro x (rfl | hx); exact h3.2.1; exact h4.2 x hx⟩
    · cases h
theorem ofVal_rv {u : Value} {v : V} (h : ofVal u = some v) : Rv w Sb G v u ∧ Rvs w Sb G (vcells v) u.cells.toList := by
  unfold ofVal at h
  split at h
  · rename_i cs
    cases hc : ofVals cs.toList with
    | none => rw [hc] at h; cases h
    | some vs =>
      rw [hc] at h
      cases h
      have := ofVals_rvs (w := w) (Sb := Sb) (G := G) hc
      refine ⟨.agg (by have := this.1.1; simpa using this) this.2 (fun i v u a b => this.1.2 i v u a (by simpa using b)), this.1⟩
  · rename_i vs
    split at h
    · rename_i hv
      cases h
      have : vs = #[] := by cases vs; simp_all
      subst this
      exact ⟨.tuple rfl (fun i v u a => by simp at a), .cons (.tuple rfl (fun i v u a => by simp at a)) .nil⟩
    · cases h
  · have := ofVal1_rv (w := w) (Sb := Sb) (G := G) h
    refine ⟨this.1, ?_⟩
    have hv : vcells v = [v] := by have h1 := this.2.1; cases v <;> first | rfl | (simp [V.one] at h1)
    rw [hv, this.2.2]
    exact .cons this.1 .nil
theorem Rv.cells {v : V} {u : Value} (h : Rv w Sb G v u) (ho : (vcells v).all V.one = true) : Rvs w Sb G (vcells v) u.cells.toList ∧ ∀ x ∈ u.cells.toList, x.oneCell' = true := by
  have key : Rvs w Sb G (vcells v) u.cells.toList := by
    cases h
    case agg cs us h1 ho2 h2 => exact ⟨by simpa [vcells, Value.cells] using h1, fun i v u a b => h2 i v u a (by simpa [Value.cells] using b)⟩
    case any => simp [vcells, V.one] at ho
    case tuple => simp [vcells, V.one] at ho
    all_goals exact .cons (by first | constructor <;> assumption | (constructor <;> first | assumption | rfl)) .nil
  refine ⟨key, fun x hx => ?_⟩
  obtain ⟨i, hi, rfl⟩ := List.getElem_of_mem hx
  have hl : i < (vcells v).length := by rw [← key.1]; exact hi
  have hr := key.2 i _ _ (List.getElem?_eq_getElem hl) (List.getElem?_eq_getElem hi)
  exact hr.one (by simpa using List.all_eq_true.1 ho _ (List.getElem_mem hl))
theorem tinfo_spec {t : TypeId} {ti : TI} (h : tinfo P t = some ti) : ∃ i u, P.info? t = some i ∧ P.underlying t = some u ∧ ti.k = kindOf u ∧ ti.size = i.size ∧ ti.bytes = i.bytes ∧ ti.agg = aggOf u ∧ ti.zero = i.zero.bind ofVal := by
  unfold tinfo at h
  split at h
  · rename_i i u h1 h2
    cases h
    exact ⟨i, u, h1, h2, rfl, rfl, rfl, rfl, rfl⟩
  · cases h
theorem tk_spec {t : TypeId} {k : TK} (h : tk P t = some k) : ∃ u, P.underlying t = some u ∧ k = kindOf u := by
  unfold tk at h
  cases ht : tinfo P t with
  | none => rw [ht] at h; cases h
  | some ti =>
    rw [ht] at h
    cases h
    obtain ⟨i, u, _, h2, h3, _⟩ := tinfo_spec ht
    exact ⟨u, h2, h3⟩
theorem kind_slice {u : TypeDesc} {e : TypeId} (h : .slice e = kindOf u) : u = .slice e := by cases u <;> simp [kindOf] at h; rw [h]
theorem kind_array {u : TypeDesc} {n : Nat} {e : TypeId} (h : .array n e = kindOf u) : u = .array n e := by cases u <;> simp [kindOf] at h; rw [h.1, h.2]
theorem kind_map {u : TypeDesc} {k e : TypeId} (h : .map k e = kindOf u) : u = .map k e := by cases u <;> simp [kindOf] at h; rw [h.1, h.2]
theorem kind_str {u : TypeDesc} (h : .str = kindOf u) : u = .string := by cases u <;> simp [kindOf] at h; rfl
theorem kind_bool {u : TypeDesc} (h : .bool = kindOf u) : u = .bool := by cases u <;> simp [kindOf] at h; rfl
theorem kind_int {u : TypeDesc} {k : IntKind} (h : .int k = kindOf u) : u = .int k := by cases u <;> simp [kindOf] at h; rw [h]
theorem kind_struct {u : TypeDesc} {fs : List (Nat × TypeId)} (h : .struct fs = kindOf u) : ∃ gs : Array Field, u = .struct gs ∧ fs = gs.toList.map fun f => (f.offset, f.type) := by
  cases u <;> simp [kindOf] at h
  exact ⟨_, rfl, h⟩
theorem run_equalIn_bool (d : Nat) {t : TypeId} (h : P.underlying t = some .bool) (a b : Bool) : (Op.equalIn (d + 1) t (.bool a) (.bool b)).run P w = .ok (a == b) w := by simp [Op.equalIn, run_underlying h]
theorem run_equal_bool {t : TypeId} (h : P.underlying t = some .bool) (a b : Bool) : (Op.equal t (.bool a) (.bool b)).run P w = .ok (a == b) w := run_equalIn_bool 9999 h a b
theorem part_int {t : TypeId} {k : IntKind} (h : P.underlying t = some (.int k)) {us : Array Value} {o : Nat} {u : Value} (hu : us[o]? = some u) : (part t us o).run P w = .ok u w := by
  unfold part
  simp [isAgg, run_underlying h, hu]
theorem flat_run {d : Nat} {us vs : Array Value} : ∀ {fs : List Field} {o : Nat} {xs ys : List V}, flatFs P o fs = true → fs.length = xs.length → sameK xs ys = true →
    (∀ (i : Nat) (v : V), xs[i]? = some v → ∃ u, us[o + i]? = some u ∧ Rv w Sb G v u) → (∀ (i : Nat) (v : V), ys[i]? = some v → ∃ u, vs[o + i]? = some u ∧ Rv w Sb G v u) →
    (Op.eqFields (d + 1) us vs fs).run P w = .ok (decide (intsOf xs = intsOf ys)) w
  | [], o, xs, ys, _, hl, hk, _, _ => by
    cases xs with
    | nil =>
      cases ys with
      | nil => rfl
      | cons y s => simp [sameK] at hk
    | cons x r => simp at hl
  | f :: fs, o, xs, ys, hf, hl, hk, hx, hy => by
    cases xs with
    | nil => simp at hl
    | cons x r =>
      cases ys with
      | nil => cases x <;> simp [sameK] at hk
      | cons y s =>
        cases x <;> try (simp [sameK] at hk; done)
        cases y <;> try (simp [sameK] at hk; done)
        rename_i k a k' b
        simp only [sameK, Bool.and_eq_true, decide_eq_true_eq] at hk
        obtain ⟨rfl, hk⟩ := hk
        simp only [flatFs, Bool.and_eq_true] at hf
        obtain ⟨⟨⟨hn, ho⟩, ht⟩, hf⟩ := hf
        have hn : f.name ≠ "_" := by simpa using hn
        have ho : f.offset = o := Nat.eq_of_beq_eq_true ho
        obtain ⟨k2, ht⟩ : ∃ k2, P.underlying f.type = some (.int k2) := by
          split at ht
          · exact ⟨_, by assumption⟩
          · cases ht
        obtain ⟨u, hu, hu2⟩ := hx 0 _ rfl
        obtain ⟨v, hv, hv2⟩ := hy 0 _ rfl
        cases hu2; cases hv2
        rw [Nat.add_zero] at hu hv
        have ih := flat_run (d := d) (us := us) (vs := vs) hf (by simpa using hl) hk (fun i v h => by
          have := hx (i + 1) v h
          rwa [show o + (i + 1) = o + 1 + i by omega] at this) (fun i v h => by
          have := hy (i + 1) v h
          rwa [show o + (i + 1) = o + 1 + i by omega] at this)
        simp only [Op.eqFields, hn, ne_eq, not_false_eq_true, if_true, Sem.run_bind, ho, part_int (P := P) (w := w) ht hu, part_int (P := P) (w := w) ht hv, Result.andThen_ok, run_equalIn_int w d f.type k k2 a b ht]
        by_cases h : a = b
        · subst h
          simp [ih, intsOf]
        · have : (a == b) = false := by simpa using h
          simp [this, intsOf, h]
theorem agg_at {cs : List V} {us : Array Value} (h : Rv w Sb G (.agg cs) (.agg us)) (i : Nat) (v : V) (hv : cs[i]? = some v) : ∃ u, us[0 + i]? = some u ∧ Rv w Sb G v u := by
  cases h with
  | agg h1 ho h2 =>
    have hi : i < us.size := by rw [h1]; exact (List.getElem?_eq_some_iff.1 hv).1
    exact ⟨us[i], by rw [Nat.zero_add]; exact Array.getElem?_eq_getElem hi, h2 i v _ hv (Array.getElem?_eq_getElem hi)⟩
theorem vbin_rv {op : BinOp} {t : TypeId} {a b : Operand} {x y v : V} {ux uy : Value} (h : vbin op (tk P t) (flatEq P t) x y = some v) (hx : Rv w Sb G x ux) (hy : Rv w Sb G y uy) :
    ∃ u, (do eqGuard op t a b ux uy; binOp op t ux uy : Sem Value).run P w = .ok u w ∧ Rv w Sb G v u := by
  unfold vbin at h
  split at h
  · cases hx; cases hy
    rename_i k p k' q
    split at h
    · simp only [vint] at h
      split at h
      · cases h
      · rename_i hn
        cases h
        exact ⟨_, by simp [eqGuard, binOp, Op.shift, hn], .int _ _⟩
    · simp only [vint] at h
      split at h
      · cases h
      · rename_i hn
        cases h
        exact ⟨_, by simp [eqGuard, binOp, Op.shift, hn], .int _ _⟩
    · split at h
      · rename_i hk
        subst hk
        cases op <;> simp only [vint] at h <;> first
          | (cases h; refine ⟨_, ?_, by constructor⟩; simp [eqGuard, binOp, Op.intArith, Op.intBits, Op.intCmp, bitsOp]; done)
          | (split at h
             · cases h
             · rename_i hn
               cases h
               refine ⟨_, ?_, by constructor⟩
               simp [eqGuard, binOp, Op.intDiv, Op.shift, hn])
          | skip
      · cases h
  · cases hx; cases hy
    rename_i p q
    by_cases ha : op = .add
    · subst ha
      simp only [vstr] at h
      split at h
      · rename_i hn
        cases h
        have : ¬ (9223372036854775807 < ((p.size : Int) + q.size)) := by omega
        exact ⟨_, by simp [eqGuard, binOp, Op.stringOp, IntKind.max, IntKind.signed, IntKind.bits, this], .str _⟩
      · cases h
    · cases op <;> simp only [vstr] at h <;> first
        | (cases h; refine ⟨_, ?_, by constructor⟩; simp [eqGuard, binOp, Op.stringOp]; done)
        | cases h
        | exact absurd rfl ha
  · cases hx; cases hy
    split at h
    · rename_i hk
      cases h
      obtain ⟨d, hd, hk'⟩ := tk_spec hk
      have := kind_bool hk'
      subst this
      refine ⟨_, ?_, by constructor⟩
      simp [eqGuard, binOp, run_equal_bool hd]
    · rename_i hk
      cases h
      obtain ⟨d, hd, hk'⟩ := tk_spec hk
      have := kind_bool hk'
      subst this
      refine ⟨_, ?_, by constructor⟩
      simp [eqGuard, binOp, run_equal_bool hd]
    · cases h
  · rename_i xs ys
    cases hx with
    | agg a1 a2 a3 =>
    rename_i us
    cases hy with
    | agg b1 b2 b3 =>
    rename_i vs
    have hX : Rv w Sb G (.agg xs) (.agg us) := .agg a1 a2 a3
    have hY : Rv w Sb G (.agg ys) (.agg vs) := .agg b1 b2 b3
    split at h
    · rename_i hc
      obtain ⟨hc, hk⟩ := hc
      unfold flatEq at hc
      split at hc
      · rename_i fs hfs
        split at hc
        · rename_i hq
          simp only [Bool.and_eq_true, Bool.not_eq_true'] at hq
          obtain ⟨⟨q1, q2⟩, q3⟩ := hq
          have hlen : fs.toList.length = xs.length := Option.some.inj hc
          have hfo : P.fieldsOf t = fs := by simp [Program.fieldsOf, hfs]
          have e : (Op.equalIn 10000 t (.agg us) (.agg vs)).run P w = .ok (decide (intsOf xs = intsOf ys)) w := by
            rw [run_equalIn_agg w 9999 t us vs (by rw [hfo]; exact hfs) q2, hfo]
            exact flat_run (d := 9998) q1 hlen hk (agg_at hX) (agg_at hY)
          cases op <;> first
            | (cases h; done)
            | (cases h
               refine ⟨_, ?_, .bool _⟩
               simp only [Sem.run_bind, run_eqGuard_agg w _ t a b us vs q3, Result.andThen_ok, run_eql_struct, run_neq_struct, e]
               try simp)
        · cases hc
      · cases hc
    · cases h
  · cases h
end
end Go.Vm
