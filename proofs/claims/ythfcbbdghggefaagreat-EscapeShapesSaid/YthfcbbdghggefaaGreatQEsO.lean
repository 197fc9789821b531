/-
  Bytes that a call has made; bytes as symbols.
-/
import Derived.Test.YthfcbbdghggefaaGreatPj
import Derived.Test.YthfcbbdghggefaaGreatPm
namespace Go.Proofs.YthfcbbdghggefaaGreat
open Go.RowKit Go.Um Go.Proofs
/-- a row of bytes that a call has made. -/
def OwnB (e : TypeId) (w : World) (base : Nat) (v : Value) (l : List Int) : Prop := w.ownsRow base e 1 v l.length (l.map (Value.int .u8)) ∧ ∀ x ∈ l, 0 ≤ x ∧ x ≤ 255
theorem OwnB.nil {e : TypeId} {w : World} {base : Nat} : OwnB e w base (.slice none 0 0) [] := ⟨World.ownsRow_nil _ _ _ _, fun x hx => by cases hx⟩
theorem flat_bytes (l : List Int) : l.map (Value.int .u8) = l.flatMap fun x => [Value.int .u8 x] := by
  induction l with
  | nil => rfl
  | cons x l ih => rw [List.map_cons, ih]; rfl
theorem OwnB.rel {e : TypeId} {w : World} {base : Nat} {v : Value} {l : List Int} {S : Nat → Prop} (h : OwnB e w base v l) (hS : ∀ g, v.ownBlock = some g → S g) : bytesR.rel w S [v] l :=
  own_list (r := byteR) (enc := fun x => [Value.int .u8 x]) (by have := h.1; rw [flat_bytes] at this; exact this) hS (fun x hx => ⟨rfl, rfl, h.2 x hx⟩)
theorem byte_at {w : World} {S : Nat → Prop} {A : Option Addr} {n cap : Nat} {xs : List Int} {x : Int} {i : Nat} (h : bytesR.rel w S [.slice A n cap] xs) (hx : xs[i]? = some x) :
    ∃ b o, A = some ⟨b, o, none⟩ ∧ S b ∧ w.cell? ⟨b, o + i, none⟩ = some (.int .u8 x) ∧ 0 ≤ x ∧ x ≤ 255 := by
  obtain ⟨b, o, v, h1, h2, ⟨h3, h4⟩, h5⟩ := list_at1 rfl h hx
  injection h3 with h3 _
  subst h3
  exact ⟨b, o, h1, h2, by simpa [byteR] using h5, h4.1, h4.2⟩
theorem infoBy : (Tryz.prog.info? 5).map (fun i => (i.zero, i.size, i.bytes)) = some (some (.int .u8 0), 1, 1) := by kernel_rfl
/-- bytes that are written out, onto a row of the call's own, in a region that draws its order. -/
theorem act_append_bytes {P : Program} {w : World} {o : Oper} {a : Act} {K : Act → World → Prop} {Q : Exit → Act → World → Prop} (s x : Operand) (t : TypeId)
    (ho : o.op = .call { callee := .builtin .append, args := #[s, x], argTypes := #[t, t] }) (base : Nat) (e : TypeId) (i : TypeInfo) (z : Value) (ht : P.underlying t = some (.slice e)) (hi : P.info? e = some i) (hz : i.zero = some z)
    (hsize : i.size = 1) (hby : i.bytes = 1) (hzs : z.cells.size = 1) (v : Value) (l m : List Int) (hs : a.eval s = v) (hown : OwnB e w base v l) (ad : Addr) (c : Nat) (hx : a.eval x = .slice (some ad) m.length c) (hm : ∀ j u, (m.map (Value.int .u8))[j]? = some u → w.cell? (ad.add j) = some u) (hb : ∀ x ∈ m, 0 ≤ x ∧ x ≤ 255) (hlen : l.length + m.length ≤ 1000000000000) (hbase : base ≤ w.heap.size)
    (hK : ∀ v' w', OwnB e w' base v' (l ++ m) → Below base w w' → K (a.put o.dst v') w') : o.wp P a w K Q := by
  refine act_append_at s x t ho base e i z 1 1 ht hi hz hsize hby hzs (by decide) v l.length (l.map (Value.int .u8)) hs hown.1 ad m.length c (m.map (Value.int .u8)) hx (by simp) hm (fun u hu => by obtain ⟨x, _, rfl⟩ := List.mem_map.1 hu; rfl) (by unfold maxLen; omega) (by omega) hbase ?_
  intro v' w' h1 h2 _ _
  refine hK v' w' ⟨?_, fun x hx => (List.mem_append.1 hx).elim (hown.2 x) (hb x)⟩ (below_grown hown.1 h2 (Nat.le_refl _) hbase)
  rw [List.length_append, List.map_append]
  exact h1
theorem wpList_append_lits {P : Program} {w : World} {ops : Array Oper} {rest : List Oper} {o : Oper} {a : Act} {Q : Exit → Act → World → Prop} (hgd : o.guard = none) (s x : Operand) (t : TypeId)
    (ho : o.op = .call { callee := .builtin .append, args := #[s, x], argTypes := #[t, t] }) (base : Nat) (e : TypeId) (i : TypeInfo) (z : Value) (ht : P.underlying t = some (.slice e)) (hi : P.info? e = some i) (hz : i.zero = some z)
    (hsize : i.size = 1) (hby : i.bytes = 1) (hzs : z.cells.size = 1) (v : Value) (l m : List Int) (hs : a.eval s = v) (hown : OwnB e w base v l) (ad : Addr) (c : Nat) (hx : a.eval x = .slice (some ad) m.length c) (hm : ∀ j u, (m.map (Value.int .u8))[j]? = some u → w.cell? (ad.add j) = some u) (hb : ∀ x ∈ m, 0 ≤ x ∧ x ≤ 255) (hlen : l.length + m.length ≤ 1000000000000) (hbase : base ≤ w.heap.size)
    (hK : ∀ v' w', OwnB e w' base v' (l ++ m) → Below base w w' → wpList P ops Q rest (a.put o.dst v') w') : wpList P ops Q (o :: rest) a w := by
  refine wpList_append_own w hgd s x t ho base e i z 1 1 ht hi hz hsize hby hzs (by decide) v l.length (l.map (Value.int .u8)) hs hown.1 ad m.length c (m.map (Value.int .u8)) hx (by simp) hm (fun u hu => by obtain ⟨x, _, rfl⟩ := List.mem_map.1 hu; rfl) (by unfold maxLen; omega) (by omega) hbase ?_
  intro v' w' h1 h2 _
  refine hK v' w' ⟨?_, fun x hx => (List.mem_append.1 hx).elim (hown.2 x) (hb x)⟩ (below_grown hown.1 h2 (Nat.le_refl _) hbase)
  rw [List.length_append, List.map_append]
  exact h1
theorem OwnB.alloc {e : TypeId} {w : World} {base : Nat} {v : Value} {l : List Int} (h : OwnB e w base v l) (o : Obj) : OwnB e (w.alloc o) base v l := ⟨h.1.alloc _, h.2⟩
theorem bytes_cells {w : World} {e : TypeId} (m : List Int) (j : Nat) (u : Value) (cells : Array Value) (hc : cells.toList = m.map (Value.int .u8)) (h : (m.map (Value.int .u8))[j]? = some u) : (w.alloc (.cells cells e)).cell? ((⟨w.heap.size, 0, none⟩ : Addr).add j) = some u := by
  have ha : (⟨w.heap.size, 0, none⟩ : Addr).add j = ⟨w.heap.size, j, none⟩ := by unfold Addr.add; split <;> simp_all
  rw [ha]
  rw [← hc, Array.getElem?_toList] at h
  exact (cell_of_row _ _ j _ _ _ (heap_alloc_new w _)).trans h
end Go.Proofs.YthfcbbdghggefaaGreat
