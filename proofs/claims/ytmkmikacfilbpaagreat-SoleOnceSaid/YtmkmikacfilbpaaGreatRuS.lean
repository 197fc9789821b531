/-
  A runner's states in order: run.sort.
-/
import Derived.Test.YtmkmikacfilbpaaGreatRuC
import Derived.Test.YtmkmikacfilbpaaGreatRwF
namespace Go.Um
open Go.RowKit
/-- what stays but for some blocks. -/
structure KeptBut (H : Nat) (p : Nat → Prop) (w w' : World) : Prop where
  os : w'.os = w.os
  tape : w'.tape = w.tape
  output : w'.output = w.output
  size : w.heap.size ≤ w'.heap.size
  block : ∀ g, g < H → ¬ p g → w'.heap[g]? = w.heap[g]?
theorem KeptBut.refl (H : Nat) (p : Nat → Prop) (w : World) : KeptBut H p w w := ⟨rfl, rfl, rfl, Nat.le_refl _, fun _ _ _ => rfl⟩
theorem KeptBut.trans {H : Nat} {p : Nat → Prop} {a b c : World} (h : KeptBut H p a b) (k : KeptBut H p b c) : KeptBut H p a c :=
  ⟨k.os.trans h.os, k.tape.trans h.tape, k.output.trans h.output, Nat.le_trans h.size k.size, fun g hg hp => (k.block g hg hp).trans (h.block g hg hp)⟩
theorem KeptBut.below {H : Nat} {p : Nat → Prop} {a b : World} (h : KeptBut H p a b) {B : Nat} (hB : B ≤ H) (hp : ∀ g, p g → B ≤ g) : Below B a b :=
  ⟨h.os, h.tape, h.output, h.size, fun g hg => h.block g (by omega) (fun hpg => by have := hp g hpg; omega)⟩
theorem KeptBut.of_below {H B : Nat} {p : Nat → Prop} {a b : World} (h : Below B a b) (hB : H ≤ B) : KeptBut H p a b := ⟨h.os, h.tape, h.output, h.size, fun g hg _ => h.block g (by omega)⟩
theorem KeptBut.alloc {H : Nat} {p : Nat → Prop} {a b : World} (h : KeptBut H p a b) (hH : H ≤ b.heap.size) (o : Obj) : KeptBut H p a (b.alloc o) := h.trans (KeptBut.of_below ((Below.refl _ b).alloc (Nat.le_refl _) o) hH)
theorem KeptBut.setCell {H : Nat} {p : Nat → Prop} {a b : World} (h : KeptBut H p a b) {q : Addr} (hq : p q.block) (v : Value) : KeptBut H p a (b.setCell q v) :=
  h.trans ⟨rfl, rfl, rfl, by simp, fun g _ hp => heap_setCell_other b q g v (fun e => hp (e ▸ hq))⟩
theorem KeptBut.grown {H : Nat} {p : Nat → Prop} {a b c : World} {row : Option Nat} (h : KeptBut H p a b) (hg : b.grownBy c row) (hH : H ≤ b.heap.size) (hr : ∀ g, row = some g → H ≤ g ∨ p g) : KeptBut H p a c :=
  h.trans ⟨hg.os, hg.tape, hg.output, hg.size, fun g hgl hp => hg.block g (by omega) (fun e => (hr g e.symm).elim (fun h1 => by omega) hp)⟩
theorem KeptBut.drew {H : Nat} {p : Nat → Prop} {a b : World} (h : KeptBut H p a b) : KeptBut H p a b.drew := h.trans ⟨rfl, rfl, rfl, Nat.le_refl _, fun _ _ _ => rfl⟩
theorem KeptBut.mono {H H' : Nat} {p p' : Nat → Prop} {a b : World} (h : KeptBut H p a b) (hH : H' ≤ H) (hp : ∀ g, g < H' → p g → p' g) : KeptBut H' p' a b := ⟨h.os, h.tape, h.output, h.size, fun g hg hn => h.block g (by omega) (fun hpg => hn (hp g hg hpg))⟩
end Go.Um
namespace Go.Proofs.YtmkmikacfilbpaaGreat
open Go.RowKit Go.Um Go.Proofs
def runCells (i0 i1 i2 i3 : Int) (vr vf vx R F vo vl : Value) : Array Value := #[.int .i64 i0, .int .i64 i1, .int .i64 i2, .int .i64 i3, vr, vf, vx, R, F, vo, vl]
def runObj (i0 i1 i2 i3 : Int) (vr vf vx R F vo vl : Value) : Obj := .cells (runCells i0 i1 i2 i3 vr vf vx R F vo vl) 76
def SoI (w0 : World) (B0 RB DB n : Nat) (i0 i1 i2 i3 : Int) (vr vf vx R F : Value) (L : Nat → Bool) (ord : List Int) (w : World) : Prop :=
  (∃ vo, w.heap[RB]? = some (runObj i0 i1 i2 i3 vr vf vx R F vo (.slice none 0 0)) ∧ w.ownsRow B0 3 1 vo ord.length (ord.map (Value.int .i64))) ∧
  w.rowIs DB 4 n (fun i => .bool (L i)) ∧ KeptBut B0 (fun g => g = RB ∨ g = DB) w0 w
section
variable {w0 w : World} {B0 RB DB n : Nat} {i0 i1 i2 i3 : Int} {vr vf vx R F : Value} {L : Nat → Bool} {ord : List Int}
theorem SoI.alloc (h : SoI w0 B0 RB DB n i0 i1 i2 i3 vr vf vx R F L ord w) (hB : B0 ≤ w0.heap.size) (o : Obj) : SoI w0 B0 RB DB n i0 i1 i2 i3 vr vf vx R F L ord (w.alloc o) := by
  obtain ⟨⟨vo, h1, h2⟩, h3, h4⟩ := h
  refine ⟨⟨vo, (Below.heap_alloc _ _ _ (heapLtW h1)).trans h1, h2.alloc o⟩, h3.of_block (Below.heap_alloc _ _ _ h3.lt), h4.alloc (Nat.le_trans hB h4.size) o⟩
theorem SoI.mark (h : SoI w0 B0 RB DB n i0 i1 i2 i3 vr vf vx R F L ord w) (hne : RB ≠ DB) (hDB : DB < B0) (s : Nat) : SoI w0 B0 RB DB n i0 i1 i2 i3 vr vf vx R F (fun k => if k = s then true else L k) ord (w.setCell ⟨DB, s, none⟩ (.bool true)) := by
  obtain ⟨⟨vo, h1, h2⟩, h3, h4⟩ := h
  refine ⟨⟨vo, (heap_setCell_other _ _ _ _ (by show RB ≠ DB; exact hne)).trans h1, ownsRow_kept h2 (fun g hg => heap_setCell_other _ _ _ _ (by show g ≠ DB; have := (h2.lt g hg).1; omega))⟩, ?_, h4.setCell (.inr rfl) _⟩
  have := h3.set s (.bool true)
  refine cast (congrArg (World.rowIs _ _ _ _) ?_) this
  funext k
  dsimp only
  split <;> rfl
theorem SoI.push (h : SoI w0 B0 RB DB n i0 i1 i2 i3 vr vf vx R F L ord w) (hB : B0 ≤ w0.heap.size) (hne : RB ≠ DB) (hRB : RB < B0) (hDB : DB < B0) {vo v' : Value} {w2 : World} {x : Int} (o : Obj)
    (h1 : w.heap[RB]? = some (runObj i0 i1 i2 i3 vr vf vx R F vo (.slice none 0 0))) (h2 : w.ownsRow B0 3 1 vo ord.length (ord.map (Value.int .i64)))
    (hg : (w.alloc o).grownBy w2 vo.ownBlock) (ho : w2.ownsRow B0 3 1 v' (ord.length + 1) (ord.map (Value.int .i64) ++ [.int .i64 x])) :
    SoI w0 B0 RB DB n i0 i1 i2 i3 vr vf vx R F L (ord ++ [x]) (w2.setCell ⟨RB, 9, none⟩ v') ∧ w2.heap[RB]? = some (runObj i0 i1 i2 i3 vr vf vx R F vo (.slice none 0 0)) := by
  obtain ⟨_, h3, h4⟩ := h
  have hlow : ∀ g, vo.ownBlock = some g → B0 ≤ g := fun g hg => (h2.lt g hg).1
  have hRw : RB < w.heap.size := heapLtW h1
  have hr2 : w2.heap[RB]? = some (runObj i0 i1 i2 i3 vr vf vx R F vo (.slice none 0 0)) := (hg.block RB (by simp; omega) (fun e => by have := hlow _ e.symm; omega)).trans ((Below.heap_alloc _ _ _ hRw).trans h1)
  refine ⟨⟨⟨v', ?_, ?_⟩, ?_, ?_⟩, hr2⟩
  · rw [heap_setCell_same w2 RB 9 _ _ v' hr2]
    rfl
  · have := ownsRow_kept (w' := w2.setCell ⟨RB, 9, none⟩ v') ho (fun g hg => heap_setCell_other _ _ _ _ (by show g ≠ RB; have := (ho.lt g hg).1; omega))
    simpa using this
  · refine h3.of_block ((heap_setCell_other _ _ _ _ (by show DB ≠ RB; exact fun e => hne e.symm)).trans ((hg.block DB (by have := h3.lt; simp; omega) (fun e => by have := hlow _ e.symm; omega)).trans (Below.heap_alloc _ _ _ h3.lt)))
  · exact ((h4.alloc (Nat.le_trans hB h4.size) o).grown hg (Nat.le_trans (Nat.le_trans hB h4.size) (by simp)) (fun g e => .inl (hlow g e))).setCell (.inl rfl) _
theorem SoI.rel {α : Type} {q : RepOf α} {cs : List Value} {x : α} {S0 : Nat → Prop} (h : SoI w0 B0 RB DB n i0 i1 i2 i3 vr vf vx R F L ord w) (hS0 : ∀ g, S0 g → g < B0 ∧ g ≠ RB ∧ g ≠ DB) (hq : q.rel w0 S0 cs x) : q.rel w S0 cs x :=
  q.mono (fun _ hp => World.cell?_of_block (h.2.2.block _ (hS0 _ hp).1 (fun e => e.elim (hS0 _ hp).2.1 (hS0 _ hp).2.2))) (fun _ h => h) hq
end
structure SoF (d : Desc) (n : Nat) (L : Nat → Bool) (ord : List Int) : Prop where
  od : Ord d ord
  mem : ∀ t ∈ ord, ∃ k : Nat, t = k ∧ k < n ∧ L k = true
def SoPost (d : Desc) (w0 : World) (B0 RB DB n : Nat) (i0 i1 i2 i3 : Int) (vr vf vx R F : Value) (L : Nat → Bool) (ord : List Int) (s : Nat) (e : Ending) (w' : World) : Prop :=
  e = .returned (.tuple #[]) ∧ ∃ L' nw, SoI w0 B0 RB DB n i0 i1 i2 i3 vr vf vx R F L' (ord ++ nw) w' ∧ SoF d n L' (ord ++ nw) ∧ (∀ t ∈ nw, ∃ k : Nat, t = k ∧ k < n ∧ L k = false) ∧ (∀ k, L' k = true ↔ L k = true ∨ (k : Int) ∈ nw) ∧ (s : Int) ∈ ord ++ nw
def SoL (d : Desc) (w0 : World) (B0 RB DB n : Nat) (i0 i1 i2 i3 : Int) (vr vf vx R F : Value) (L : Nat → Bool) (ord : List Int) (s : Nat) (k : Nat) (wr : World) : Prop :=
  ∃ L' nw, SoI w0 B0 RB DB n i0 i1 i2 i3 vr vf vx R F L' (ord ++ nw) wr ∧ SoF d n L' (ord ++ nw) ∧ (∀ t ∈ nw, ∃ k : Nat, t = k ∧ k < n ∧ L k = false ∧ k ≠ s) ∧ (∀ k, L' k = true ↔ L k = true ∨ k = s ∨ (k : Int) ∈ nw) ∧
    ∀ (i j : Nat) (r : Rule), i < k → (rulesOf d s)[i]? = some (j : Int) → d.rules[j]? = some r → r.guards = [] → r.dst ∈ ord ++ nw
theorem ownInt_form {w : World} {base : Nat} {e : TypeId} {v : Value} {n : Nat} {xs : List Value} (h : w.ownsRow base e 1 v n xs) : ∃ A c, v = .slice A n c := by
  rcases h.2 with ⟨rfl, h0⟩ | ⟨g, cap, cur, rfl, _⟩
  · exact ⟨none, 0, by rw [h0]⟩
  · exact ⟨_, _, rfl⟩
theorem infoI : (Tryz.prog.info? 3).map (fun i => (i.zero, i.size, i.bytes)) = some (some (.int .i64 0), 1, 8) := by kernel_rfl
set_option maxHeartbeats 4000000 in
set_option maxRecDepth 100000 in
theorem rsort_calls (d : Desc) (w0 : World) (B0 RB DB n : Nat) (i0 i1 i2 i3 : Int) (vr vf vx R F : Value) (hRB : RB < B0) (hDB : DB < B0) (hne : RB ≠ DB) (hB0 : B0 ≤ w0.heap.size) (S0 : Nat → Prop) (hS0 : ∀ g, S0 g → g < B0 ∧ g ≠ RB ∧ g ≠ DB)
    (hr : (listR ruleR).rel w0 S0 [vr] d.rules) (hR : (listR (listR intR)).rel w0 S0 [R] ((List.range n).map fun s : Nat => rulesOf d (s : Int))) (hl : d.rules.length ≤ 4096) (hn : n ≤ 1024) (hrd : ∀ r ∈ d.rules, 0 ≤ r.dst ∧ r.dst < n)
    (ρ : Int → Nat) (hρ : ∀ r ∈ d.rules, r.guards = [] → ρ r.dst < ρ r.src) :
    ∀ (m s : Nat), s < n → ρ s < m → ∀ (L : Nat → Bool) (ord : List Int) (w : World), SoI w0 B0 RB DB n i0 i1 i2 i3 vr vf vx R F L ord w → SoF d n L ord → ord.length ≤ 1024 → (∀ t, t < n → L t = true → (t : Int) ∈ ord ∨ ρ s < ρ t) →
      Calls Tryz.prog 89 #[.pointer (some ⟨RB, 0, none⟩), .int .i64 s, .slice (some ⟨DB, 0, none⟩) n n] w (SoPost d w0 B0 RB DB n i0 i1 i2 i3 vr vf vx R F L ord s) := by
  intro m
  induction m with
  | zero => intro s _ h; omega
  | succ m ih =>
    intro s hs hm L ord w hI hF hol hdone
    obtain ⟨⟨vo, h1, h2⟩, h3, h4⟩ := hI
    have hcd := h3.cell hs
    have hfd := h3.frozen s
    by_cases hLs : L s = true
    · rw [hLs] at hcd
      have hmem : (s : Int) ∈ ord := (hdone s hs hLs).resolve_right (by omega)
      have HP : Hid (SoPost d w0 B0 RB DB n i0 i1 i2 i3 vr vf vx R F L ord s (.returned (.tuple #[])) w) := hid ⟨rfl, L, [], by rw [List.append_nil]; exact ⟨⟨vo, h1, h2⟩, h3, h4⟩, by rw [List.append_nil]; exact hF, fun t ht => (by cases ht), fun k => by simp, by rw [List.append_nil]; exact hmem⟩
      clear hF h1 h2 h3 h4 ih
      have hs' : (s : Int) < n := by omega
      go_enter Tryz.func89, Tryz.ntmps89
      go_wp2_with fail
      go_end0
      exact HP.out
    · have hLs' : L s = false := by simpa using hLs
      rw [hLs'] at hcd
      have hs' : (s : Int) < n := by omega
      have hI : SoI w0 B0 RB DB n i0 i1 i2 i3 vr vf vx R F L ord w := ⟨⟨vo, h1, h2⟩, h3, h4⟩
      have hM := hI.mark hne hDB s
      have h1m : (w.setCell ⟨DB, s, none⟩ (.bool true)).heap[RB]? = _ := (heap_setCell_other _ _ _ _ (by show RB ≠ DB; exact hne)).trans h1
      obtain ⟨A1, cR, eR, _, _⟩ := list_form hR
      rw [List.length_map, List.length_range] at eR
      subst eR
      obtain ⟨A2, cr, rfl, _, _⟩ := list_form hr
      obtain ⟨bR, oR, y, rfl, hbR, hy, hcR⟩ := list_at1 (i := s) rfl (hM.rel hS0 hR) (by rw [List.getElem?_map, List.getElem?_range hs]; rfl)
      obtain ⟨A3, c3, rfl, _, hm3⟩ := list_form hy
      unfold maxLen at hm3
      have hrl : (rulesOf d s).length ≤ 4096 := Nat.le_trans (idxF_len _ _ _) hl
      have k7 : (w.setCell ⟨DB, s, none⟩ (.bool true)).cell? ⟨RB, 7, none⟩ = some (.slice (some ⟨bR, oR, none⟩) n cR) := cell_of_row _ _ 7 _ _ _ h1m
      have HL0 : Hid (SoL d w0 B0 RB DB n i0 i1 i2 i3 (.slice A2 d.rules.length cr) vf vx (.slice (some ⟨bR, oR, none⟩) n cR) F L ord s 0 (w.setCell ⟨DB, s, none⟩ (.bool true))) := hid (by
        refine ⟨_, [], by rw [List.append_nil]; exact hM, ?_, fun t ht => (by cases ht), fun k => ?_, fun i j r hi => by omega⟩
        · rw [List.append_nil]
          refine ⟨hF.od, fun t ht => ?_⟩
          obtain ⟨k, e1, e2, e3⟩ := hF.mem t ht
          exact ⟨k, e1, e2, by simp [e3]⟩
        · by_cases e : k = s <;> simp [e])
      have HS := hid (show (s : Int) ∉ ord from fun hmem => by
        obtain ⟨k, e1, e2, e3⟩ := hF.mem _ hmem
        have : k = s := by omega
        subst this
        exact hLs e3)
      have HR := hid hr
      have HDN := hid hdone
      have HYW : Hid (∀ W, (∃ L' nw, SoI w0 B0 RB DB n i0 i1 i2 i3 (.slice A2 d.rules.length cr) vf vx (.slice (some ⟨bR, oR, none⟩) n cR) F L' (ord ++ nw) W) → (listR intR).rel W S0 [.slice A3 (rulesOf d s).length c3] (rulesOf d s)) := hid fun W ⟨L', nw, hW⟩ => (listR intR).mono (fun p hp => by
        have hp' := hS0 _ hp
        exact World.cell?_of_block ((hW.2.2.block _ hp'.1 (fun e => e.elim hp'.2.1 hp'.2.2)).trans (hM.2.2.block _ hp'.1 (fun e => e.elim hp'.2.1 hp'.2.2)).symm)) (fun _ h => h) hy
      have HD := hid hrd
      have HRO := hid hρ
      have HS0 := hid hS0
      have IH := hid ih
      clear ih h1m hI hM h1 h2 h3 h4 hR hr hF hdone hy hrd hρ hS0 hLs
      go_enter Tryz.func89, Tryz.ntmps89
      go_wp2_with fail
      generalize w.setCell ⟨DB, s, none⟩ (.bool true) = w1 at *
      go_loopw [24] (fun vi wr => ∃ k : Nat, k ≤ (rulesOf d s).length ∧ vi = .int .i64 k ∧ SoL d w0 B0 RB DB n i0 i1 i2 i3 (.slice A2 d.rules.length cr) vf vx (.slice (some ⟨bR, oR, none⟩) n cR) F L ord s k wr) (fun vi _ => (rulesOf d s).length - (intOf vi).toNat)
      case atStart => exact ⟨0, Nat.zero_le _, rfl, HL0.out⟩
      case round =>
        clear k7 hcR hcd hfd
        obtain ⟨k, hk, rfl, L', nw, hI, hF, hnw, hL', hE⟩ := hrel
        obtain ⟨wo, hwo⟩ : ∃ wo, wo = wr := ⟨_, rfl⟩
        subst hwo
        have hIk := hI
        obtain ⟨⟨vo, h1, h2⟩, h3, h4⟩ := hIk
        by_cases hlt : k < (rulesOf d s).length
        · have hlt' : (k : Int) < (rulesOf d s).length := by omega
          obtain ⟨z, hz⟩ := at_lt hlt
          obtain ⟨j, r, rfl, hj, hsrc⟩ := rulesOf_mem.1 (List.mem_of_getElem? hz)
          obtain ⟨b1, o1, y, rfl, hb1, ⟨hy, _⟩, hcy⟩ := list_at1 rfl (HYW.out wo ⟨L', nw, hI⟩) hz
          injection hy with hy _
          subst hy
          obtain ⟨b2, o2, v2, u2, rfl, hb2, q1, q2, q3, q4, q5, q6, q7, q8⟩ := rule_at (hI.rel HS0.out HR.out) hj
          have k4 : wo.cell? ⟨RB, 4, none⟩ = some (.slice (some ⟨b2, o2, none⟩) d.rules.length cr) := cell_of_row _ _ 4 _ _ _ h1
          obtain ⟨A5, c5, rfl, _, _⟩ := list_form q7
          obtain ⟨A6, c6, rfl, _, _⟩ := list_form q8
          have hjl : (j : Int) < d.rules.length := by have := (List.getElem?_eq_some_iff.1 hj).1; omega
          have hd := HD.out r (List.mem_of_getElem? hj)
          obtain ⟨t, ht⟩ : ∃ t : Nat, r.dst = t := ⟨r.dst.toNat, by omega⟩
          have htn : t < n := by omega
          have hro := HRO.out r (List.mem_of_getElem? hj)
          rw [hsrc] at q1
          have hIA := hI.alloc hB0 (.cells #[.int .i64 s, .int .i64 r.dst, .slice A5 r.guards.length c5, .int .i64 r.eat, .slice A6 r.out.length c6] 56)
          obtain ⟨g, hg⟩ : ∃ g, g = r.guards.length := ⟨_, rfl⟩
          have hE2 : ∀ nw2, (r.guards = [] → r.dst ∈ ord ++ (nw ++ nw2)) → ∀ (i j : Nat) (r : Rule), i < k + 1 → (rulesOf d s)[i]? = some (j : Int) → d.rules[j]? = some r → r.guards = [] → r.dst ∈ ord ++ (nw ++ nw2) := fun nw2 h0 i j' r' hi h5 h6 h7 => by
            by_cases e : i = k
            · subst e
              rw [hz] at h5
              injection h5 with h5
              have h5 : j = j' := by omega
              subst h5
              rw [hj] at h6
              injection h6 with h6
              subst h6
              exact h0 h7
            · have := hE i j' r' (by omega) h5 h6 h7
              rw [← List.append_assoc]
              exact List.mem_append_left _ this
          by_cases hgl : r.guards.length = 0
          · have hge := List.eq_nil_of_length_eq_zero hgl
            have hlow := hro hge
            rw [hsrc, ht] at hlow
            have hlen : (ord ++ nw).length ≤ 1024 := by
              have hnd := hF.od.nd
              have hsub : ∀ t ∈ ord ++ nw, t ∈ (List.range n).map (fun i : Nat => (i : Int)) := fun t' ht' => by
                obtain ⟨k', e1, e2, _⟩ := hF.mem t' ht'
                exact List.mem_map.2 ⟨k', List.mem_range.2 e2, e1.symm⟩
              have := hnd.length_le_of_subset hsub
              rw [List.length_map, List.length_range] at this
              omega
            have HC := hid (IH.out t htn (by omega) L' (ord ++ nw) _ hIA hF hlen (fun t' ht' hl' => by
              rcases (hL' t').1 hl' with h5 | h5 | h5
              · rcases HDN.out t' ht' h5 with h6 | h6
                · exact .inl (List.mem_append_left _ h6)
                · exact .inr (by omega)
              · subst h5; exact .inr hlow
              · exact .inl (List.mem_append_right _ h5)))
            have HNX : Hid (∀ w2, SoPost d w0 B0 RB DB n i0 i1 i2 i3 (.slice (some ⟨b2, o2, none⟩) d.rules.length cr) vf vx (.slice (some ⟨bR, oR, none⟩) n cR) F L' (ord ++ nw) t (.returned (.tuple #[])) w2 → SoL d w0 B0 RB DB n i0 i1 i2 i3 (.slice (some ⟨b2, o2, none⟩) d.rules.length cr) vf vx (.slice (some ⟨bR, oR, none⟩) n cR) F L ord s (k + 1) w2) := hid fun w2 h => by
              obtain ⟨_, L2, nw2, p1, p2, p3, p4, p5⟩ := h
              rw [List.append_assoc] at p1 p2 p5
              refine ⟨L2, nw ++ nw2, p1, p2, fun t' ht' => ?_, fun k' => ?_, hE2 nw2 fun _ => ?_⟩
              · rcases List.mem_append.1 ht' with h5 | h5
                · exact hnw t' h5
                · obtain ⟨k', e1, e2, e3⟩ := p3 t' h5
                  have e4 : ¬ (L k' = true ∨ k' = s ∨ (k' : Int) ∈ nw) := fun h6 => by rw [(hL' k').2 h6] at e3; cases e3
                  exact ⟨k', e1, e2, by simpa using fun h6 => e4 (.inl h6), fun h6 => e4 (.inr (.inl h6))⟩
              · rw [p4, hL', List.mem_append]
                constructor
                · rintro ((h5 | h5 | h5) | h5)
                  · exact .inl h5
                  · exact .inr (.inl h5)
                  · exact .inr (.inr (.inl h5))
                  · exact .inr (.inr (.inr h5))
                · rintro (h5 | h5 | h5 | h5)
                  · exact .inl (.inl h5)
                  · exact .inl (.inr (.inl h5))
                  · exact .inl (.inr (.inr h5))
                  · exact .inr h5
              · rw [ht]; exact p5
            rw [ht] at HC q2
            have hg0 : ((r.guards.length : Int) == 0) = true := beq_t (by omega)
            clear hI hF hnw hL' hE h1 h2 h3 h4 hz hj q6 q7 q8 hIA hE2 hd hro hge hgl ht hg hlt hsrc
            go_wp2_with fail
            refine HC.out.mono ?_
            rintro e w2 h
            obtain rfl := h.1
            have HX := hid (HNX.out w2 h)
            clear h
            go_wp2_with fail
            refine ⟨⟨k + 1, by omega, by go_num, HX.out⟩, ?_⟩
            simp [intOf]; omega
          · have HX : Hid (SoL d w0 B0 RB DB n i0 i1 i2 i3 (.slice (some ⟨b2, o2, none⟩) d.rules.length cr) vf vx (.slice (some ⟨bR, oR, none⟩) n cR) F L ord s (k + 1) (wo.alloc (.cells #[.int .i64 s, .int .i64 r.dst, .slice A5 r.guards.length c5, .int .i64 r.eat, .slice A6 r.out.length c6] 56))) := hid ⟨L', nw, hIA, hF, hnw, hL', by
              have := hE2 [] (fun h => absurd (by rw [h]; rfl) hgl)
              simpa using this⟩
            have hg0 : ((r.guards.length : Int) == 0) = false := beq_f (by omega)
            clear hI hF hnw hL' hE h1 h2 h3 h4 hz hj q6 q7 q8 hIA hE2 hd hro hgl ht hg hlt hsrc
            go_wp2_with fail
            refine ⟨⟨k + 1, by omega, by go_num, HX.out⟩, ?_⟩
            simp [intOf]; omega
        · obtain rfl : k = (rulesOf d s).length := by omega
          have hlt' : ¬ (((rulesOf d s).length : Int) < (rulesOf d s).length) := by omega
          obtain ⟨Ao, co, rfl⟩ := ownInt_form h2
          have k9 : wo.cell? ⟨RB, 9, none⟩ = some (.slice Ao (ord ++ nw).length co) := cell_of_row _ _ 9 _ _ _ h1
          have f9 : wo.frozen? ⟨RB, 9, none⟩ = false := frozen_of_row _ _ _ _ _ h1
          have hlen : (ord ++ nw).length ≤ 1024 := by
            have hnd := hF.od.nd
            have hsub : ∀ t ∈ ord ++ nw, t ∈ (List.range n).map (fun i : Nat => (i : Int)) := fun t' ht' => by
              obtain ⟨k', e1, e2, _⟩ := hF.mem t' ht'
              exact List.mem_map.2 ⟨k', List.mem_range.2 e2, e1.symm⟩
            have := hnd.length_le_of_subset hsub
            rw [List.length_map, List.length_range] at this
            omega
          have hs2 : (s : Int) ∉ ord ++ nw := fun h => by
            rcases List.mem_append.1 h with h5 | h5
            · exact HS.out h5
            · obtain ⟨k', e1, e2, e3, e4⟩ := hnw _ h5
              omega
          have HO := hid h2
          have HI := hid hI
          have H1 := hid h1
          have HFin : Hid (∀ w2, SoI w0 B0 RB DB n i0 i1 i2 i3 (.slice A2 d.rules.length cr) vf vx (.slice (some ⟨bR, oR, none⟩) n cR) F L' (ord ++ nw ++ [(s : Int)]) w2 → SoPost d w0 B0 RB DB n i0 i1 i2 i3 (.slice A2 d.rules.length cr) vf vx (.slice (some ⟨bR, oR, none⟩) n cR) F L ord s (.returned (.tuple #[])) w2) := hid fun w2 h => by
            refine ⟨rfl, L', nw ++ [(s : Int)], by rw [← List.append_assoc]; exact h, ?_, fun t ht => ?_, fun k' => ?_, by simp⟩
            · rw [← List.append_assoc]
              refine ⟨hF.od.snoc hs2 fun t ht => ?_, fun t ht => ?_⟩
              · obtain ⟨r, hr1, hr2, hr3, rfl⟩ := ht
                obtain ⟨j, hj⟩ := List.mem_iff_getElem?.1 hr1
                obtain ⟨i, hi⟩ := List.mem_iff_getElem?.1 (rulesOf_mem.2 ⟨j, r, rfl, hj, hr3⟩)
                exact hE i j r (List.getElem?_eq_some_iff.1 hi).1 hi hj hr2
              · rcases List.mem_append.1 ht with h5 | h5
                · exact hF.mem t h5
                · simp at h5
                  subst h5
                  exact ⟨s, rfl, hs, (hL' s).2 (.inr (.inl rfl))⟩
            · rcases List.mem_append.1 ht with h5 | h5
              · obtain ⟨k', e1, e2, e3, _⟩ := hnw t h5
                exact ⟨k', e1, e2, e3⟩
              · simp at h5
                subst h5
                exact ⟨s, rfl, hs, hLs'⟩
            · rw [hL', List.mem_append, List.mem_singleton]
              constructor
              · rintro (h5 | h5 | h5)
                · exact .inl h5
                · exact .inr (.inr (by omega))
                · exact .inr (.inl h5)
              · rintro (h5 | h5 | h5)
                · exact .inl h5
                · exact .inr (.inr h5)
                · exact .inr (.inl (by omega))
          obtain ⟨ordn, hordn⟩ : ∃ o, o = ord ++ nw := ⟨_, rfl⟩
          rw [← hordn] at HO HI H1 HFin k9 hlen
          clear hI hF hnw hL' hE h1 h2 h3 h4 hlt hordn hs2
          obtain ⟨inf, hi0, hz0, hz1, hz2⟩ := info_parts infoI
          go_wp2_with (at_builtin; refine Hid.out ?_)
          refine hid ?_
          show wpList _ _ _ _ _ _
          refine wpList_append_own _ (by rfl) _ _ 73 (by rfl) B0 3 inf (.int .i64 0) 1 8 Tryz.underlying73 hi0 hz0 hz1 hz2 rfl (by decide) (.slice Ao ordn.length co) _ _ (by rfl) (HO.out.alloc _) ⟨wo.heap.size, 0, none⟩ 1 1 [.int .i64 s] (by rfl) rfl (news_at (w := wo) (cs := #[_]) rfl) (by simp [Value.oneCell']) (by unfold maxLen; omega) (by omega) (by have := HI.out.2.2.size; simp; omega) ?_
          intro v' w3 hO3 hg3 hn3
          obtain ⟨hI3, hR3⟩ := HI.out.push hB0 hne hRB hDB (.cells #[.int .i64 s] 3) H1.out HO.out hg3 hO3
          have HI3 := hid (HFin.out _ hI3)
          have c9 : w3.cell? ⟨RB, 9, none⟩ = some (.slice Ao ordn.length co) := cell_of_row _ _ 9 _ _ _ hR3
          have f9' : w3.frozen? ⟨RB, 9, none⟩ = false := frozen_of_row _ _ _ _ _ hR3
          obtain ⟨A9, c9', rfl⟩ := ownInt_form hO3
          clear hI3 hR3 hO3 hg3 hn3 k9 f9
          go_wp2_with fail
          go_end0
          exact HI3.out
end Go.Proofs.YtmkmikacfilbpaaGreat
