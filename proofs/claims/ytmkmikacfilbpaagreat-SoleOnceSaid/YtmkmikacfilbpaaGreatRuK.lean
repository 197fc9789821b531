/-
  slices.Backward over a row of ints: its contract, and a range over it, for any body that keeps the row.
-/
import Derived.Test.YtmkmikacfilbpaaGreatKEach
namespace Go.Um
open Go.RowKit Go.Shelf
/-- what a round keeps: some blocks. -/
def KpS (S : Nat → Prop) (W W' : World) : Prop := ∀ g, S g → W'.heap[g]? = W.heap[g]?
theorem KpS.t {S : Nat → Prop} {A B C : World} (h : KpS S A B) (k : KpS S B C) : KpS S A C := fun g hg => (k g hg).trans (h g hg)
theorem KpS.b {S : Nat → Prop} {w : World} (hS : ∀ g, S g → g < w.heap.size) (W : World) (l : Nat) (o o' : Obj) (hl : w.heap.size ≤ l) (_ : W.heap[l]? = some o) (_ : o.isCells = false) (_ : o.isWalk = false) : KpS S W (W.putObj l o') := fun g hg =>
  World.putObj_heap_other (by have := hS g hg; omega)
abbrev At (ord : List Int) : Type := { p : Nat × Int // ord[p.1]? = some p.2 }
def encAt {ord : List Int} (p : At ord) : Array Value := #[.int .i64 p.1.1, .int .i64 p.1.2]
/-- the last k of a row, from its end on. -/
def backL (ord : List Int) (k : Nat) : List Int := (ord.drop (ord.length - k)).reverse
theorem backL_succ {ord : List Int} {j : Nat} {x : Int} (h : ord[j]? = some x) : backL ord (ord.length - j) = backL ord (ord.length - (j + 1)) ++ [x] := by
  have hl := (List.getElem?_eq_some_iff.1 h).1
  unfold backL
  rw [show ord.length - (ord.length - j) = j by omega, show ord.length - (ord.length - (j + 1)) = j + 1 by omega, drop_cons h, List.reverse_cons]
end Go.Um
namespace Go.Proofs.YtmkmikacfilbpaaGreat
open Go.Proofs Go.Um Go.RowKit Go.Shelf
attribute [local go_sem] Oper.semAt_some
set_option maxRecDepth 100000 in
set_option maxHeartbeats 2000000 in
theorem back1_in (F : Fence) (n : Nat) (hF : F.fn 115) (hro : F.round = none) (hn : 1 ≤ n) (l Bs : Nat) (ord : List Int) (v : Value) (S : Nat → Prop) (J Jx : List (At ord) → World → Prop)
    (hY : ∀ pre x W, J pre W → pre.length < ord.length → YieldAt F (n - 1) Tryz.prog l (encAt x) W fun e W' =>
      (e = .returned (.bool true) ∧ J (pre ++ [x]) W' ∧ KpS S W W') ∨ (e = .returned (.bool false) ∧ Jx (pre ++ [x]) W'))
    (W : World) (hBs : W.cell? ⟨Bs, 0, none⟩ = some v) (hSB : S Bs) (hr : (listR intR).rel W S [v] ord) (h0 : J [] W) :
    CallsIn F n Tryz.prog 115 #[.func (.yield l) #[] #[], .pointer (some ⟨Bs, 0, none⟩)] W fun e W' => (∃ v, e = .returned v) ∧
      ((∃ ys : List (At ord), ys.map (fun p => p.1.2) = ord.reverse ∧ J ys W') ∨ (∃ pre, Jx pre W')) := by
  obtain ⟨A, c, rfl, hc, hm⟩ := list_form hr
  unfold maxLen at hm
  refine callsIn_of_wp Tryz.func115 rfl hF ?_ hro
  simp only [Tryz.ntmps115, List.size_toArray, List.length_cons, List.length_nil, Nat.reduceAdd, Nat.reduceSub, Array.replicate_succ, Array.replicate_zero, List.push_toArray, List.append_toArray, List.nil_append, List.cons_append]
  have HRR := hid hr
  clear hr
  gi_wp2
  gi_loopw [3] (fun i wr => ∃ (k : Nat) (pre : List (At ord)), k ≤ ord.length ∧ i = .int .i64 ((k : Int) - 1) ∧ Hid (pre.map (fun p => p.1.2) = backL ord (ord.length - k)) ∧ J pre wr ∧ KpS S W wr)
    (fun i _ => (intOf i + 1).toNat)
  case atStart => exact ⟨ord.length, [], Nat.le_refl _, rfl, hid (by simp [backL]), h0, fun _ _ => rfl⟩
  case round =>
    obtain ⟨k, pre, hk, rfl, HE, hJs, hkp⟩ := hrel
    obtain ⟨wo, hwo⟩ : ∃ wo, wo = wr := ⟨_, rfl⟩
    subst hwo
    have hcb : wo.cell? ⟨Bs, 0, none⟩ = some (.slice A ord.length c) := (World.cell?_of_block (a := ⟨Bs, 0, none⟩) (hkp Bs hSB)).trans hBs
    have hrr := (listR intR).mono (w' := wo) (fun p hp => World.cell?_of_block (hkp _ hp)) (fun _ h => h) HRR.out
    cases k with
    | zero =>
      have hlt' : ¬ ((0 : Int) ≤ ((0 : Nat) : Int) - 1) := by omega
      have HF : Hid (pre.map (fun p => p.1.2) = ord.reverse) := hid (by rw [HE.out]; simp [backL])
      clear HE hrr
      gi_wp2
      go_end0
      exact ⟨⟨_, rfl⟩, .inl ⟨pre, HF.out, hJs⟩⟩
    | succ j =>
      obtain ⟨x, hx⟩ := at_lt (xs := ord) (i := j) (by omega)
      obtain ⟨b, o, y, rfl, hbS, ⟨hy, hx64⟩, hcy⟩ := list_at1 rfl hrr hx
      injection hy with hy _
      subst hy
      have hjl : j < ord.length := by omega
      have hjl' : (j : Int) < ord.length := by omega
      obtain ⟨z, hz1, hz2⟩ : ∃ z : At ord, encAt z = #[.int .i64 j, .int .i64 x] ∧ z.1.2 = x := ⟨⟨(j, x), hx⟩, rfl, rfl⟩
      have HE2 : Hid ((pre ++ [z]).map (fun p => p.1.2) = backL ord (ord.length - j)) := hid (by
        rw [List.map_append, HE.out, backL_succ hx, ← hz2]; rfl)
      have hplen : pre.length < ord.length := by
        have h1 := congrArg List.length HE.out
        simp [backL] at h1
        omega
      obtain ⟨fn, tmps, assign, body, hy, hR⟩ := hY pre z wo hJs hplen
      rw [hz1] at hy
      have e1 : (((j + 1 : Nat) : Int) - 1) = (j : Int) := by omega
      rw [e1]
      clear HE hrr hx e1 hz1 hz2
      gi_wp2
      refine hR.mono ?_
      rintro e W3 (⟨rfl, hJ3, hk3⟩ | ⟨rfl, hJx3⟩)
      · gi_wp2
        go_roundw
        case rel => exact ⟨j, _, by omega, rfl, HE2, hJ3, hkp.t hk3⟩
        case measure => simp [intOf]
      · gi_wp2
        refine bodyPost_ret (results_none rfl _ _ _) rfl ?_
        exact ⟨⟨_, rfl⟩, .inr ⟨_, hJx3⟩⟩
theorem back_stops (F : Fence) (n : Nat) (hF : F.fn 115) (hro : F.round = none) (hn : 1 ≤ n) (Bs : Nat) (ord : List Int) (v : Value) (S : Nat → Prop) (w : World) (hBs : w.cell? ⟨Bs, 0, none⟩ = some v) (hSB : S Bs) (hSl : ∀ g, S g → g < w.heap.size) (hr : (listR intR).rel w S [v] ord) :
    SeqStopsK F n Tryz.prog 115 #[.pointer (some ⟨Bs, 0, none⟩)] (encAt (ord := ord)) (KpS S) (fun ys => ys.map (fun p => p.1.2) = ord.reverse) (fun _ => True) ord.length w := fun l J Jx W hW hJ _ hY h0 => by
  refine (back1_in F n hF hro hn l Bs ord v S J Jx hY W ((hW.cell (p := ⟨Bs, 0, none⟩) (hSl _ hSB)).trans hBs) hSB ((listR intR).mono (fun p hp => hW.cell (hSl _ hp)) (fun _ h => h) hr) h0).mono ?_
  rintro e W' ⟨he, ⟨ys, h1, h2⟩ | ⟨pre, h2⟩⟩
  · exact ⟨he, .inl ⟨ys, h1, h2⟩⟩
  · exact ⟨he, .inr ⟨pre, trivial, h2⟩⟩
set_option maxHeartbeats 1000000 in
/-- a range over what slices.Backward has handed back, at the wide fence. -/
theorem range_back {g : Operand} {p1 p2 d1 id tt : Nat} {pos : String} {body : Code} {Q : Exit → Act → World → Prop} {a : Act} {w : World} {Bs : Nat} {ord : List Int} {v : Value} {S : Nat → Prop}
    (hg : a.eval g = .func (.func 115) #[] #[.pointer (some ⟨Bs, 0, none⟩)]) (hp : p2 < a.tmps.size) (hBs : w.cell? ⟨Bs, 0, none⟩ = some v) (hSB : S Bs) (hSl : ∀ g, S g → g < w.heap.size) (hr : (listR intR).rel w S [v] ord)
    (I : List (At ord) → World → Prop) (hI : OwnFrom w.heap.size I) (h0 : I [] w)
    (hbody : ∀ (l : Nat) (pre : List (At ord)) (z : At ord) (W : World), I pre W → pre.length < ord.length →
      body.wpIn (Fence.wide.inRound l) 1 Tryz.prog (ownPostG w.heap.size (KpS S) I (fun _ _ _ => False) (pre ++ [z]) W) { tmps := ((a.tmps.setIfInBounds p1 (.int .i64 z.1.1)).setIfInBounds p2 (.int .i64 z.1.2)).setIfInBounds d1 (.int .i64 z.1.2), defers := [] } W)
    (hdone : ∀ (D : Nat) (xs : List (At ord)) (W : World), w.heap.size ≤ D → xs.map (fun p => p.1.2) = ord.reverse → I xs W → W.heap[D]? = some (.deferred (some [])) → Q .normal { a with defers := { target := .collected D, args := #[] } :: a.defers } W) :
    (Code.rangeFunc g #[p1, p2] (Code.region id #[{ dst := some d1, op := .assign (.tmp p2), type := tt, pos := pos, after := #[], guard := none }] false) body).wp Tryz.prog Q a w := by
  obtain ⟨tmps, defers⟩ := a
  refine wpIn_wide.1 (wpIn_rangeFunc_ownG (n := 3) (F := Fence.wide) rfl (by decide) (gf := 115) (lb := #[.pointer (some ⟨Bs, 0, none⟩)]) hg trivial (enters_of Tryz.func115 (by kernel_rfl) rfl)
    (back_stops Fence.wide 2 trivial rfl (by decide) Bs ord v S w hBs hSB hSl hr) KpS.t (KpS.b hSl) (Below.refl _ _) (fun _ => rfl) I (fun _ _ _ => False) hI (fun _ _ _ _ _ hs _ _ => hs) h0
    (fun z => { tmps := ((tmps.setIfInBounds p1 (.int .i64 z.1.1)).setIfInBounds p2 (.int .i64 z.1.2)).setIfInBounds d1 (.int .i64 z.1.2), defers := [] }) ?assign hbody ?done ?stop)
  case assign =>
    intro l z W K hK
    refine wpIn_region_lit ?_
    have hp' : p2 < tmps.size := hp
    have e : (({ tmps := (tmps.setIfInBounds p1 (.int .i64 z.1.1)).setIfInBounds p2 (.int .i64 z.1.2), defers := [] } : Act).eval (.tmp p2)) = .int .i64 z.1.2 := by simp [Act.eval, hp']
    rw [show (#[p1, p2].zip (encAt z)).foldl (fun t (p, v) => t.setIfInBounds p v) tmps = (tmps.setIfInBounds p1 (.int .i64 z.1.1)).setIfInBounds p2 (.int .i64 z.1.2) by simp [encAt]]
    gi_wp2
    exact hK
  case done =>
    intro D xs W h1 h2 h3 h4
    exact hdone D xs W h1 h2 h3 h4
  case stop =>
    intro D c pre W _ _ h _
    exact h.elim
end Go.Proofs.YtmkmikacfilbpaaGreat
