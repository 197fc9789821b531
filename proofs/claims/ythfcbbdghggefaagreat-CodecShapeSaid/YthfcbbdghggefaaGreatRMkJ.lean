/-
  A description in a box, rules and finals appended side by side; the terms of what is bad.
-/
import Derived.Test.YthfcbbdghggefaaGreatRMkE
import Derived.Test.YthfcbbdghggefaaGreatRMkH
namespace Go.Proofs.YthfcbbdghggefaaGreat
open Go.RowKit Go.Um Go.Proofs
theorem list_take {α : Type} {r : RepOf α} {w : World} {S : Nat → Prop} {A : Option Addr} {n cap : Nat} {xs : List α} (h : (listR r).rel w S [.slice A n cap] xs) {m : Nat} (hm : m ≤ xs.length) : (listR r).rel w S [.slice A m cap] (xs.take m) := by
  obtain ⟨A', n', cap', he, hn, hc, hx, hl⟩ := h
  injection he with he
  injection he with h1 h2 h3
  subst h1 h2 h3
  refine ⟨_, m, _, rfl, by simp; omega, by omega, hx, ?_⟩
  rcases hl with hl | ⟨b, o, hA, hS, hel⟩
  · exact .inl (by omega)
  · refine .inr ⟨b, o, hA, hS, fun i x hi => hel i x ?_⟩
    rw [List.getElem?_take] at hi
    split at hi
    · exact hi
    · simp at hi
/-- what is left and what is new, along a step. -/
structure Stp (b0 : Nat) (X : Nat → Prop) (w : World) (X' : Nat → Prop) (w' : World) : Prop where
  up : ∀ g, X g → X' g
  dn : ∀ g, X' g → g < w.heap.size → X g
  kp : ∀ g, g < w.heap.size → ¬ X g → w'.heap[g]? = w.heap[g]?
  bl : Below b0 w w'
section
variable {b0 : Nat} {X X' X'' : Nat → Prop} {w w' w'' : World}
theorem Stp.refl : Stp b0 X w X w := ⟨fun _ h => h, fun _ h _ => h, fun _ _ _ => rfl, Below.refl _ _⟩
theorem Stp.trans (h : Stp b0 X w X' w') (h' : Stp b0 X' w' X'' w'') : Stp b0 X w X'' w'' :=
  ⟨fun g hg => h'.up g (h.up g hg), fun g hg hl => h.dn g (h'.dn g hg (Nat.lt_of_lt_of_le hl h.bl.size)) hl,
    fun g hl hn => (h'.kp g (Nat.lt_of_lt_of_le hl h.bl.size) (fun hx => hn (h.dn g hx hl))).trans (h.kp g hl hn), h.bl.trans (h'.bl)⟩
theorem Stp.of (hb : Below w.heap.size w w') (h0 : b0 ≤ w.heap.size) : Stp b0 X w X w' := ⟨fun _ h => h, fun _ h _ => h, fun _ hl _ => hb.block _ hl, hb.mono h0⟩
theorem Stp.rel {β : Type} {q : RepOf β} {cs : List Value} {x : β} (h : Stp b0 X w X' w') (hq : q.rel w (ElX w b0 X) cs x) : q.rel w' (ElX w' b0 X') cs x :=
  q.mono (fun _ hp => World.cell?_of_block (h.kp _ hp.2.1 hp.2.2)) (fun b hb => ⟨hb.1, Nat.lt_of_lt_of_le hb.2.1 h.bl.size, fun hx => hb.2.2 (h.dn b hx hb.2.1)⟩) hq
theorem elx_upto {β : Type} {q : RepOf β} {cs : List Value} {x : β} (hq : q.rel w (ElX w b0 X) cs x) : q.rel w (upto w.heap.size) cs x := q.mono (fun _ _ => rfl) (fun _ hb => hb.2.1) hq
end
theorem FX.low {α : Type} {e : TypeId} {r : RepOf α} {w : World} {b0 c0 : Nat} {X : Nat → Prop} {v : Value} {xs : List α} (h : FX e r w b0 X v xs) (hc : c0 ≤ b0) : FX e r w c0 X v xs :=
  ⟨OwnR.base' (OwnR.keep h.1 (fun _ _ => rfl) (fun _ _ => rfl) (fun _ hb => ⟨Nat.le_trans hc hb.1, hb.2⟩)) hc, h.2⟩
/-- a description in a box. -/
def dbox (inn out n s : Int) (vr vf : Value) : Obj := .cells #[.int .i64 inn, .int .i64 out, .int .i64 n, .int .i64 s, vr, vf] 27
def RepI (b0 bd : Nat) (inn out n s : Int) (X : Nat → Prop) (w : World) (vr vf : Value) (rs : List Rule) (fs : List Final) : Prop :=
  w.heap[bd]? = some (dbox inn out n s vr vf) ∧ FX 46 ruleR w b0 X vr rs ∧ FX 49 finalR w b0 X vf fs ∧ (∀ g, X g → g < w.heap.size) ∧ X bd
section
variable {b0 bd : Nat} {inn out n s : Int} {X : Nat → Prop} {w w' : World} {vr vf : Value} {rs : List Rule} {fs : List Final}
theorem RepI.later (h : RepI b0 bd inn out n s X w vr vf rs fs) (hb : Below w.heap.size w w') : RepI b0 bd inn out n s X w' vr vf rs fs :=
  ⟨(hb.block _ (heapLtM h.1)).trans h.1, h.2.1.later hb, h.2.2.1.later hb, fun g hg => Nat.lt_of_lt_of_le (h.2.2.2.1 g hg) hb.size, h.2.2.2.2⟩
theorem RepI.tagd (h : RepI b0 bd inn out n s X w vr vf rs fs) : Tag 27 w bd := ⟨_, _, h.1⟩
theorem RepI.pushR {v' : Value} {r : Rule} (h : RepI b0 bd inn out n s X w vr vf rs fs) (hb0 : b0 ≤ bd) (hF : FX 46 ruleR w' b0 (XNew X v') v' (rs ++ [r])) (hd : ∀ g, XNew X v' g → g < w.heap.size → X g) (hl : ∀ g, XNew X v' g → g < w'.heap.size) (hb : Below b0 w w')
    (hk : ∀ g, g < w.heap.size → vr.ownBlock ≠ some g → w'.heap[g]? = w.heap[g]?) : RepI b0 bd inn out n s (XNew X v') (w'.setCell ⟨bd, 4, none⟩ v') v' vf (rs ++ [r]) fs ∧ Stp b0 X w (XNew X v') (w'.setCell ⟨bd, 4, none⟩ v') ∧ w'.heap[bd]? = some (dbox inn out n s vr vf) := by
  have hbd : vr.ownBlock ≠ some bd := fun he => Tag.ne (h.2.1.tag bd he) h.tagd (by decide) rfl
  have h1 : w'.heap[bd]? = some (dbox inn out n s vr vf) := (hk bd (heapLtM h.1) hbd).trans h.1
  have hX : XNew X v' bd := .inl h.2.2.2.2
  have hoth : ∀ g, g ≠ bd → (w'.setCell ⟨bd, 4, none⟩ v').heap[g]? = w'.heap[g]? := fun g hg => heap_setCell_other _ _ _ _ (by simpa using hg)
  have hbd' : v'.ownBlock ≠ some bd := fun he => Tag.ne (hF.tag bd he) (⟨_, _, h1⟩ : Tag 27 w' bd) (by decide) rfl
  have hbf : vf.ownBlock ≠ some bd := fun he => Tag.ne (h.2.2.1.tag bd he) h.tagd (by decide) rfl
  have hap := h.2.1.apart h.2.2.1 (by decide)
  refine ⟨⟨(heap_setCell_same w' bd 4 _ _ v' h1).trans rfl, hF.keep (by simp) (fun _ h => h) (fun _ h _ => h) (fun g hg => hoth g (fun he => hbd' (he ▸ hg))) (fun g _ _ hx => hoth g (fun he => hx (he ▸ hX))), ?_, fun g hg => by simpa using hl g hg, hX⟩, ⟨fun g hg => .inl hg, hd, fun g hg hx => ?_, hb.setCell (p := ⟨bd, 4, none⟩) hb0 _⟩, h1⟩
  · exact h.2.2.1.keep (by simpa using hb.size) (fun g hg => .inl hg) hd (fun g hg => (hoth g (fun he => hbf (he ▸ hg))).trans (hk g (h.2.2.1.own_lt g hg) (fun he => hap g hg he))) (fun g _ hg hx => (hoth g (fun he => hx (he ▸ h.2.2.2.2))).trans (hk g hg (fun he => hx (h.2.1.2 g he))))
  · exact (hoth g (fun he => hx (he ▸ h.2.2.2.2))).trans (hk g hg (fun he => hx (h.2.1.2 g he)))
theorem RepI.pushF {v' : Value} {r : Final} (h : RepI b0 bd inn out n s X w vr vf rs fs) (hb0 : b0 ≤ bd) (hF : FX 49 finalR w' b0 (XNew X v') v' (fs ++ [r])) (hd : ∀ g, XNew X v' g → g < w.heap.size → X g) (hl : ∀ g, XNew X v' g → g < w'.heap.size) (hb : Below b0 w w')
    (hk : ∀ g, g < w.heap.size → vf.ownBlock ≠ some g → w'.heap[g]? = w.heap[g]?) : RepI b0 bd inn out n s (XNew X v') (w'.setCell ⟨bd, 5, none⟩ v') vr v' rs (fs ++ [r]) ∧ Stp b0 X w (XNew X v') (w'.setCell ⟨bd, 5, none⟩ v') ∧ w'.heap[bd]? = some (dbox inn out n s vr vf) := by
  have hbd : vf.ownBlock ≠ some bd := fun he => Tag.ne (h.2.2.1.tag bd he) h.tagd (by decide) rfl
  have h1 : w'.heap[bd]? = some (dbox inn out n s vr vf) := (hk bd (heapLtM h.1) hbd).trans h.1
  have hX : XNew X v' bd := .inl h.2.2.2.2
  have hoth : ∀ g, g ≠ bd → (w'.setCell ⟨bd, 5, none⟩ v').heap[g]? = w'.heap[g]? := fun g hg => heap_setCell_other _ _ _ _ (by simpa using hg)
  have hbd' : v'.ownBlock ≠ some bd := fun he => Tag.ne (hF.tag bd he) (⟨_, _, h1⟩ : Tag 27 w' bd) (by decide) rfl
  have hbr : vr.ownBlock ≠ some bd := fun he => Tag.ne (h.2.1.tag bd he) h.tagd (by decide) rfl
  have hap := h.2.2.1.apart h.2.1 (by decide)
  refine ⟨⟨(heap_setCell_same w' bd 5 _ _ v' h1).trans rfl, ?_, hF.keep (by simp) (fun _ h => h) (fun _ h _ => h) (fun g hg => hoth g (fun he => hbd' (he ▸ hg))) (fun g _ _ hx => hoth g (fun he => hx (he ▸ hX))), fun g hg => by simpa using hl g hg, hX⟩, ⟨fun g hg => .inl hg, hd, fun g hg hx => ?_, hb.setCell (p := ⟨bd, 5, none⟩) hb0 _⟩, h1⟩
  · exact h.2.1.keep (by simpa using hb.size) (fun g hg => .inl hg) hd (fun g hg => (hoth g (fun he => hbr (he ▸ hg))).trans (hk g (h.2.1.own_lt g hg) (fun he => hap g hg he))) (fun g _ hg hx => (hoth g (fun he => hx (he ▸ h.2.2.2.2))).trans (hk g hg (fun he => hx (h.2.2.1.2 g he))))
  · exact (hoth g (fun he => hx (he ▸ h.2.2.2.2))).trans (hk g hg (fun he => hx (h.2.2.1.2 g he)))
theorem RepI.six (h : RepI b0 bd inn out n s X w vr vf rs fs) : w.cell? ⟨bd, 0, none⟩ = some (.int .i64 inn) ∧ w.cell? ⟨bd, 1, none⟩ = some (.int .i64 out) ∧ w.cell? ⟨bd, 2, none⟩ = some (.int .i64 n) ∧ w.cell? ⟨bd, 3, none⟩ = some (.int .i64 s) ∧ w.cell? ⟨bd, 4, none⟩ = some vr ∧ w.cell? ⟨bd, 5, none⟩ = some vf := six9 h.1
end
set_option maxHeartbeats 1000000 in
set_option maxRecDepth 100000 in
theorem bad_calls (w : World) : Calls Tryz.prog 56 #[] w fun e w' => ∃ v, e = .returned v ∧ (listR termR).rel w' (Fresh w.heap.size w') [v] badT ∧ Below w.heap.size w w' := by
  have hC := hid fun W => Const_calls 65533 W (by omega)
  unfold tval constT at hC
  dsimp only at hC
  go_enter Tryz.func56, Tryz.ntmps56
  go_wp2_with fail
  refine (hC.out _).mono ?_
  rintro e w1 ⟨rfl, hB1⟩
  go_wp2_with fail
  have hFL := FL.one (e := 69) (r := termR) (x := constT 65533) (cs := [.int .i64 0, .int .i64 0, .int .i64 21, .int .i64 0, .int .i64 65533, .slice none 0 0]) (cells := #[.int .i64 0, .int .i64 0, .int .i64 21, .int .i64 0, .int .i64 65533, .slice none 0 0]) (w := w1) (b0 := w.heap.size) (base := w.heap.size) ⟨_, rfl, ⟨(okI (by omega) : I64 0), (okI (by omega) : I64 0), (okI (by omega) : I64 21), (okI (by omega) : I64 0), (okI (by omega) : I64 65533)⟩, list_nil _ _ _⟩ rfl hB1.size
  go_ret
  exact ⟨_, rfl, hFL.rel (Nat.le_refl _), hB1.alloc hB1.size _⟩
end Go.Proofs.YthfcbbdghggefaaGreat
