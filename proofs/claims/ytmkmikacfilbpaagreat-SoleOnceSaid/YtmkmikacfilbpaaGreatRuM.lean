/-
  Marks of ranges over a function among an activation's deferred calls: so many, taken one by one; slices.Backward.
-/
import Derived.Test.YtmkmikacfilbpaaGreatRuK
import Derived.Test.YtmkmikacfilbpaaGreatRuS
namespace Go.Um
open Go.RowKit Go.Shelf
def marks (Ds : List Nat) : List Deferred := Ds.map fun D => { target := .collected D, args := #[] }
structure Taken (Ds : List Nat) (w w' : World) : Prop where
  os : w'.os = w.os
  tape : w'.tape = w.tape
  output : w'.output = w.output
  size : w'.heap.size = w.heap.size
  block : ∀ g, g ∉ Ds → w'.heap[g]? = w.heap[g]?
theorem leave_marks {P : Program} {F : Fence} {n : Nat} {fn : Func} {tmps : Array Value} {R : Ending → World → Prop} : ∀ (Ds : List Nat) (w : World), Ds.Pairwise (· > ·) → (∀ D ∈ Ds, w.heap[D]? = some (.deferred (some []))) →
    (∀ w', Taken Ds w w' → ∃ v, (results fn tmps).run P w' = .ok v w' ∧ R (.returned v) w') → LeavesInM F n P fn tmps R (marks Ds) .returning w
  | [], w, _, _, h => h w ⟨rfl, rfl, rfl, rfl, fun _ _ => rfl⟩
  | D :: Ds, w, hp, hd, h => by
    rw [List.pairwise_cons] at hp
    refine ⟨by simp, .inl ⟨D, _, rfl, run_takeDeferred (hd D List.mem_cons_self), ?_⟩⟩
    refine leave_marks Ds _ hp.2 (fun D' hD' => ?_) (fun w' hw' => h w' ⟨hw'.os, hw'.tape, hw'.output, hw'.size.trans (by simp), fun g hg => ?_⟩)
    · have := hp.1 D' hD'
      rw [World.putObj_heap_other (by omega)]
      exact hd D' (List.mem_cons_of_mem _ hD')
    · rw [List.mem_cons, not_or] at hg
      rw [hw'.block g hg.2, World.putObj_heap_other hg.1]
theorem KeptBut.ofRound {H : Nat} {p : Nat → Prop} {a b c : World} {row : Option Nat} (h : KeptBut H p a b) (hg : b.grownBy c row) (hH : H ≤ b.heap.size) (hr : ∀ r, row = some r → H ≤ r ∧ ∃ o : Obj, b.heap[r]? = some o ∧ o.isCells = false) : KeptBut H p a c :=
  h.grown hg hH fun g e => .inl (hr g e).1
end Go.Um
namespace Go.Proofs.YtmkmikacfilbpaaGreat
open Go.Proofs Go.Um Go.RowKit Go.Shelf
set_option maxHeartbeats 1000000 in
theorem Backward_calls (A : Option Addr) (n c : Nat) (w : World) : Calls Tryz.prog 90 #[.slice A n c] w fun e w' => e = .returned (.func (.func 115) #[] #[.pointer (some ⟨w.heap.size, 0, none⟩)]) ∧ w' = w.alloc (.cells #[.slice A n c] 73) := by
  have hmf : ∀ (fn : Fn) (first cap : Array Value) (w : World), (Instr.makeFunc fn first cap).run Tryz.prog w = .ok (.func fn first cap) w := fun _ _ _ _ => rfl
  go_enter Tryz.func90, Tryz.ntmps90
  go_wp2_with fail
  go_ret
  exact ⟨rfl, rfl⟩
/-- where the fold over places has come to. -/
structure MainI (W8 : World) (H8 LV M AB j : Nat) (L : Nat → Bool) (Ds : List Nat) (w' : World) : Prop where
  kept : KeptBut H8 (fun g => g = LV) W8 w'
  row : w'.rowIs LV 4 M (fun i => .bool (L i))
  atb : w'.heap[AB]? = some (.cells #[.int .i64 j] 3)
  ds : Ds.Pairwise (· > ·) ∧ ∀ D ∈ Ds, H8 ≤ D ∧ D < w'.heap.size ∧ w'.heap[D]? = some (.deferred (some []))
  ab : AB + 1 = H8 ∨ H8 ≤ AB
def atMu (x : Nat) (a : Act) (w : World) : Nat :=
  match a.tmps.getD 12 undef with
  | Value.pointer (some p) => (match w.cell? p with
    | some (Value.int _ z) => (x - z).toNat
    | _ => 0)
  | _ => 0
end Go.Proofs.YtmkmikacfilbpaaGreat
