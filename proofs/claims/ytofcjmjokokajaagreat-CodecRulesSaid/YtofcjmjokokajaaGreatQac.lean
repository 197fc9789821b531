/-
  word.Sort by the engine's words. Conditions: few words, not too long, of characters. run.Outputs. Condition: no rule without guards. Words that are the same: ref02.Same. Conditions: none. The descriptions that decode, repair and encode UTF-8, and the one that writes what it reads.
-/
import Derived.Test.YtofcjmjokokajaaGreatQab
import Derived.Test.YtofcjmjokokajaaGreatQaa
import Derived.Test.YtofcjmjokokajaaGreatQu
import Derived.Test.YtofcjmjokokajaaGreatQn
import Derived.Test.YtofcjmjokokajaaGreatQj
import Derived.Test.YtofcjmjokokajaaGreatQo
import Derived.Test.YtofcjmjokokajaaGreatQz
namespace Go.Uo
open Go.RowKit Go.Um Go.Vm
theorem eq_sorted : ∀ {l1 l2 : List (List Int)}, l1.Pairwise (fun a b => cmpW a b < 0) → l2.Pairwise (fun a b => cmpW a b < 0) → (∀ x, x ∈ l1 ↔ x ∈ l2) → l1 = l2
  | [], [], _, _, _ => rfl
  | [], b :: _, _, _, h => by have := (h b).2 List.mem_cons_self; simp at this
  | a :: _, [], _, _, h => by have := (h a).1 List.mem_cons_self; simp at this
  | a :: l1, b :: l2, h1, h2, h => by
    rw [List.pairwise_cons] at h1 h2
    have hab : a = b := by
      rcases List.mem_cons.1 ((h a).1 List.mem_cons_self) with e | ha
      · exact e
      · rcases List.mem_cons.1 ((h b).2 List.mem_cons_self) with e | hb
        · exact e.symm
        · have q1 := h2.1 a ha
          have q2 := h1.1 b hb
          have := cmpW_flip a b
          omega
    subst hab
    have hne : ∀ l : List (List Int), (∀ x ∈ l, cmpW a x < 0) → a ∉ l := fun l hl hm => by
      have := hl a hm
      rw [cmpW_refl] at this
      omega
    rw [eq_sorted h1.2 h2.2 fun x => ?_]
    constructor
    · intro hx
      rcases List.mem_cons.1 ((h x).1 (List.mem_cons_of_mem _ hx)) with e | e
      · subst e; exact absurd hx (hne _ h1.1)
      · exact e
    · intro hx
      rcases List.mem_cons.1 ((h x).2 (List.mem_cons_of_mem _ hx)) with e | e
      · subst e; exact absurd hx (hne _ h2.1)
      · exact e
variable {α : Type} {r : RepOf α} {R : Rp α} {c : α → V} {w : World} {Sb S : Nat → Prop} {xs : List α} {u : Value}
theorem rel_rv (hw : r.width = 1) (hc : ∀ x, R.cells x = [c x]) (h : Rv w Sb noG (.list 1 (xs.map R.cells)) u) (hel : ∀ x ∈ xs, ∀ v, Rv w Sb noG (c x) v → r.rel w Sb [v] x) : (listR r).rel w Sb [u] xs := by
  obtain ⟨ys, hys⟩ : ∃ ys, ys = xs.map R.cells := ⟨_, rfl⟩
  have hlen : ys.length = xs.length := by rw [hys, List.length_map]
  rw [← hys] at h
  cases h with
  | @list _ b o _ cp f hb hm hcp hcm hcl ho hcell hvv =>
    refine ⟨_, _, _, rfl, hlen, by omega, hcm, .inr ⟨b, o, rfl, hb, fun i x hi => ?_⟩⟩
    have hi' : ys[i]? = some [c x] := by rw [hys, List.getElem?_map, hi, ← hc]; rfl
    have a1 := hcell i _ 0 _ hi' rfl
    have b1 := hvv i _ 0 _ hi' rfl
    refine ⟨[f i 0], hel x (List.mem_of_getElem? hi) _ b1, fun j v hj => ?_⟩
    cases j with
    | zero => cases hj; rw [hw]; exact a1
    | succ j => simp at hj
  | @list0 _ a cp hcm =>
    have h0 : xs = [] := List.eq_nil_of_length_eq_zero hlen.symm
    subst h0
    exact ⟨_, _, _, rfl, rfl, Nat.zero_le _, hcm, .inl rfl⟩
theorem rv_rel (hw : r.width = 1) (_hm : R.m = 1) (hc : ∀ x, R.cells x = [c x]) (h : (listR r).rel w S [u] xs) (hS : ∀ b, S b → Sb b) (hel : ∀ x ∈ xs, ∀ v, r.rel w S [v] x → Rv w Sb noG (c x) v) : Rv w Sb noG (.list 1 (xs.map R.cells)) u := by
  obtain ⟨A, n, cp, h1, h2, h3, h4, h5⟩ := h
  cases h1
  subst h2
  have hlen : (xs.map R.cells).length = xs.length := List.length_map _
  rcases h5 with h5 | ⟨b, o, rfl, hb, hrow⟩
  · obtain rfl := List.eq_nil_of_length_eq_zero h5
    exact .list0 h4
  · have hat : ∀ (i : Nat) (x : α), xs[i]? = some x → ∃ v, w.cell? ⟨b, o + i, none⟩ = some v ∧ r.rel w S [v] x := fun i x hi => by
      obtain ⟨cs, q1, q2⟩ := hrow i x hi
      have hl := r.len q1
      rw [hw] at hl
      obtain ⟨v, rfl⟩ := List.length_eq_one_iff.1 hl
      have := q2 0 v rfl
      rw [hw, Nat.mul_one, Nat.add_zero] at this
      exact ⟨v, this, q1⟩
    have key := Rv.list (w := w) (Sb := Sb) (G := noG) (xs := xs.map R.cells) (b := b) (o := o) (m := 1) (c := cp) (fun i _ => (w.cell? ⟨b, o + i, none⟩).getD undef) (hS b hb) (by decide) (by rw [hlen]; exact h3) h4 (fun i cs hi => ?_) (fun i cs v hi hv => ?_) (fun i cs j v hi hv => ?_) (fun i cs j v hi hv => ?_)
    · rw [hlen] at key
      exact key
    all_goals
      rw [List.getElem?_map] at hi
      obtain ⟨x, hx, rfl⟩ := Option.map_eq_some_iff.1 hi
    · rw [hc]; rfl
    · exact ((R.ok x).2 v hv).2
    · obtain ⟨z, z1, z2⟩ := hat i x hx
      rw [hc] at hv
      cases j with
      | zero => rw [Nat.mul_one, Nat.add_zero, z1]; rfl
      | succ j => simp at hv
    · obtain ⟨z, z1, z2⟩ := hat i x hx
      rw [hc] at hv
      cases j with
      | zero => cases hv; rw [z1]; exact hel x (List.mem_of_getElem? hx) z z2
      | succ j => simp at hv
end Go.Uo
namespace Go.Proofs.YtofcjmjokokajaaGreat
open Go.RowKit Go.Um Go.Uo Go.Proofs
open Go.Vm (VPure Rv Nxt noG noS WSim)
theorem srt_ok : SrtOk Tryz.prog 54 := fun ls hl hw => by
  intro w Sb us hsub hargs
  obtain ⟨u, us, rfl, hu, hus⟩ := hargs.head
  have := hus.none
  subst this
  have hrel : (listR wordR).rel w (upto w.heap.size) [u] ls := (listR wordR).mono (fun p _ => rfl) hsub (rel_rv (R := Go.Vm.runeR.listR) (c := fun l => Go.Vm.runeR.L l) rfl (fun _ => rfl) hu fun l hl v hv => rel_rv (R := Go.Vm.runeR) (c := fun z => Go.Vm.V.int .i32 z) rfl (fun _ => rfl) hv fun z hz v hv => by
    cases hv
    have := (hw l hl).2 z hz
    exact ⟨rfl, by unfold I32; omega⟩)
  refine (Sort_calls ls u w hrel hl fun l hl => by have := (hw l hl).1; omega).mono ?_
  rintro e w' ⟨u, ls', rfl, h1, h2, h3, hB⟩
  have hls : ls' = sortW ls := eq_sorted h3 pw_sortW fun x => by rw [h2, mem_sortW]
  subst hls
  refine ⟨u, fun b => Sb b ∨ (w.heap.size ≤ b ∧ b < w'.heap.size), rfl, Nxt.frame (WSim.none hsub) hB.os hB.tape hB.output hB.size hB.block (fun b hb => ?_) (fun _ h => .inl h) (fun b hb => ?_), rv_rel (R := Go.Vm.runeR.listR) (c := fun l => Go.Vm.runeR.L l) rfl rfl (fun _ => rfl) h1 (fun b hb => .inr hb) fun l _ v hv => rv_rel (R := Go.Vm.runeR) (c := fun z => Go.Vm.V.int .i32 z) rfl rfl (fun _ => rfl) hv.1 (fun b hb => .inr hb) fun z _ v hv => ?_⟩
  · rcases hb with h | h
    · exact Nat.lt_of_lt_of_le (hsub b h) hB.size
    · exact h.2
  · rcases hb with h | h
    · exact .inl h
    · exact .inr h.1
  · have := hv.1
    cases this
    exact .int _ _
end Go.Proofs.YtofcjmjokokajaaGreat
namespace Go.Proofs.YtofcjmjokokajaaGreat
open Go.RowKit Go.Um Go.Proofs Go.Vm
theorem outs_v (d : Desc) (x : List Int) (most : Int) (hE : ∀ r ∈ d.rules, ¬ r.guards.length = 0) (hmost : most ≤ 100000) :
    VPure Tryz.prog 18 [.agg (descR.cells d), runeR.L x, .int .i64 most] (.tuple [runeR.listR.L (outsF d x most).1, .int .i64 (outsF d x most).2]) :=
  outputs_v cat_ok srt_ok d x most hE ask_ok hmost
end Go.Proofs.YtofcjmjokokajaaGreat
namespace Go.Proofs.YtofcjmjokokajaaGreat
open Go.RowKit Go.Um Go.Proofs Go.Vm
attribute [local irreducible] Ev arun frun grun awp RetQ NextQ RetM
set_option maxHeartbeats 4000000
theorem ref02Same_v (a b : List Int) : VPure Tryz.prog 20 [runeR.L a, runeR.L b] (.bool (decide (a = b))) := by
  refine a_pure (n0 := 0) (hN := Tryz.ntmps20) (hf := Tryz.func20) ?_
  refine wk2 (fun h => ⟨?_⟩) (fun h => ⟨?_⟩)
  · have hne : ¬ a = b := fun h => by subst h; simp at *
    exact ret_tmp (.inr rfl) rfl rfl (pk_bool (by rw [decide_eq_false hne]))
  · have hll : a.length = b.length := by omega
    refine a_len 0 (f := runeR.cells) (xs := a) rfl rfl fun hal => ?_
    refine a_loop (σ := Nat) 0 [0, 1] (fun k => [(5, V.int .i64 (k : Int))]) (fun _ => []) (fun k => k ≤ a.length ∧ a.take k = b.take k) (fun k => a.length - k) 0 ⟨Nat.zero_le _, rfl⟩ ?_
    rintro k ⟨hk, ho⟩
    obtain hx | ⟨x, hx, hlt⟩ := range_cases hk
    · subst k
      rw [List.take_length, hll, List.take_length] at ho
      refine wk ⟨?_⟩
      exact ret_tmp (.inr rfl) rfl rfl (pk_bool (by rw [decide_eq_true ho]))
    · obtain ⟨y, hy⟩ : ∃ y, b[k]? = some y := ⟨_, List.getElem?_eq_getElem (by omega)⟩
      by_cases he : x = y
      · refine wk ⟨?_⟩
        refine a_next (k + 1) ⟨hlt, by rw [take_at hx, take_at hy, ho, he]⟩ (by omega) ?_
        exact wz
      · have hne : ¬ a = b := fun h => he (by subst h; rw [hx] at hy; injection hy)
        refine wk ⟨?_⟩
        exact ret_tmp (.inr rfl) rfl rfl (pk_bool (by rw [decide_eq_false hne]))
end Go.Proofs.YtofcjmjokokajaaGreat
namespace Go.Um
open Go.RowKit
def tailP : List Span := [⟨128, 191⟩]
def rowP (lo hi lo2 hi2 : Int) (more : Nat) : List (List Span) := [⟨lo, hi⟩] :: [⟨lo2, hi2⟩] :: List.replicate more tailP
def rowsP : List (List (List Span)) := [[[⟨0, 127⟩]], rowP 194 223 128 191 0, rowP 224 224 160 191 1, rowP 225 236 128 191 1, rowP 237 237 128 159 1, rowP 238 239 128 191 1, rowP 240 240 144 191 2, rowP 241 243 128 191 2, rowP 244 244 128 143 2]
def cpyT (a b : Int) : Term := ⟨0, 0, 21, 0, b, [⟨a, 0, 21, 0⟩]⟩
def cnsT (x : Int) : Term := ⟨0, 0, 21, 0, x, []⟩
def scalarT (n : Nat) : Term := if n = 1 then cpyT 0 0 else ⟨0, 0, 21, 0, 0, (List.range (n - 1)).map (fun k => ⟨((n - 1 - k : Nat) : Int), 0, 6, 6 * (k : Int)⟩) ++ [⟨0, 0, 7 - (n : Int), 6 * ((n : Int) - 1)⟩]⟩
def strictD : Desc := ⟨1, 2, 1, 0, rowsP.map fun g => ⟨0, 0, g, g.length, [scalarT g.length]⟩, [⟨0, [], []⟩]⟩
def badT : List Term := [cnsT 65533]
def allB : List Span := [⟨0, 255⟩]
def brokeR (g : List (List Span)) : List Rule := (List.range (g.length - 1)).map fun k => ⟨0, 0, g.take (k + 1) ++ [minusF allB (g.getD (k + 1) [])], (k : Int) + 1, badT⟩
def brokeE (g : List (List Span)) : List Final := (List.range (g.length - 1)).map fun k => ⟨0, g.take (k + 1), badT⟩
def firstP : List Span := rowsP.foldl (fun f g => minusF f (g.getD 0 [])) allB
def repairD : Desc := ⟨1, 2, 1, 0, strictD.rules ++ rowsP.flatMap brokeR ++ [⟨0, 0, [firstP], 1, badT⟩], strictD.finals ++ rowsP.flatMap brokeE⟩
def byteT (k i : Nat) : Term := if i = k then ⟨256 - 2 ^ (7 - k), 6 * (i : Int), 6 - (k : Int), 0, 0, [⟨0, 0, 21, 0⟩]⟩ else ⟨128, 6 * (i : Int), 6, 0, 0, [⟨0, 0, 21, 0⟩]⟩
def encSets : List (List Span) := [[⟨0, 127⟩], [⟨128, 2047⟩], [⟨2048, 55295⟩, ⟨57344, 65535⟩], [⟨65536, 1114111⟩]]
def encOut (k : Nat) : List Term := if k = 0 then [cpyT 0 0] else (List.range (k + 1)).map fun j => byteT k (k - j)
def encodeD : Desc := ⟨2, 1, 1, 0, encSets.zipIdx.map fun p => ⟨0, 0, [p.1], 1, encOut p.2⟩, [⟨0, [], []⟩]⟩
end Go.Um
namespace Go.Proofs.YtofcjmjokokajaaGreat
open Go.RowKit Go.Proofs Go.Vm Go.Um
set_option maxRecDepth 100000
theorem strict_v : VPure Tryz.prog 11 [] (.agg (descR.cells strictD)) := kcall0_ok (nat0_ok _ []) (k := 100000) (by decide +kernel)
theorem encoder_v : VPure Tryz.prog 13 [] (.agg (descR.cells encodeD)) := kcall0_ok (nat0_ok _ []) (k := 100000) (by decide +kernel)
theorem rstrict_v : VPure Tryz.prog 12 [] (.agg (descR.cells strictD)) := kcall0_ok (nat0_ok _ []) (k := 100000) (by decide +kernel)
theorem rencoder_v : VPure Tryz.prog 14 [] (.agg (descR.cells encodeD)) := kcall0_ok (nat0_ok _ []) (k := 100000) (by decide +kernel)
theorem repairer_v : VPure Tryz.prog 45 [] (.agg (descR.cells repairD)) := kcall0_ok (nat0_ok _ [97, 38]) (k := 100000) (by decide +kernel)
end Go.Proofs.YtofcjmjokokajaaGreat
namespace Go.Proofs.YtofcjmjokokajaaGreat
open Go.Proofs Go.Um Go.RowKit
def scalP (x : Int) : Prop := 0 ≤ x ∧ x < 1114112 ∧ ¬ (55296 ≤ x ∧ x < 57344)
instance (x : Int) : Decidable (scalP x) := by unfold scalP; infer_instance
def bytesF (x : Int) : List Int :=
  if ¬ scalP x then [] else if x < 128 then [x] else if x < 2048 then [192 + x / 64, 128 + x % 64]
  else if x < 65536 then [224 + x / 4096, 128 + x / 64 % 64, 128 + x % 64] else [240 + x / 262144, 128 + x / 4096 % 64, 128 + x / 64 % 64, 128 + x % 64]
def leadF (n : Nat) : Int := [0, 0, 192, 224, 240].getD n 0
def capF (n : Nat) : Int := [0, 0, 32, 16, 8].getD n 0
def leastF (n : Nat) : Int := [0, 0, 128, 2048, 65536].getD n 0
def valB (b : List Int) : Int := (b.drop 1).foldl (fun x c => x * 64 + c - 128) (b.getD 0 0 - leadF b.length)
def scalF (b : List Int) : Option Int := if valB b < 0 ∨ 1114111 < valB b ∨ bytesF (valB b) ≠ b then none else some (valB b)
def rangeF : Nat → List Int → Int × Int → Option (Int × Int)
  | 0, _, p => some p
  | n + 1, [], p => rangeF n [] (p.1 * 64, p.2 * 64 + 63)
  | n + 1, c :: l, p => if c - 128 < 0 ∨ 63 < c - 128 then none else rangeF n l (p.1 * 64 + (c - 128), p.2 * 64 + (c - 128))
def endsF (n : Nat) (p : Int × Int) : Bool := decide ((max p.1 (leastF n) < 55296 ∧ max p.1 (leastF n) ≤ min p.2 1114111) ∨ (57343 < min p.2 1114111 ∧ max p.1 (leastF n) ≤ min p.2 1114111))
def begF (b : List Int) (n : Nat) : Bool :=
  if b.getD 0 0 - leadF n < 0 ∨ capF n ≤ b.getD 0 0 - leadF n then false
  else match rangeF (n - 1) (b.drop 1) (b.getD 0 0 - leadF n, b.getD 0 0 - leadF n) with
    | none => false
    | some p => endsF n p
theorem scal1 {a x : Int} (ha : 0 ≤ a ∧ a ≤ 255) : scalF [a] = some x ↔ a < 128 ∧ x = a := by
  unfold scalF
  have hv : valB [a] = a := by simp [valB, leadF]
  rw [hv]
  unfold bytesF scalP
  repeat' split
  all_goals first | (simp at *; omega) | (simp at *)
theorem scal2 {a b x : Int} (ha : 0 ≤ a ∧ a ≤ 255) (hb : 0 ≤ b ∧ b ≤ 255) : scalF [a, b] = some x ↔ 194 ≤ a ∧ a ≤ 223 ∧ 128 ≤ b ∧ b ≤ 191 ∧ x = (a - 192) * 64 + (b - 128) := by
  unfold scalF
  have hv : valB [a, b] = (a - 192) * 64 + b - 128 := by simp [valB, leadF]
  rw [hv]
  unfold bytesF scalP
  repeat' split
  all_goals first | (simp at *; omega) | (simp at *)
theorem scal3 {a b c x : Int} (ha : 0 ≤ a ∧ a ≤ 255) (hb : 0 ≤ b ∧ b ≤ 255) (hc : 0 ≤ c ∧ c ≤ 255) : scalF [a, b, c] = some x ↔ 224 ≤ a ∧ a ≤ 239 ∧ 128 ≤ b ∧ b ≤ 191 ∧ 128 ≤ c ∧ c ≤ 191 ∧ (a = 224 → 160 ≤ b) ∧ (a = 237 → b ≤ 159) ∧ x = (a - 224) * 4096 + (b - 128) * 64 + (c - 128) := by
  unfold scalF
  have hv : valB [a, b, c] = ((a - 224) * 64 + b - 128) * 64 + c - 128 := by simp [valB, leadF]
  rw [hv]
  unfold bytesF scalP
  repeat' split
  all_goals first | (simp at *; omega) | (simp at *)
theorem scal4 {a b c d x : Int} (ha : 0 ≤ a ∧ a ≤ 255) (hb : 0 ≤ b ∧ b ≤ 255) (hc : 0 ≤ c ∧ c ≤ 255) (hd : 0 ≤ d ∧ d ≤ 255) : scalF [a, b, c, d] = some x ↔ 240 ≤ a ∧ a ≤ 244 ∧ 128 ≤ b ∧ b ≤ 191 ∧ 128 ≤ c ∧ c ≤ 191 ∧ 128 ≤ d ∧ d ≤ 191 ∧ (a = 240 → 144 ≤ b) ∧ (a = 244 → b ≤ 143) ∧ x = (a - 240) * 262144 + (b - 128) * 4096 + (c - 128) * 64 + (d - 128) := by
  unfold scalF
  have hv : valB [a, b, c, d] = (((a - 240) * 64 + b - 128) * 64 + c - 128) * 64 + d - 128 := by simp [valB, leadF]
  rw [hv]
  unfold bytesF scalP
  repeat' split
  all_goals first | (simp at *; omega) | (simp at *)
end Go.Proofs.YtofcjmjokokajaaGreat
namespace Go.Proofs.YtofcjmjokokajaaGreat
open Go.Proofs Go.Um Go.RowKit
def fitL : List (List Span) → List Int → Bool
  | [], _ => true
  | _ :: _, [] => false
  | g :: gs, z :: zs => hasB g z && fitL gs zs
def byteL (x : List Int) : Prop := ∀ z ∈ x, 0 ≤ z ∧ z ≤ 255
def symX (x : List Int) : Prop := ∀ z ∈ x, -1073741824 ≤ z ∧ z ≤ 1073741824
theorem byteL.sym {x : List Int} (h : byteL x) : symX x := fun z hz => by have := h z hz; omega
theorem byteL.drop {x : List Int} (h : byteL x) (n : Nat) : byteL (x.drop n) := fun z hz => h z (List.mem_of_mem_drop hz)
theorem fitL_iff : ∀ {gs : List (List Span)} {y : List Int}, symX y → (fitL gs y = true ↔ gs.length ≤ y.length ∧ ∀ (i : Nat) (g : List Span) (z : Int), gs[i]? = some g → y[i]? = some z → inSet g z)
  | [], y, _ => by simp [fitL]
  | g :: gs, [], _ => by simp [fitL]
  | g :: gs, z :: zs, h => by
    have hz := h z (by simp)
    have ih := fitL_iff (gs := gs) (y := zs) fun q hq => h q (by simp [hq])
    unfold fitL
    rw [Bool.and_eq_true, hasB_iff, ih]
    constructor
    · rintro ⟨h1, h2, h3⟩
      refine ⟨by simpa using h2, fun i g' z' hg' hz' => ?_⟩
      cases i with
      | zero =>
        simp at hg' hz'
        subst hg' hz'
        exact ⟨hz, h1⟩
      | succ i => exact h3 i g' z' (by simpa using hg') (by simpa using hz')
    · rintro ⟨h1, h2⟩
      exact ⟨(h2 0 g z (by simp) (by simp)).2, by simpa using h1, fun i g' z' hg' hz' => h2 (i + 1) g' z' (by simpa using hg') (by simpa using hz')⟩
theorem fitsX_iff {x : List Int} (hx : symX x) (gs : List (List Span)) (a : Nat) : fitsX x gs a ↔ fitL gs (x.drop a) = true := by
  rw [fitL_iff (fun z hz => hx z (List.mem_of_mem_drop hz))]
  unfold fitsX
  simp only [List.length_drop, List.getElem?_drop]
def tryF (y : List Int) (n : Nat) : Option (Int × Nat) := if n ≤ y.length then (scalF (y.take n)).map fun x => (x, n) else none
def firstF (y : List Int) : Option (Int × Nat) := (tryF y 1).or ((tryF y 2).or ((tryF y 3).or (tryF y 4)))
def mostF (y : List Int) : Nat := if 3 ≤ y.length ∧ begF (y.take 3) 4 = true then 3 else if 2 ≤ y.length ∧ (begF (y.take 2) 3 = true ∨ begF (y.take 2) 4 = true) then 2 else 1
def scanF (y : List Int) : Int × Nat × Bool := match firstF y with
  | some p => (p.1, p.2, true)
  | none => (65533, mostF y, false)
theorem try_none {y : List Int} {n : Nat} (h : ∀ x, scalF (y.take n) ≠ some x) : tryF y n = none := by
  unfold tryF
  split
  · cases hs : scalF (y.take n) with
    | none => rfl
    | some x => exact absurd hs (h x)
  · rfl
theorem try_some {y : List Int} {n : Nat} {p : Int × Nat} (h : tryF y n = some p) : n ≤ y.length ∧ p.2 = n ∧ scalF (y.take n) = some p.1 := by
  unfold tryF at h
  split at h
  · rename_i hl
    cases hs : scalF (y.take n) with
    | none => rw [hs] at h; cases h
    | some x =>
      rw [hs] at h
      injection h with h
      subst h
      exact ⟨hl, rfl, rfl⟩
  · cases h
theorem try_of {y : List Int} {n : Nat} {x : Int} (hl : n ≤ y.length) (h : scalF (y.take n) = some x) : tryF y n = some (x, n) := by
  unfold tryF
  rw [if_pos hl, h]
  rfl
theorem rows_cases {p : List (List Span) → Prop} (h1 : p [[⟨0, 127⟩]]) (h2 : p (rowP 194 223 128 191 0)) (h3 : p (rowP 224 224 160 191 1)) (h4 : p (rowP 225 236 128 191 1)) (h5 : p (rowP 237 237 128 159 1)) (h6 : p (rowP 238 239 128 191 1))
    (h7 : p (rowP 240 240 144 191 2)) (h8 : p (rowP 241 243 128 191 2)) (h9 : p (rowP 244 244 128 143 2)) : ∀ g ∈ rowsP, p g := by
  intro g hg
  simp only [rowsP, List.mem_cons, List.not_mem_nil, or_false] at hg
  rcases hg with rfl | rfl | rfl | rfl | rfl | rfl | rfl | rfl | rfl <;> assumption
theorem first_1 {a : Int} {t : List Int} (ha : 0 ≤ a ∧ a ≤ 127) : firstF (a :: t) = some (a, 1) := by
  have h : tryF (a :: t) 1 = some (a, 1) := try_of (by simp) ((scal1 (by omega)).2 ⟨by omega, rfl⟩)
  unfold firstF
  rw [h]
  rfl
theorem no_1 {a : Int} {t : List Int} (ha : 128 ≤ a ∧ a ≤ 255) : tryF (a :: t) 1 = none := try_none fun x h => by
  have := (scal1 (a := a) (by omega)).1 h
  omega
theorem no_2 {a b : Int} {t : List Int} (ha : 224 ≤ a ∧ a ≤ 255) (hb : 0 ≤ b ∧ b ≤ 255) : tryF (a :: b :: t) 2 = none := try_none fun x h => by
  have := (scal2 (a := a) (by omega) hb).1 h
  omega
theorem no_3 {a b c : Int} {t : List Int} (ha : 240 ≤ a ∧ a ≤ 255) (hb : 0 ≤ b ∧ b ≤ 255) (hc : 0 ≤ c ∧ c ≤ 255) : tryF (a :: b :: c :: t) 3 = none := try_none fun x h => by
  have := (scal3 (a := a) (by omega) hb hc).1 h
  omega
theorem first_2 {a b : Int} {t : List Int} (ha : 194 ≤ a ∧ a ≤ 223) (hb : 128 ≤ b ∧ b ≤ 191) : firstF (a :: b :: t) = some ((a - 192) * 64 + (b - 128), 2) := by
  have h : tryF (a :: b :: t) 2 = some ((a - 192) * 64 + (b - 128), 2) := try_of (by simp) ((scal2 (by omega) (by omega)).2 ⟨by omega, by omega, by omega, by omega, rfl⟩)
  unfold firstF
  rw [no_1 (by omega), h]
  rfl
theorem first_3 {a b c : Int} {t : List Int} (ha : 224 ≤ a ∧ a ≤ 239) (hb : 128 ≤ b ∧ b ≤ 191) (hc : 128 ≤ c ∧ c ≤ 191) (h1 : a = 224 → 160 ≤ b) (h2 : a = 237 → b ≤ 159) : firstF (a :: b :: c :: t) = some ((a - 224) * 4096 + (b - 128) * 64 + (c - 128), 3) := by
  have h : tryF (a :: b :: c :: t) 3 = some ((a - 224) * 4096 + (b - 128) * 64 + (c - 128), 3) := try_of (by simp) ((scal3 (by omega) (by omega) (by omega)).2 ⟨by omega, by omega, by omega, by omega, by omega, by omega, h1, h2, rfl⟩)
  unfold firstF
  rw [no_1 (by omega), no_2 (by omega) (by omega), h]
  rfl
theorem first_4 {a b c d : Int} {t : List Int} (ha : 240 ≤ a ∧ a ≤ 244) (hb : 128 ≤ b ∧ b ≤ 191) (hc : 128 ≤ c ∧ c ≤ 191) (hd : 128 ≤ d ∧ d ≤ 191) (h1 : a = 240 → 144 ≤ b) (h2 : a = 244 → b ≤ 143) : firstF (a :: b :: c :: d :: t) = some ((a - 240) * 262144 + (b - 128) * 4096 + (c - 128) * 64 + (d - 128), 4) := by
  have h : tryF (a :: b :: c :: d :: t) 4 = some ((a - 240) * 262144 + (b - 128) * 4096 + (c - 128) * 64 + (d - 128), 4) := try_of (by simp) ((scal4 (by omega) (by omega) (by omega) (by omega)).2 ⟨by omega, by omega, by omega, by omega, by omega, by omega, by omega, by omega, h1, h2, rfl⟩)
  unfold firstF
  rw [no_1 (by omega), no_2 (by omega) (by omega), no_3 (by omega) (by omega) (by omega), h]
  rfl
theorem hasB_one (lo hi z : Int) : hasB [⟨lo, hi⟩] z = true ↔ lo ≤ z ∧ z ≤ hi := by simp [hasB]
theorem fit_1 {g : List Span} {y : List Int} (h : fitL [g] y = true) : ∃ a t, y = a :: t ∧ hasB g a = true := by
  match y, h with
  | [], h => simp [fitL] at h
  | a :: t, h => exact ⟨a, t, rfl, by simpa [fitL] using h⟩
theorem fit_cons {g : List Span} {gs : List (List Span)} {y : List Int} (h : fitL (g :: gs) y = true) : ∃ a t, y = a :: t ∧ hasB g a = true ∧ fitL gs t = true := by
  match y, h with
  | [], h => simp [fitL] at h
  | a :: t, h =>
    unfold fitL at h
    rw [Bool.and_eq_true] at h
    exact ⟨a, t, rfl, h.1, h.2⟩
theorem tval1 {a : Int} (ha : 0 ≤ a ∧ a ≤ 127) : tvalF (scalarT 1) [a] = a := by
  simp [tvalF, scalarT, cpyT, valF, outerT, sumV, pw]
  omega
theorem tval2 {a b : Int} (ha : 194 ≤ a ∧ a ≤ 223) (hb : 128 ≤ b ∧ b ≤ 191) : tvalF (scalarT 2) [a, b] = (a - 192) * 64 + (b - 128) := by
  simp [tvalF, scalarT, valF, outerT, sumV, pw, List.range_succ]
  omega
theorem tval3 {a b c : Int} (ha : 224 ≤ a ∧ a ≤ 239) (hb : 128 ≤ b ∧ b ≤ 191) (hc : 128 ≤ c ∧ c ≤ 191) : tvalF (scalarT 3) [a, b, c] = (a - 224) * 4096 + (b - 128) * 64 + (c - 128) := by
  simp [tvalF, scalarT, valF, outerT, sumV, pw, List.range_succ]
  omega
theorem tval4 {a b c d : Int} (ha : 240 ≤ a ∧ a ≤ 244) (hb : 128 ≤ b ∧ b ≤ 191) (hc : 128 ≤ c ∧ c ≤ 191) (hd : 128 ≤ d ∧ d ≤ 191) : tvalF (scalarT 4) [a, b, c, d] = (a - 240) * 262144 + (b - 128) * 4096 + (c - 128) * 64 + (d - 128) := by
  simp [tvalF, scalarT, valF, outerT, sumV, pw, List.range_succ]
  omega
theorem row3 {lo hi l2 h2 : Int} (hlo : 224 ≤ lo) (hhi : hi ≤ 239) (hl2 : 128 ≤ l2) (hh2 : h2 ≤ 191) (h1 : ∀ a b : Int, lo ≤ a → a ≤ hi → l2 ≤ b → b ≤ h2 → (a = 224 → 160 ≤ b) ∧ (a = 237 → b ≤ 159)) {y : List Int} (hf : fitL (rowP lo hi l2 h2 1) y = true) :
    firstF y = some (tvalF (scalarT (rowP lo hi l2 h2 1).length) (y.take (rowP lo hi l2 h2 1).length), (rowP lo hi l2 h2 1).length) := by
  unfold rowP tailP at hf
  obtain ⟨a, t, rfl, ha, hf⟩ := fit_cons hf
  obtain ⟨b, t, rfl, hb, hf⟩ := fit_cons hf
  obtain ⟨c, t, rfl, hc⟩ := fit_1 hf
  rw [hasB_one] at ha hb hc
  have h3 := h1 a b ha.1 ha.2 hb.1 hb.2
  show _ = some (tvalF (scalarT 3) [a, b, c], 3)
  rw [tval3 (by omega) (by omega) (by omega), first_3 (by omega) (by omega) (by omega) h3.1 h3.2]
theorem row4 {lo hi l2 h2 : Int} (hlo : 240 ≤ lo) (hhi : hi ≤ 244) (hl2 : 128 ≤ l2) (hh2 : h2 ≤ 191) (h1 : ∀ a b : Int, lo ≤ a → a ≤ hi → l2 ≤ b → b ≤ h2 → (a = 240 → 144 ≤ b) ∧ (a = 244 → b ≤ 143)) {y : List Int} (hf : fitL (rowP lo hi l2 h2 2) y = true) :
    firstF y = some (tvalF (scalarT (rowP lo hi l2 h2 2).length) (y.take (rowP lo hi l2 h2 2).length), (rowP lo hi l2 h2 2).length) := by
  unfold rowP tailP at hf
  obtain ⟨a, t, rfl, ha, hf⟩ := fit_cons hf
  obtain ⟨b, t, rfl, hb, hf⟩ := fit_cons hf
  obtain ⟨c, t, rfl, hc, hf⟩ := fit_cons hf
  obtain ⟨d, t, rfl, hd⟩ := fit_1 hf
  rw [hasB_one] at ha hb hc hd
  have h3 := h1 a b ha.1 ha.2 hb.1 hb.2
  show _ = some (tvalF (scalarT 4) [a, b, c, d], 4)
  rw [tval4 (by omega) (by omega) (by omega) (by omega), first_4 (by omega) (by omega) (by omega) (by omega) h3.1 h3.2]
theorem first_row : ∀ g ∈ rowsP, ∀ y : List Int, fitL g y = true → firstF y = some (tvalF (scalarT g.length) (y.take g.length), g.length) := by
  refine rows_cases ?_ ?_ (fun y => row3 (by omega) (by omega) (by omega) (by omega) (by omega)) (fun y => row3 (by omega) (by omega) (by omega) (by omega) (by omega)) (fun y => row3 (by omega) (by omega) (by omega) (by omega) (by omega)) (fun y => row3 (by omega) (by omega) (by omega) (by omega) (by omega))
    (fun y => row4 (by omega) (by omega) (by omega) (by omega) (by omega)) (fun y => row4 (by omega) (by omega) (by omega) (by omega) (by omega)) (fun y => row4 (by omega) (by omega) (by omega) (by omega) (by omega))
  · intro y hf
    obtain ⟨a, t, rfl, ha⟩ := fit_1 hf
    rw [hasB_one] at ha
    show _ = some (tvalF (scalarT 1) [a], 1)
    rw [tval1 ha, first_1 ha]
  · intro y hf
    unfold rowP tailP at hf
    obtain ⟨a, t, rfl, ha, hf⟩ := fit_cons hf
    obtain ⟨b, t, rfl, hb⟩ := fit_1 hf
    rw [hasB_one] at ha hb
    show _ = some (tvalF (scalarT 2) [a, b], 2)
    rw [tval2 ha hb, first_2 ha hb]
theorem row_mem (i : Nat) (g : List (List Span)) (h : rowsP[i]? = some g) : g ∈ rowsP := List.mem_of_getElem? h
theorem first_some {y : List Int} (hy : byteL y) {p : Int × Nat} (h : firstF y = some p) : ∃ g ∈ rowsP, fitL g y = true := by
  unfold firstF at h
  rw [Option.or_eq_some_iff] at h
  rcases h with h | ⟨_, h⟩
  · obtain ⟨h1, _, h3⟩ := try_some h
    match y, h1, h3, hy with
    | a :: t, _, h3, hy =>
      have ha := hy a (by simp)
      have := (scal1 ha).1 h3
      exact ⟨_, row_mem 0 _ rfl, by simp [fitL, hasB]; omega⟩
  rw [Option.or_eq_some_iff] at h
  rcases h with h | ⟨_, h⟩
  · obtain ⟨h1, _, h3⟩ := try_some h
    match y, h1, h3, hy with
    | a :: b :: t, _, h3, hy =>
      have ha := hy a (by simp)
      have hb := hy b (by simp)
      have := (scal2 ha hb).1 h3
      exact ⟨_, row_mem 1 _ rfl, by simp [fitL, hasB, rowP]; omega⟩
  rw [Option.or_eq_some_iff] at h
  rcases h with h | ⟨_, h⟩
  · obtain ⟨h1, _, h3⟩ := try_some h
    match y, h1, h3, hy with
    | a :: b :: c :: t, _, h3, hy =>
      have ha := hy a (by simp)
      have hb := hy b (by simp)
      have hc := hy c (by simp)
      have h4 := (scal3 ha hb hc).1 h3
      by_cases e1 : a = 224
      · exact ⟨_, row_mem 2 _ rfl, by simp [fitL, hasB, rowP, tailP]; omega⟩
      by_cases e2 : a ≤ 236
      · exact ⟨_, row_mem 3 _ rfl, by simp [fitL, hasB, rowP, tailP]; omega⟩
      by_cases e3 : a = 237
      · exact ⟨_, row_mem 4 _ rfl, by simp [fitL, hasB, rowP, tailP]; omega⟩
      · exact ⟨_, row_mem 5 _ rfl, by simp [fitL, hasB, rowP, tailP]; omega⟩
  · obtain ⟨h1, _, h3⟩ := try_some h
    match y, h1, h3, hy with
    | a :: b :: c :: d :: t, _, h3, hy =>
      have ha := hy a (by simp)
      have hb := hy b (by simp)
      have hc := hy c (by simp)
      have hd := hy d (by simp)
      have h4 := (scal4 ha hb hc hd).1 h3
      by_cases e1 : a = 240
      · exact ⟨_, row_mem 6 _ rfl, by simp [fitL, hasB, rowP, tailP]; omega⟩
      by_cases e2 : a ≤ 243
      · exact ⟨_, row_mem 7 _ rfl, by simp [fitL, hasB, rowP, tailP]; omega⟩
      · exact ⟨_, row_mem 8 _ rfl, by simp [fitL, hasB, rowP, tailP]; omega⟩
end Go.Proofs.YtofcjmjokokajaaGreat
namespace Go.Proofs.YtofcjmjokokajaaGreat
open Go.Proofs Go.Um Go.RowKit
inductive Rep : List Int → List Int → Bool → Prop
  | nil : Rep [] [] true
  | cons {y w : List Int} {h : Bool} (hy : y ≠ []) (hr : Rep (y.drop (scanF y).2.1) w h) : Rep y ((scanF y).1 :: w) ((scanF y).2.2 && h)
theorem scan_row {g : List (List Span)} (hg : g ∈ rowsP) {y : List Int} (hf : fitL g y = true) : scanF y = (tvalF (scalarT g.length) (y.take g.length), g.length, true) := by
  unfold scanF
  rw [first_row g hg y hf]
theorem scan_true {y : List Int} (hy : byteL y) (h : (scanF y).2.2 = true) : ∃ g ∈ rowsP, fitL g y = true := by
  unfold scanF at h
  split at h
  · rename_i p hp
    exact first_some hy hp
  · cases h
theorem strict_rule {r : Rule} : r ∈ strictD.rules ↔ ∃ g ∈ rowsP, r = ⟨0, 0, g, g.length, [scalarT g.length]⟩ := by
  unfold strictD
  simp only [List.mem_map]
  constructor
  · rintro ⟨g, h1, rfl⟩; exact ⟨g, h1, rfl⟩
  · rintro ⟨g, h1, rfl⟩; exact ⟨g, h1, rfl⟩
theorem writes_one (t : Term) (w : List Int) : writesV [t] w = [tvalF t w] := rfl
theorem run_row {d : Desc} {x : List Int} (hx : symX x) {a : Nat} {g : List (List Span)} (hg : g ∈ rowsP) (hr : (⟨0, 0, g, g.length, [scalarT g.length]⟩ : Rule) ∈ d.rules) (hf : fitL g (x.drop a) = true) {w : List Int} (h : Run d x (a + (scanF (x.drop a)).2.1) 0 w) :
    Run d x a 0 ((scanF (x.drop a)).1 :: w) := by
  rw [scan_row hg hf] at h ⊢
  refine .step _ hr rfl ((fitsX_iff hx g a).2 hf) (u := w) ?_ ?_
  · show Run d x (a + (g.length : Int).toNat) 0 w
    rw [Int.toNat_natCast]
    exact h
  · rw [writes_one]
    rfl
theorem strict_of {x : List Int} (hx : byteL x) {y w : List Int} {h : Bool} (hr : Rep y w h) : ∀ a, y = x.drop a → a ≤ x.length → h = true → Run strictD x a 0 w := by
  induction hr with
  | nil =>
    intro a ha hal _
    have hl : x.length - a = 0 := by rw [← List.length_drop, ← ha]; rfl
    exact .fin ⟨0, [], []⟩ (by simp [strictD]) rfl (by simpa using hl.symm) ⟨by simp, by simp⟩ rfl
  | @cons y w h hy hr ih =>
    intro a ha hal hh
    rw [Bool.and_eq_true] at hh
    obtain ⟨g, hg, hf⟩ := scan_true (ha ▸ hx.drop a) hh.1
    have hn : g.length ≤ (x.drop a).length := ((fitL_iff (hx.drop a).sym).1 (ha ▸ hf)).1
    have e2 := scan_row hg hf
    have := ih (a + (scanF y).2.1) (by rw [ha, List.drop_drop]) (by rw [e2]; rw [List.length_drop] at hn; show a + g.length ≤ _; omega) hh.2
    subst ha
    exact run_row hx.sym hg (strict_rule.2 ⟨g, hg, rfl⟩) hf this
theorem rep_of_strict {x : List Int} (hx : byteL x) {a : Nat} {s : Int} {w : List Int} (hr : Run strictD x a s w) : Rep (x.drop a) w true := by
  induction hr with
  | @fin a s w f hf hs hl hx' hw =>
    simp [strictD] at hf
    subst hf
    subst hw
    have : x.drop a = [] := List.drop_eq_nil_iff.2 (by simp at hl; omega)
    rw [this]
    exact .nil
  | @step a s w u r hr hs hx' h hw ih =>
    obtain ⟨g, hg, rfl⟩ := strict_rule.1 hr
    have hf := (fitsX_iff hx.sym g a).1 hx'
    have e := scan_row hg hf
    have hne : x.drop a ≠ [] := fun he => by
      have h0 : g ≠ [] := by
        revert hg
        exact rows_cases (p := fun g => g ≠ []) (by simp) (by simp [rowP]) (by simp [rowP]) (by simp [rowP]) (by simp [rowP]) (by simp [rowP]) (by simp [rowP]) (by simp [rowP]) (by simp [rowP]) g
      rw [he] at hf
      cases g with
      | nil => exact h0 rfl
      | cons _ _ => simp [fitL] at hf
    have h2 := Rep.cons hne (w := u) (h := true) (by
      rw [e, List.drop_drop]
      have := ih
      rw [show (((g.length : Nat) : Int)).toNat = g.length from rfl] at this
      exact this)
    rw [e] at h2
    rw [hw, writes_one]
    exact h2
theorem Rep.det {y w : List Int} {h : Bool} (h1 : Rep y w h) : ∀ {w' : List Int} {h' : Bool}, Rep y w' h' → w' = w ∧ h' = h := by
  induction h1 with
  | nil =>
    intro w' h' h2
    cases h2 with
    | nil => exact ⟨rfl, rfl⟩
    | cons hy _ => exact absurd rfl hy
  | cons hy hr ih =>
    intro w' h' h2
    cases h2 with
    | nil => exact absurd rfl hy
    | cons _ hr' =>
      obtain ⟨e1, e2⟩ := ih hr'
      rw [e1, e2]
      exact ⟨rfl, rfl⟩
theorem strict_iff {x w : List Int} {h : Bool} (hx : byteL x) (hr : Rep x w h) (u : List Int) : Run strictD x 0 0 u ↔ h = true ∧ u = w := by
  constructor
  · intro hu
    have h1 := rep_of_strict hx hu
    rw [List.drop_zero] at h1
    obtain ⟨e1, e2⟩ := hr.det h1
    exact ⟨e2.symm, e1⟩
  · rintro ⟨h1, rfl⟩
    exact strict_of hx hr 0 (by simp) (Nat.zero_le _) h1
def encF (x : List Int) : List Int := x.flatMap bytesF
theorem enc_len : encodeD.rules = [⟨0, 0, [[⟨0, 127⟩]], 1, [cpyT 0 0]⟩, ⟨0, 0, [[⟨128, 2047⟩]], 1, [byteT 1 1, byteT 1 0]⟩, ⟨0, 0, [[⟨2048, 55295⟩, ⟨57344, 65535⟩]], 1, [byteT 2 2, byteT 2 1, byteT 2 0]⟩, ⟨0, 0, [[⟨65536, 1114111⟩]], 1, [byteT 3 3, byteT 3 2, byteT 3 1, byteT 3 0]⟩] := rfl
theorem enc_rule {z : Int} (hz : scalP z) : ∃ r ∈ encodeD.rules, r.src = 0 ∧ r.dst = 0 ∧ r.eat = 1 ∧ r.guards.length = 1 ∧ (∀ t, fitL r.guards (z :: t) = true) ∧ writesV r.out [z] = bytesF z := by
  unfold scalP at hz
  rw [enc_len]
  by_cases c1 : z < 128
  · refine ⟨⟨0, 0, [[⟨0, 127⟩]], 1, [cpyT 0 0]⟩, by simp, rfl, rfl, rfl, rfl, fun t => by simp [fitL, hasB]; omega, ?_⟩
    unfold bytesF
    rw [if_neg (by unfold scalP; omega), if_pos c1]
    simp [writesV, tvalF, cpyT, valF, outerT, sumV, pw]
    omega
  by_cases c2 : z < 2048
  · refine ⟨⟨0, 0, [[⟨128, 2047⟩]], 1, [byteT 1 1, byteT 1 0]⟩, by simp, rfl, rfl, rfl, rfl, fun t => by simp [fitL, hasB]; omega, ?_⟩
    unfold bytesF
    rw [if_neg (by unfold scalP; omega), if_neg c1, if_pos c2]
    simp [writesV, tvalF, byteT, valF, outerT, sumV, pw]
    omega
  by_cases c3 : z < 65536
  · refine ⟨⟨0, 0, [[⟨2048, 55295⟩, ⟨57344, 65535⟩]], 1, [byteT 2 2, byteT 2 1, byteT 2 0]⟩, by simp, rfl, rfl, rfl, rfl, fun t => by simp [fitL, hasB]; omega, ?_⟩
    unfold bytesF
    rw [if_neg (by unfold scalP; omega), if_neg c1, if_neg c2, if_pos c3]
    simp [writesV, tvalF, byteT, valF, outerT, sumV, pw]
    omega
  · refine ⟨⟨0, 0, [[⟨65536, 1114111⟩]], 1, [byteT 3 3, byteT 3 2, byteT 3 1, byteT 3 0]⟩, by simp, rfl, rfl, rfl, rfl, fun t => by simp [fitL, hasB]; omega, ?_⟩
    unfold bytesF
    rw [if_neg (by unfold scalP; omega), if_neg c1, if_neg c2, if_neg c3]
    simp [writesV, tvalF, byteT, valF, outerT, sumV, pw]
    omega
theorem encode_of {x : List Int} (hx : ∀ z ∈ x, scalP z) : ∀ (y : List Int) (a : Nat), y = x.drop a → a ≤ x.length → Run encodeD x a 0 (encF y)
  | [], a, ha, hal => by
    have hl : x.length - a = 0 := by rw [← List.length_drop, ← ha]; rfl
    exact .fin ⟨0, [], []⟩ (by simp [encodeD]) rfl (by simpa using hl.symm) ⟨by simp, by simp⟩ rfl
  | z :: y, a, ha, hal => by
    have hxs : symX x := fun q hq => by have := hx q hq; unfold scalP at this; omega
    have hz := hx z (List.mem_of_mem_drop (ha ▸ (by simp) : z ∈ x.drop a))
    have hl : (z :: y).length = x.length - a := by rw [ha, List.length_drop]
    obtain ⟨r, h1, h2, h3, h4, h5, h6, h7⟩ := enc_rule hz
    refine .step r h1 h2 ((fitsX_iff hxs _ a).2 (by rw [← ha]; exact h6 y)) (u := encF y) ?_ ?_
    · rw [h3, h4]
      exact encode_of hx y (a + 1) (by rw [← List.drop_drop, ← ha]; rfl) (by simp at hl; omega)
    · unfold winF
      rw [h5, ← ha, show (z :: y).take 1 = [z] from rfl, h7]
      rfl
theorem enc_any {z : Int} {r : Rule} (hr : r ∈ encodeD.rules) {t : List Int} (h : fitL r.guards (z :: t) = true) : r.eat = 1 ∧ r.guards.length = 1 ∧ writesV r.out [z] = bytesF z := by
  rw [enc_len] at hr
  simp only [List.mem_cons, List.not_mem_nil, or_false] at hr
  rcases hr with rfl | rfl | rfl | rfl
  · simp [fitL, hasB] at h
    refine ⟨rfl, rfl, ?_⟩
    unfold bytesF
    rw [if_neg (by unfold scalP; omega), if_pos (by omega)]
    simp [writesV, tvalF, cpyT, valF, outerT, sumV, pw]
    omega
  · simp [fitL, hasB] at h
    refine ⟨rfl, rfl, ?_⟩
    unfold bytesF
    rw [if_neg (by unfold scalP; omega), if_neg (by omega), if_pos (by omega)]
    simp [writesV, tvalF, byteT, valF, outerT, sumV, pw]
    omega
  · simp [fitL, hasB] at h
    refine ⟨rfl, rfl, ?_⟩
    unfold bytesF
    rw [if_neg (by unfold scalP; omega), if_neg (by omega), if_neg (by omega), if_pos (by omega)]
    simp [writesV, tvalF, byteT, valF, outerT, sumV, pw]
    omega
  · simp [fitL, hasB] at h
    refine ⟨rfl, rfl, ?_⟩
    unfold bytesF
    rw [if_neg (by unfold scalP; omega), if_neg (by omega), if_neg (by omega), if_neg (by omega)]
    simp [writesV, tvalF, byteT, valF, outerT, sumV, pw]
    omega
theorem enc_run {x : List Int} (hx : symX x) {a : Nat} {s : Int} {w : List Int} (hr : Run encodeD x a s w) : w = encF (x.drop a) := by
  induction hr with
  | @fin a s w f hf hs hl hx' hw =>
    simp [encodeD] at hf
    subst hf
    subst hw
    have : x.drop a = [] := List.drop_eq_nil_iff.2 (by simp at hl; omega)
    rw [this]
    rfl
  | @step a s w u r hr hs hx' h hw ih =>
    have hf := (fitsX_iff hx r.guards a).1 hx'
    cases hd : x.drop a with
    | nil =>
      rw [hd] at hf
      rw [enc_len] at hr
      simp only [List.mem_cons, List.not_mem_nil, or_false] at hr
      rcases hr with rfl | rfl | rfl | rfl <;> simp [fitL] at hf
    | cons z t =>
      rw [hd] at hf
      obtain ⟨h1, h2, h3⟩ := enc_any hr hf
      rw [hw, ih, h1, h2]
      unfold winF
      rw [hd, show (z :: t).take 1 = [z] from rfl, h3, show ((1 : Int)).toNat = 1 from rfl, ← List.drop_drop, hd]
      rfl
theorem words_only {d : Desc} {x : List Int} {s : Int} {n : Nat} {ls : List (List Int)} {y : List Int} (hu : ∀ w, Run d x 0 s w ↔ w = y) (h : WordsOf d x 0 s n ls) : ls = [y] := by
  obtain ⟨h1, h2, _⟩ := h
  have hy : y ∈ ls := (h1 y).2 ((hu y).2 rfl)
  have hall : ∀ w ∈ ls, w = y := fun w hw => (hu w).1 ((h1 w).1 hw)
  match ls, h2, hy, hall with
  | [w], _, _, hall => rw [hall w (by simp)]
  | w :: w2 :: r, h2, _, hall =>
    have := (List.pairwise_cons.1 h2).1 w2 (by simp)
    rw [hall w (by simp), hall w2 (by simp), cmpW_refl] at this
    omega
theorem many_none {d : Desc} {x : List Int} {n : Nat} (hn : 1 ≤ n) (hu : ∀ a s u v, Run d x a s u → Run d x a s v → u = v) : ¬ TooMany d x n := by
  rintro ⟨a, s, ls, _, h1, h2, h3⟩
  match ls, h1, h2, h3 with
  | [], _, _, h3 => simp at h3
  | [_], _, _, h3 => simp at h3; omega
  | w :: w2 :: r, h1, h2, _ =>
    have := (List.pairwise_cons.1 h2).1 w2 (by simp)
    rw [hu a s w w2 (h1 w (by simp)) (h1 w2 (by simp)), cmpW_refl] at this
    omega
theorem outs_only {d : Desc} {x : List Int} {n : Nat} {y : List Int} (hE : ∀ r ∈ d.rules, ¬ r.guards.length = 0) (ha : askF d x = 0) (hn : 1 ≤ n) (hu : ∀ a s u v, Run d x a s u → Run d x a s v → u = v) (hy : ∀ w, Run d x 0 d.start w ↔ w = y) : outsF d x (n : Int) = ([y], 0) := by
  rcases outs_law hE ha hn with ⟨h1, h2⟩ | ⟨_, _, h3⟩
  · exact Prod.ext (words_only hy h2) h1
  · exact absurd h3 (many_none hn hu)
theorem where_strict : (whereF strictD).1 = 0 := by decide +kernel
theorem where_encode : (whereF encodeD).1 = 0 := by decide +kernel
theorem check_strict : checkF strictD = 0 := by unfold checkF; rw [if_pos where_strict]
theorem check_encode : checkF encodeD = 0 := by unfold checkF; rw [if_pos where_encode]
theorem strict_guards : ∀ r ∈ strictD.rules, ¬ r.guards.length = 0 := by decide +kernel
theorem encode_guards : ∀ r ∈ encodeD.rules, ¬ r.guards.length = 0 := by decide +kernel
theorem first_enc {z : Int} (hz : scalP z) (t : List Int) : firstF (bytesF z ++ t) = some (z, (bytesF z).length) := by
  have h0 := hz
  unfold scalP at hz
  unfold bytesF
  rw [if_neg (by simpa using h0)]
  by_cases h1 : z < 128
  · rw [if_pos h1]
    exact first_1 ⟨hz.1, by omega⟩
  rw [if_neg h1]
  by_cases h2 : z < 2048
  · rw [if_pos h2]
    have := first_2 (a := 192 + z / 64) (b := 128 + z % 64) (t := t) ⟨by omega, by omega⟩ ⟨by omega, by omega⟩
    rw [show ((192 + z / 64) - 192) * 64 + ((128 + z % 64) - 128) = z by omega] at this
    exact this
  rw [if_neg h2]
  by_cases h3 : z < 65536
  · rw [if_pos h3]
    have := first_3 (a := 224 + z / 4096) (b := 128 + z / 64 % 64) (c := 128 + z % 64) (t := t) ⟨by omega, by omega⟩ ⟨by omega, by omega⟩ ⟨by omega, by omega⟩ (by omega) (by omega)
    rw [show ((224 + z / 4096) - 224) * 4096 + ((128 + z / 64 % 64) - 128) * 64 + ((128 + z % 64) - 128) = z by omega] at this
    exact this
  · rw [if_neg h3]
    have := first_4 (a := 240 + z / 262144) (b := 128 + z / 4096 % 64) (c := 128 + z / 64 % 64) (d := 128 + z % 64) (t := t) ⟨by omega, by omega⟩ ⟨by omega, by omega⟩ ⟨by omega, by omega⟩ ⟨by omega, by omega⟩ (by omega) (by omega)
    rw [show ((240 + z / 262144) - 240) * 262144 + ((128 + z / 4096 % 64) - 128) * 4096 + ((128 + z / 64 % 64) - 128) * 64 + ((128 + z % 64) - 128) = z by omega] at this
    exact this
theorem bytesF_byte {z : Int} : byteL (bytesF z) := by
  intro q hq
  unfold bytesF scalP at hq
  repeat' split at hq
  all_goals first | (simp at hq; done) | (simp at hq; omega)
theorem rep_enc : ∀ {x : List Int}, (∀ z ∈ x, scalP z) → Rep (encF x) x true
  | [], _ => .nil
  | z :: x, hx => by
    have hz := hx z (by simp)
    have hs : scanF (encF (z :: x)) = (z, (bytesF z).length, true) := by
      unfold encF scanF
      rw [List.flatMap_cons, first_enc hz]
    have hne : bytesF z ≠ [] := fun he => by
      have := first_enc hz []
      rw [he] at this
      simp [firstF, tryF] at this
    have h := Rep.cons (y := encF (z :: x)) (w := x) (h := true) (by unfold encF; rw [List.flatMap_cons]; simp [hne]) (by
      rw [hs]
      show Rep ((encF (z :: x)).drop (bytesF z).length) x true
      unfold encF
      rw [List.flatMap_cons, List.drop_left]
      exact rep_enc fun q hq => hx q (by simp [hq]))
    rw [hs] at h
    exact h
theorem strict_outs {z : Int} (hz : scalP z) : outsF strictD (bytesF z) 2 = ([[z]], 0) := by
  have hr : Rep (bytesF z) [z] true := by
    have := rep_enc (x := [z]) (by simpa using hz)
    simpa [encF] using this
  have hb : byteL (bytesF z) := bytesF_byte
  have hl : (bytesF z).length ≤ 4 := by unfold bytesF; repeat' split
                                        all_goals simp
  refine outs_only (n := 2) strict_guards ?_ (by omega) (fun a s u v hu hv => ((rep_of_strict hb hv).det (rep_of_strict hb hu)).1) fun w => ?_
  · unfold askF
    rw [if_neg (by simp [check_strict]), if_neg (by omega), if_pos]
    exact List.all_eq_true.2 fun q hq => by have := hb q hq; show hasB (domF 1) q = true; simp [domF, hasB]; omega
  · show Run strictD (bytesF z) 0 0 w ↔ _
    rw [strict_iff hb hr]
    simp
theorem encode_outs {z : Int} (hz : scalP z) : outsF encodeD [z] 2 = ([bytesF z], 0) := by
  have hs : symX [z] := fun q hq => by
    simp at hq
    subst hq
    unfold scalP at hz
    omega
  refine outs_only (n := 2) encode_guards ?_ (by omega) (fun a s u v hu hv => (enc_run hs hu).trans (enc_run hs hv).symm) fun w => ?_
  · unfold askF
    rw [if_neg (by simp [check_encode]), if_neg (by simp), if_pos]
    unfold scalP at hz
    show [z].all (hasB (domF 2)) = true
    simp [domF, hasB]
    omega
  · show Run encodeD [z] 0 0 w ↔ _
    constructor
    · intro h
      have := enc_run hs h
      simpa [encF] using this
    · rintro rfl
      have := encode_of (x := [z]) (by simpa using hz) [z] 0 rfl (by simp)
      simpa [encF] using this
end Go.Proofs.YtofcjmjokokajaaGreat
namespace Go.Proofs.YtofcjmjokokajaaGreat
open Go.RowKit Go.Um Go.Proofs Go.Vm
attribute [local irreducible] Ev arun frun grun awp RetQ NextQ RetM
set_option maxHeartbeats 4000000
theorem rin2_v (x : Int) : VPure Tryz.prog 44 [.int .i64 2, .int .i32 x] (.bool (decide (scalP x))) := by
  refine a_pure (n0 := 0) (hN := Tryz.ntmps44) (hf := Tryz.func44) ?_
  repeat' first | (show arun _ _ _ _ _ (⟨some _, _, _, _, _, none⟩ :: _) _ _ _; first | refine ar_s ?_ | refine ar_app_n (fun h => ?_) (fun h => ?_) | refine ar_app_nz (fun h => ?_) (fun h => ?_)) | (show arun _ _ _ _ _ (⟨_, _, _, _, _, some _⟩ :: _) _ _ _; first | refine ar_on ?_ | refine ar_off ?_ | refine ar_off2 ?_ | refine ar_split_t ?_ | refine ar_split_f ?_ | refine ar_split (fun h => ?_) (fun h => ?_)) | (show arun _ _ _ _ _ (⟨none, _, _, _, _, none⟩ :: _) _ _ _; refine ar_n ?_) | (show frun _ _ _ _ _ _ (⟨some _, _, _, _, _, none⟩ :: _) _ _ _; refine fr_s ?_) | (show frun _ _ _ _ _ _ (⟨none, _, _, _, _, none⟩ :: _) _ _ _; refine fr_n ?_) | (show grun _ _ _ _ _ _ _ (⟨some _, _, _, _, _, none⟩ :: _) _ _ _; refine gr_s ?_) | (show grun _ _ _ _ _ _ _ (⟨none, _, _, _, _, none⟩ :: _) _ _ _; refine gr_n ?_) | refine gr_nil ?_ | refine fr_nil ?_ | refine ar_nil ?_ | refine a_seq ?_ | refine a_block ?_ | refine a_region ?_ | refine a_drawn ?_ | refine a_skip ?_ | refine a_exit ?_ | refine a_ret ?_ | (show awp _ _ (.cond _ _ _) _ _ _ _; first | refine a_yes rfl ?_ | refine a_no rfl ?_ | refine a_dec_t ?_ | refine a_dec_f ?_ | refine a_dec rfl (fun h => ?_) (fun h => ?_))
  all_goals exact ret_tmp (.inr rfl) rfl rfl (pk_bool (by rw [Bool.eq_iff_iff]; simp [scalP, *] <;> omega))
theorem pk_bytes {s : Store} {id g m G L k : Nat} {e : TypeId} {xs : List (List V)} {ys : List Int} (hs : s id = some (.cells e m G L xs)) (hg : (Nat.ble L g && Nat.ble g G) = true) (hm : m = 1) (h : xs = ys.map byteR.cells) (hk : k = ys.length) : Pk s (.row id g 0 k) (byteR.L ys) := by subst hm; exact pk_row hs hg rfl h hk
theorem wrap32 {z : Int} (h : -2147483648 ≤ z) (h2 : z ≤ 2147483647) : IntKind.i32.wrap z = z := by rw [IntKind.wrap_i32]; omega
theorem wrap8 {z : Int} (h : 0 ≤ z) (h2 : z ≤ 255) : IntKind.u8.wrap z = z := by rw [IntKind.wrap_u8]; omega
theorem bytes_v (x : Int) : VPure Tryz.prog 16 [.int .i32 x] (byteR.L (bytesF x)) := by
  have hin := rin2_v x
  unfold bytesF
  by_cases hs : scalP x
  · rw [if_neg (by simpa using hs)]
    rw [decide_eq_true hs] at hin
    unfold scalP at hs
    have d1 : x.tdiv 64 = x / 64 := Int.tdiv_eq_ediv_of_nonneg hs.1
    have d2 : x.tmod 64 = x % 64 := Int.tmod_eq_emod_of_nonneg hs.1
    have d3 : x.tdiv 4096 = x / 4096 := Int.tdiv_eq_ediv_of_nonneg hs.1
    have d4 : x.tdiv 262144 = x / 262144 := Int.tdiv_eq_ediv_of_nonneg hs.1
    have e1 : IntKind.i32.wrap (x.tdiv 64) = x / 64 := by rw [d1, wrap32] <;> omega
    have e3 : IntKind.i32.wrap (x.tdiv 4096) = x / 4096 := by rw [d3, wrap32] <;> omega
    have e4 : IntKind.i32.wrap (x.tdiv 262144) = x / 262144 := by rw [d4, wrap32] <;> omega
    have e5 : (x / 64).tmod 64 = x / 64 % 64 := Int.tmod_eq_emod_of_nonneg (by omega)
    have e6 : (x / 4096).tmod 64 = x / 4096 % 64 := Int.tmod_eq_emod_of_nonneg (by omega)
    refine a_pure (n0 := 0) (hN := Tryz.ntmps16) (hf := Tryz.func16) ?_
    refine wk ⟨?_⟩
    refine ar_pure hin ?_
    repeat' first | (show arun _ _ _ _ _ (⟨some _, _, _, _, _, none⟩ :: _) _ _ _; first | refine ar_s ?_ | refine ar_app_n (fun h => ?_) (fun h => ?_) | refine ar_app_nz (fun h => ?_) (fun h => ?_)) | (show arun _ _ _ _ _ (⟨_, _, _, _, _, some _⟩ :: _) _ _ _; first | refine ar_on ?_ | refine ar_off ?_ | refine ar_off2 ?_ | refine ar_split_t ?_ | refine ar_split_f ?_ | refine ar_split (fun h => ?_) (fun h => ?_)) | (show arun _ _ _ _ _ (⟨none, _, _, _, _, none⟩ :: _) _ _ _; refine ar_n ?_) | (show frun _ _ _ _ _ _ (⟨some _, _, _, _, _, none⟩ :: _) _ _ _; refine fr_s ?_) | (show frun _ _ _ _ _ _ (⟨none, _, _, _, _, none⟩ :: _) _ _ _; refine fr_n ?_) | (show grun _ _ _ _ _ _ _ (⟨some _, _, _, _, _, none⟩ :: _) _ _ _; refine gr_s ?_) | (show grun _ _ _ _ _ _ _ (⟨none, _, _, _, _, none⟩ :: _) _ _ _; refine gr_n ?_) | refine gr_nil ?_ | refine fr_nil ?_ | refine ar_nil ?_ | refine a_seq ?_ | refine a_block ?_ | refine a_region ?_ | refine a_drawn ?_ | refine a_skip ?_ | refine a_exit ?_ | refine a_ret ?_ | (show awp _ _ (.cond _ _ _) _ _ _ _; first | refine a_yes rfl ?_ | refine a_no rfl ?_ | refine a_dec_t ?_ | refine a_dec_f ?_ | refine a_dec rfl (fun h => ?_) (fun h => ?_))
    · rw [if_pos (by assumption)]
      refine ret_tmp (.inr rfl) rfl rfl (pk_bytes rfl rfl rfl ?_ rfl)
      show [[V.int .u8 (IntKind.u8.wrap x)]] = [[V.int .u8 x]]
      rw [wrap8] <;> omega
    · rw [if_neg (by assumption), if_pos (by assumption)]
      refine ret_tmp (.inr rfl) rfl rfl (pk_bytes rfl rfl rfl ?_ rfl)
      rw [e1, d2, wrap32, wrap8, wrap32, wrap8] <;> first | rfl | omega
    · rw [if_neg (by assumption), if_neg (by assumption), if_pos (by assumption)]
      refine ret_tmp (.inr rfl) rfl rfl (pk_bytes rfl rfl rfl ?_ rfl)
      rw [e1, e3, d2, e5]
      show [[V.int .u8 (IntKind.u8.wrap (IntKind.i32.wrap (224 + x / 4096)))], [V.int .u8 (IntKind.u8.wrap (IntKind.i32.wrap (128 + x / 64 % 64)))], [V.int .u8 (IntKind.u8.wrap (IntKind.i32.wrap (128 + x % 64)))]] = [[V.int .u8 (224 + x / 4096)], [V.int .u8 (128 + x / 64 % 64)], [V.int .u8 (128 + x % 64)]]
      rw [wrap32 (z := 224 + x / 4096), wrap32 (z := 128 + x / 64 % 64), wrap32 (z := 128 + x % 64), wrap8 (z := 224 + x / 4096), wrap8 (z := 128 + x / 64 % 64), wrap8 (z := 128 + x % 64)] <;> omega
    · rw [if_neg (by assumption), if_neg (by assumption), if_neg (by assumption)]
      refine ret_tmp (.inr rfl) rfl rfl (pk_bytes rfl rfl rfl ?_ rfl)
      rw [e1, e3, e4, d2, e5, e6]
      show [[V.int .u8 (IntKind.u8.wrap (IntKind.i32.wrap (240 + x / 262144)))], [V.int .u8 (IntKind.u8.wrap (IntKind.i32.wrap (128 + x / 4096 % 64)))], [V.int .u8 (IntKind.u8.wrap (IntKind.i32.wrap (128 + x / 64 % 64)))], [V.int .u8 (IntKind.u8.wrap (IntKind.i32.wrap (128 + x % 64)))]] = [[V.int .u8 (240 + x / 262144)], [V.int .u8 (128 + x / 4096 % 64)], [V.int .u8 (128 + x / 64 % 64)], [V.int .u8 (128 + x % 64)]]
      rw [wrap32 (z := 240 + x / 262144), wrap32 (z := 128 + x / 4096 % 64), wrap32 (z := 128 + x / 64 % 64), wrap32 (z := 128 + x % 64), wrap8 (z := 240 + x / 262144), wrap8 (z := 128 + x / 4096 % 64), wrap8 (z := 128 + x / 64 % 64), wrap8 (z := 128 + x % 64)] <;> omega
  · rw [if_pos hs]
    rw [decide_eq_false hs] at hin
    refine a_pure (n0 := 0) (hN := Tryz.ntmps16) (hf := Tryz.func16) ?_
    refine wk ⟨?_⟩
    refine ar_pure hin ?_
    refine wk ⟨?_⟩
    exact ret_tmp (.inr rfl) rfl rfl .nil
structure SyK where
  k : Nat
  g : Nat
  L : Nat
  w : List Int
theorem lsymbols_v (b : List Int) (hb : byteL b) (hbl : b.length ≤ 1000000) : VPure Tryz.prog 19 [byteR.L b] (runeR.L b) := by
  refine a_pure (n0 := 0) (hN := Tryz.ntmps19) (hf := Tryz.func19) ?_
  refine wk ⟨?_⟩
  refine a_loop (σ := SyK) 1 [0] (fun y => [(3, nrow 0 y.g y.w.length), (4, V.int .i64 (y.k : Int))]) (fun y => [(0, nb 21 1 y.g y.L (y.w.map runeR.cells))]) (fun y => y.L ≤ y.g ∧ y.k ≤ b.length ∧ y.w = b.take y.k) (fun y => b.length - y.k) ⟨0, 0, 0, []⟩ ⟨Nat.le_refl _, Nat.zero_le _, rfl⟩ ?_
  rintro ⟨k, g, L, w⟩ ⟨hLg, hk, hw⟩
  simp only at hLg hk hw
  obtain hx | ⟨x, hx, hlt⟩ := range_cases hk
  · subst k
    rw [List.take_length] at hw
    dsimp only
    refine wk ⟨?_⟩
    exact ret_tmp (.inr rfl) rfl rfl (by rw [← hw]; exact pk_nrow rfl (ble2 hLg) rfl rfl)
  · have hxb := hb x (List.mem_of_getElem? hx)
    have hnext : b.take (k + 1) = w ++ [x] := by rw [take_at hx, ← hw]
    have hwk : w.length = k := by rw [hw, List.length_take]; omega
    have hxw : IntKind.i32.wrap x = x := wrap32_in (by omega) (by omega)
    clear hw
    dsimp only
    refine wk2 (fun h => ⟨?_⟩) (fun h => ⟨?_⟩)
    repeat' first | (show arun _ _ _ _ _ (⟨some _, _, _, _, _, none⟩ :: _) _ _ _; first | refine ar_s ?_ | refine ar_app_n (fun h => ?_) (fun h => ?_) | refine ar_app_nz (fun h => ?_) (fun h => ?_)) | (show arun _ _ _ _ _ (⟨_, _, _, _, _, some _⟩ :: _) _ _ _; first | refine ar_on ?_ | refine ar_off ?_ | refine ar_off2 ?_ | refine ar_split_t ?_ | refine ar_split_f ?_ | refine ar_split (fun h => ?_) (fun h => ?_)) | (show arun _ _ _ _ _ (⟨none, _, _, _, _, none⟩ :: _) _ _ _; refine ar_n ?_) | (show frun _ _ _ _ _ _ (⟨some _, _, _, _, _, none⟩ :: _) _ _ _; refine fr_s ?_) | (show frun _ _ _ _ _ _ (⟨none, _, _, _, _, none⟩ :: _) _ _ _; refine fr_n ?_) | (show grun _ _ _ _ _ _ _ (⟨some _, _, _, _, _, none⟩ :: _) _ _ _; refine gr_s ?_) | (show grun _ _ _ _ _ _ _ (⟨none, _, _, _, _, none⟩ :: _) _ _ _; refine gr_n ?_) | refine gr_nil ?_ | refine fr_nil ?_ | refine ar_nil ?_ | refine a_seq ?_ | refine a_block ?_ | refine a_region ?_ | refine a_drawn ?_ | refine a_skip ?_ | refine a_exit ?_ | refine a_ret ?_ | (show awp _ _ (.cond _ _ _) _ _ _ _; first | refine a_yes rfl ?_ | refine a_no rfl ?_ | refine a_dec_t ?_ | refine a_dec_f ?_ | refine a_dec rfl (fun h => ?_) (fun h => ?_))
    · rw [hxw]
      have hnil : w = [] := by assumption
      subst hnil
      refine a_next (⟨k + 1, 0, 0, [x]⟩ : SyK) ⟨Nat.le_refl _, hlt, hnext.symm⟩ (by simp only; omega) ?_
      refine end1 (CS := []) 2 0 ?_ ?_ rfl (RnX.of_eq rfl) ?_ (hfree := rfl); all_goals repeat' first | exact trivial | refine And.intro ?_ ?_ | exact rn_int rfl | exact rn_list rfl | exact rn_row rfl ⟨rfl, rfl, rfl⟩ | exact rn_ptr rfl | exact rn_bool rfl | exact rn_agg rfl | exact rn_iptr rfl | exact rn_map rfl | exact rn_nrows rfl | exact rn_new rfl rfl rfl (by omega) | refine rn_int ?_ | refine rn_bool ?_ | refine rn_list ?_ | refine rn_row rfl ⟨?_, ?_, ?_⟩ | refine rn_nrow rfl ⟨rfl, ?_⟩ ?_ | refine rn_agg ?_ | exact Exists.intro _ ⟨rfl, RnB.cells (RnX.of_eq rfl), rfl⟩ | exact Exists.intro _ ⟨rfl, RnB.cells (RnX.of_eq (map_snoc rfl)), rfl⟩ | exact Exists.intro _ ⟨rfl, RnB.cells (RnX.of_eq (map_setc rfl)), rfl⟩ | exact Exists.intro _ ⟨rfl, RnB.cells (RnX.of_eq (map_inc rfl)), rfl⟩ | exact Exists.intro _ ⟨rfl, RnB.cells (RnX.of_eq (map_snocs rfl)), rfl⟩ | refine Exists.intro _ ⟨rfl, RnB.cells (RnX.cons (RnC.cons ?_ ?_ RnC.nil) RnX.nil), rfl⟩ | exact Exists.intro _ ⟨rfl, RnB.hole, rfl⟩ | refine Exists.intro _ ⟨rfl, rnm_of ?_, rfl⟩ | exact nrow_one | refine old_nbs ?_ rfl | refine old_nb ?_ ⟨?_, _, rfl, RnB.cells (RnX.of_eq (map_snoc rfl)), rfl⟩ | refine old_nb ?_ ⟨?_, _, rfl, RnB.cells (RnX.of_eq (map_snocs rfl)), rfl⟩ | refine old_nb ?_ ⟨?_, _, rfl, RnB.cells (RnX.of_eq (map_inc rfl)), rfl⟩ | refine old_nb ?_ ⟨?_, _, rfl, RnB.cells (RnX.of_eq rfl), rfl⟩ | rfl | (simp only []; omega) | (simp; done) | (simp; omega) | assumption
    · rw [hxw]
      refine a_next (⟨k + 1, g + 1, L, w ++ [x]⟩ : SyK) ⟨by simp only; omega, hlt, hnext.symm⟩ (by simp only; omega) ?_
      exact wz
theorem repair_guards : ∀ r ∈ repairD.rules, ¬ r.guards.length = 0 := by decide +kernel
theorem repair_awake : outsF repairD [226, 130, 98] 2 = ([[65533, 98]], 0) := by decide +kernel
theorem awake_v : VPure Tryz.prog 17 [] (.bool true) := by
  have h := outs_v repairD [226, 130, 98] 2 repair_guards (by omega)
  rw [repair_awake] at h
  refine a_pure (n0 := 0) (hN := Tryz.ntmps17) (hf := Tryz.func17) ?_
  refine wk ⟨?_⟩
  refine ar_pure repairer_v ?_
  refine wk ⟨?_⟩
  refine ar_take [0] h ?_ (hx := PkL.cons (pk_cells (r := descR) (x := repairD) rfl) (PkL.cons (pk_row (r := runeR) (ys := [226, 130, 98]) rfl rfl rfl rfl rfl) (PkL.cons (pk_same (.int _ _)) PkL.nil)))
  refine wk ⟨?_⟩
  exact ret_tmp (.inr rfl) rfl rfl (pk_bool (by decide))
end Go.Proofs.YtofcjmjokokajaaGreat
namespace Go.Proofs.YtofcjmjokokajaaGreat
open Go.RowKit Go.Proofs Go.Vm Go.Um
set_option maxRecDepth 100000
theorem same_strict : VPure Tryz.prog 10 [.agg (descR.cells strictD), .agg (descR.cells strictD)] (.bool true) := kcall0_ok (nat0_ok _ []) (k := 100000) (by decide +kernel)
theorem same_encode : VPure Tryz.prog 10 [.agg (descR.cells encodeD), .agg (descR.cells encodeD)] (.bool true) := kcall0_ok (nat0_ok _ []) (k := 100000) (by decide +kernel)
end Go.Proofs.YtofcjmjokokajaaGreat
namespace Go.Vm
open Go.RowKit
section
variable {P : Program} {N : Nat} {ops : Array Oper} {m0 : Bool} {K : APost} {l : List Oper} {E : AEnv} {S : ASt} {n : Nat}
theorem ar_lendd {d : Nat} {f : FuncId} {cargs : Array Operand} {ts : Array TypeId} {ty : TypeId} {pos : String} {aft : Array Edge} {args : List V} {v : V} (ids : List Nat) (h : VPure P f args v) (K' : arun P N ops m0 K l ((d, v) :: E) S n)
    (hx : ∀ st2 : Store, (∀ id ∈ ids, st2 id = slk S id) → PkL st2 (cargs.toList.map (aev E)) args) (hi : ∀ id ∈ ids, slk S id ≠ none ∧ ∃ a ∈ cargs.toList.map (aev E), a.tid = some id) (hp : plainFunc P f = true := by kernel_rfl) (hv : v.flat = true := by rfl) :
    arun P N ops m0 K (⟨some d, .call ⟨.value (.func f), cargs, ts⟩, ty, pos, aft, none⟩ :: l) E S n := fun hl => by
  simp only [List.all_cons, Bool.and_eq_true] at hl
  simp only [vrun, vwanted, isCall]
  have ho := operN_ops (E := E) hl.1
  have e2 : cargs.toList.map (veval (toL N E)) = cargs.toList.map (aev E) := List.map_congr_left fun x hx => ho x (by simp [Op.operands, Call.operands]; exact .inr (by simpa using hx))
  refine ⟨(v, [], n), .inl (.call rfl rfl hp (fun st2 hst2 => ?_) (Nat.le_refl _)), Nat.le_refl _, fun p hp => by simp at hp, ?_⟩
  · rw [List.nil_append, List.append_nil, e2]
    have hpk := hx st2 fun id hid => by
      obtain ⟨h1, a, ha, ht⟩ := hi id hid
      obtain ⟨x, hx, rfl⟩ := List.mem_map.1 ha
      have hop : x ∈ (Op.call ⟨.value (.func f), cargs, ts⟩).operands := by simp [Op.operands, Call.operands]; exact .inr (by simpa using hx)
      have hs := hst2 x hop id (by rw [ho x hop]; exact ht)
      rcases hs with q | q
      · exact absurd q h1
      · exact q
    exact h.callp (by simpa using hpk.len) hpk.at hv n
  · simp only [vput, toL_set, upd]
    exact K' hl.2
end
end Go.Vm
