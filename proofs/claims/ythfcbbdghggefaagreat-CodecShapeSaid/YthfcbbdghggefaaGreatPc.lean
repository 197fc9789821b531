/-
   
-/
import Derived.Test.YthfcbbdghggefaaGreatPb
import Derived.Test.YthfcbbdghggefaaGreatPa
namespace Go.Proofs.YthfcbbdghggefaaGreat
open Go.RowKit Go.Um
end Go.Proofs.YthfcbbdghggefaaGreat
namespace Go.Proofs.YthfcbbdghggefaaGreat
open Go.RowKit Go.Um

/-- sole's meet. -/
def meetG : List (List Span) → List (List Span) → Bool
  | x :: a, y :: b => !(meetF x y).isEmpty && meetG a b
  | _, _ => true
theorem meetG_end (a b : List (List Span)) (h : a = [] ∨ b = []) : meetG a b = true := by
  rcases h with rfl | rfl
  · simp [meetG]
  · cases a <;> simp [meetG]

set_option maxHeartbeats 1000000 in
set_option maxRecDepth 100000 in
theorem smeet_calls (a b : List (List Span)) (v u : Value) (w : World) (ha : (listR spansR).rel w (upto w.heap.size) [v] a) (hb : (listR spansR).rel w (upto w.heap.size) [u] b)
    (hla : ∀ g ∈ a, g.length ≤ 1073741824) (hlb : ∀ g ∈ b, g.length ≤ 1073741824) :
    Calls Tryz.prog 117 #[v, u] w fun e w' => e = .returned (.bool (meetG a b)) ∧ Below w.heap.size w w' := by
  obtain ⟨A1, c1, rfl, hc1, hm1⟩ := list_form ha
  obtain ⟨A2, c2, rfl, hc2, hm2⟩ := list_form hb
  unfold maxLen at hm1 hm2
  obtain ⟨m, hm⟩ : ∃ m : Nat, m = min a.length b.length := ⟨_, rfl⟩
  have e1 : min (a.length : Int) (b.length : Int) = m := by omega
  have e2 : (if (b.length : Int) < a.length then (b.length : Int) else a.length) = m := by omega
  have e3 : (if (a.length : Int) < b.length then (a.length : Int) else b.length) = m := by omega
  have hma : m ≤ a.length := by omega
  have hmb : m ≤ b.length := by omega
  have Hm := hid hm; clear hm
  go_enter Tryz.func117, Tryz.ntmps117
  go_wp2_with fail
  clear e1 e2 e3
  go_loopw [11] (fun vi wr => ∃ k : Nat, k ≤ m ∧ vi = .int .i64 k ∧ meetG (a.drop k) (b.drop k) = meetG a b ∧ Below w.heap.size w wr) (fun vi _ => m - (intOf vi).toNat)
  case atStart => exact ⟨0, Nat.zero_le _, rfl, rfl, Below.refl _ _⟩
  case round =>
    obtain ⟨k, hk, rfl, hp, hB⟩ := hrel
    have HP := hid hp; clear hp
    have har := (listR spansR).mono (below_cells hB) (fun _ h => h) ha
    have hbr := (listR spansR).mono (below_cells hB) (fun _ h => h) hb
    by_cases hlt : k < m
    · obtain ⟨x, hx⟩ := at_lt (xs := a) (i := k) (by omega)
      obtain ⟨y, hy⟩ := at_lt (xs := b) (i := k) (by omega)
      obtain ⟨b1, o1, y1, rfl, hb1, hy1, h1⟩ := list_at1 rfl har hx
      obtain ⟨b2, o2, y2, rfl, hb2, hy2, h2⟩ := list_at1 rfl hbr hy
      have hlt' : (k : Int) < m := by omega
      have hka : (k : Int) < a.length := by omega
      have hkb : (k : Int) < b.length := by omega
      have HP2 : Hid ((!(meetF x y).isEmpty && meetG (a.drop (k + 1)) (b.drop (k + 1))) = meetG a b) := hid (by have := HP.out; rw [drop_cons hx, drop_cons hy] at this; exact this)
      have hxl := hla x (List.mem_of_getElem? hx)
      have hyl := hlb y (List.mem_of_getElem? hy)
      have hyw1 : spansR.rel wr.drew (upto wr.drew.heap.size) [y1] x := spansR.mono (fun _ _ => rfl) (fun b hb => Nat.lt_of_lt_of_le hb hB.size) hy1
      have hyw2 : spansR.rel wr.drew (upto wr.drew.heap.size) [y2] y := spansR.mono (fun _ _ => rfl) (fun b hb => Nat.lt_of_lt_of_le hb hB.size) hy2
      have hc := hid (Meets_calls x y y1 y2 wr.drew hyw1 hyw2 hxl hyl)
      have lb1 : b1 < wr.heap.size := Nat.lt_of_lt_of_le hb1 hB.size
      have lb2 : b2 < wr.heap.size := Nat.lt_of_lt_of_le hb2 hB.size
      clear hyw1 hyw2 hy1 hy2 hx hy har hbr HP
      go_wp2_with fail
      obtain ⟨ι, W, ⟨i0, hi0⟩, hW, Wsur⟩ := ext_class wr.drew
      have hne : Nonempty ι := ⟨i0⟩
      have g1 : ∀ i, (W i).cell? ⟨b1, o1 + k, none⟩ = some y1 := fun i => ((hW i).cell lb1).trans h1
      have g2 : ∀ i, (W i).cell? ⟨b2, o2 + k, none⟩ = some y2 := fun i => ((hW i).cell lb2).trans h2
      have WS := hid Wsur; clear Wsur
      have HW := hid hW; clear hW
      have Hi0 := hid hi0; clear hi0
      refine region_anyL (S := fun w' => ∃ i, w' = W i) (last := 10) (by kernel_rfl) ?_
      refine anyL_seg 0 8 (by kernel_rfl) (fun _ _ _ _ _ h => h) ⟨i0, Hi0.out.symm⟩ (f := 2) rfl (by kernel_rfl) (by kernel_rfl) ?_
      simp only [List.drop_zero, List.take_succ_cons, List.take_zero]
      repeat go_big_quiet_step (fail)
      refine wpQuiet_nil ?_
      refine anyL_act (i := 8) (by kernel_rfl) rfl rfl ?_
      intro K hK
      go_wp2_with fail
      refine hc.out.mono ?_
      rintro e w3 ⟨rfl, hB3⟩
      go_wp2_with fail
      have hS3 := WS.out i0 w3 (by rw [Hi0.out]; exact hB3)
      refine hK.out _ _ (fun _ => hS3) ?_
      clear hK K
      have hBB : Below w.heap.size w w3 := hB.trans (RowKit.Below.mono (w := wr) ⟨hB3.os, hB3.tape, hB3.output, hB3.size, hB3.block⟩ hB.size)
      refine anyL_act (i := 9) (by kernel_rfl) rfl rfl ?_
      intro K hK
      go_wp2_with fail
      refine hK.out _ _ (fun _ => hS3) ?_
      clear hK K
      refine anyL_done (by kernel_rfl) ?_ _
      clear hS3 g1 g2 WS HW Hi0 hne i0 W ι
      cases hmf : (meetF x y).isEmpty with
      | true =>
        have hF : Hid (false = meetG a b) := hid (by have := HP2.out; rw [hmf] at this; exact this)
        clear hmf
        go_wp2_with fail
        go_ret
        exact ⟨by rw [← hF.out]; rfl, hBB⟩
      | false =>
        have hF : Hid (meetG (a.drop (k + 1)) (b.drop (k + 1)) = meetG a b) := hid (by have := HP2.out; rw [hmf] at this; exact this)
        clear hmf
        go_wp2_with fail
        refine ⟨⟨k + 1, by omega, by go_num, hF.out, hBB⟩, ?_⟩
        simp [intOf]; omega
    · have hke : k = m := by omega
      subst hke
      have hF : Hid (true = meetG a b) := hid (by have := HP.out; rw [meetG_end _ _ (by have := Hm.out; simp; omega)] at this; exact this)
      clear HP har hbr
      go_wp2_with fail
      go_ret
      exact ⟨by rw [← hF.out]; rfl, hB⟩

structure Opt where
  src : Int
  guards : List (List Span)
  fin : Bool
def clashF (a b : Opt) : Bool := if a.src ≠ b.src then false else if a.fin = true ∧ a.guards.length ≠ b.guards.length then false else if a.fin = false ∧ b.fin = true ∧ b.guards.length < a.guards.length then false else meetG a.guards b.guards

set_option maxHeartbeats 1000000 in
theorem clash_calls (a b : Opt) (v u : Value) (w : World) (ha : (listR spansR).rel w (upto w.heap.size) [v] a.guards) (hb : (listR spansR).rel w (upto w.heap.size) [u] b.guards)
    (hla : ∀ g ∈ a.guards, g.length ≤ 1073741824) (hlb : ∀ g ∈ b.guards, g.length ≤ 1073741824) :
    Calls Tryz.prog 98 #[.agg #[.int .i64 a.src, v, .bool a.fin], .agg #[.int .i64 b.src, u, .bool b.fin]] w fun e w' => e = .returned (.bool (clashF a b)) ∧ Below w.heap.size w w' := by
  obtain ⟨A1, c1, rfl, hc1, hm1⟩ := list_form ha
  obtain ⟨A2, c2, rfl, hc2, hm2⟩ := list_form hb
  unfold maxLen at hm1 hm2
  have HM : Hid (∀ W, Below w.heap.size w W → Calls Tryz.prog 117 #[.slice A1 a.guards.length c1, .slice A2 b.guards.length c2] W fun e w' => e = .returned (.bool (meetG a.guards b.guards)) ∧ Below W.heap.size W w') :=
    hid fun W hW => smeet_calls _ _ _ _ W ((listR spansR).below ha hW hW.size) ((listR spansR).below hb hW hW.size) hla hlb
  clear ha hb hla hlb
  obtain ⟨s1, G1, f1⟩ := a
  obtain ⟨s2, G2, f2⟩ := b
  simp only at *
  have hB : ∀ o1 o2, Below w.heap.size w ((w.alloc o1).alloc o2) := fun o1 o2 => ((Below.refl _ _).alloc (Nat.le_refl _) _).alloc (by simp) _
  by_cases hs : s1 = s2
  · subst hs
    cases f1 with
    | true =>
      by_cases hl : G1.length = G2.length
      · have hl1 : ((G1.length : Int) == G2.length) = true := by simp; exact_mod_cast hl
        have hl2 : ((G1.length : Int) != G2.length) = false := by simp; exact_mod_cast hl
        have HL := hid hl; clear hl
        cases f2 with
        | true =>
          have hF : Hid (meetG G1 G2 = clashF ⟨s1, G1, true⟩ ⟨s1, G2, true⟩) := hid (by simp [clashF, HL.out])
          go_enter Tryz.func98, Tryz.ntmps98
          go_wp2_with fail
          refine (HM.out _ (hB _ _)).mono ?_
          rintro e w1 ⟨rfl, hB1⟩
          go_wp2_with fail
          go_ret
          exact ⟨by rw [← hF.out]; rfl, (hB _ _).trans (hB1.mono (hB _ _).size)⟩
        | false =>
          have hF : Hid (meetG G1 G2 = clashF ⟨s1, G1, true⟩ ⟨s1, G2, false⟩) := hid (by simp [clashF, HL.out])
          go_enter Tryz.func98, Tryz.ntmps98
          go_wp2_with fail
          refine (HM.out _ (hB _ _)).mono ?_
          rintro e w1 ⟨rfl, hB1⟩
          go_wp2_with fail
          go_ret
          exact ⟨by rw [← hF.out]; rfl, (hB _ _).trans (hB1.mono (hB _ _).size)⟩
      · have hl1 : ((G1.length : Int) == G2.length) = false := by simp; exact_mod_cast hl
        have hl2 : ((G1.length : Int) != G2.length) = true := by simp; exact_mod_cast hl
        have HL := hid hl; clear hl
        cases f2 with
        | true =>
          have hF : Hid (false = clashF ⟨s1, G1, true⟩ ⟨s1, G2, true⟩) := hid (by simp [clashF, HL.out])
          go_enter Tryz.func98, Tryz.ntmps98
          go_wp2_with fail
          go_ret
          exact ⟨by rw [← hF.out]; rfl, hB _ _⟩
        | false =>
          have hF : Hid (false = clashF ⟨s1, G1, true⟩ ⟨s1, G2, false⟩) := hid (by simp [clashF, HL.out])
          go_enter Tryz.func98, Tryz.ntmps98
          go_wp2_with fail
          go_ret
          exact ⟨by rw [← hF.out]; rfl, hB _ _⟩
    | false =>
      cases f2 with
      | true =>
        by_cases hl : G2.length < G1.length
        · have hl1 : (G2.length : Int) < G1.length := by omega
          have hF : Hid (false = clashF ⟨s1, G1, false⟩ ⟨s1, G2, true⟩) := hid (by simp [clashF, hl])
          go_enter Tryz.func98, Tryz.ntmps98
          go_wp2_with fail
          go_ret
          exact ⟨by rw [← hF.out]; rfl, hB _ _⟩
        · have hl1 : ¬ (G2.length : Int) < G1.length := by omega
          have hF : Hid (meetG G1 G2 = clashF ⟨s1, G1, false⟩ ⟨s1, G2, true⟩) := hid (by simp [clashF, hl])
          go_enter Tryz.func98, Tryz.ntmps98
          go_wp2_with fail
          refine (HM.out _ (hB _ _)).mono ?_
          rintro e w1 ⟨rfl, hB1⟩
          go_wp2_with fail
          go_ret
          exact ⟨by rw [← hF.out]; rfl, (hB _ _).trans (hB1.mono (hB _ _).size)⟩
      | false =>
        have hF : Hid (meetG G1 G2 = clashF ⟨s1, G1, false⟩ ⟨s1, G2, false⟩) := hid (by simp [clashF])
        go_enter Tryz.func98, Tryz.ntmps98
        go_wp2_with fail
        refine (HM.out _ (hB _ _)).mono ?_
        rintro e w1 ⟨rfl, hB1⟩
        go_wp2_with fail
        go_ret
        exact ⟨by rw [← hF.out]; rfl, (hB _ _).trans (hB1.mono (hB _ _).size)⟩
  · have h1 : (s1 == s2) = false := by simpa using hs
    have h2 : (s1 != s2) = true := by simpa using hs
    have HS := hid hs; clear hs
    cases f1 <;> cases f2
    · have hF : Hid (false = clashF ⟨s1, G1, false⟩ ⟨s2, G2, false⟩) := hid (by simp [clashF, HS.out])
      go_enter Tryz.func98, Tryz.ntmps98
      go_wp2_with fail
      go_ret
      exact ⟨by rw [← hF.out]; rfl, hB _ _⟩
    · have hF : Hid (false = clashF ⟨s1, G1, false⟩ ⟨s2, G2, true⟩) := hid (by simp [clashF, HS.out])
      go_enter Tryz.func98, Tryz.ntmps98
      go_wp2_with fail
      go_ret
      exact ⟨by rw [← hF.out]; rfl, hB _ _⟩
    · have hF : Hid (false = clashF ⟨s1, G1, true⟩ ⟨s2, G2, false⟩) := hid (by simp [clashF, HS.out])
      go_enter Tryz.func98, Tryz.ntmps98
      go_wp2_with fail
      go_ret
      exact ⟨by rw [← hF.out]; rfl, hB _ _⟩
    · have hF : Hid (false = clashF ⟨s1, G1, true⟩ ⟨s2, G2, true⟩) := hid (by simp [clashF, HS.out])
      go_enter Tryz.func98, Tryz.ntmps98
      go_wp2_with fail
      go_ret
      exact ⟨by rw [← hF.out]; rfl, hB _ _⟩
end Go.Proofs.YthfcbbdghggefaaGreat
namespace Go.Proofs.YthfcbbdghggefaaGreat
open Go.RowKit Go.Um

theorem info50 : (Tryz.prog.info? 143).map (fun i => (i.zero, i.size, i.bytes)) = some (some (.agg #[.int .i64 0, .slice none 0 0, .bool false]), 3, 40) := by kernel_rfl
theorem info3 : (Tryz.prog.info? 3).map (fun i => (i.zero, i.size, i.bytes)) = some (some (.int .i64 0), 1, 8) := by kernel_rfl
theorem zero51 (w : World) : (zeroValue 73).run Tryz.prog w = .ok (.slice none 0 0) w := by kernel_rfl
theorem mlaw : Maps.Keyed Tryz.prog 3 := Maps.int_keyed Tryz.underlying3

/-- an option and the slice in which its guards lie. -/
structure OptV where
  val : Value
  opt : Opt
def OptV.cells (x : OptV) : List Value := [.int .i64 x.opt.src, x.val, .bool x.opt.fin]
def OwnO (w : World) (base : Nat) (v : Value) (xs : List OptV) : Prop := w.ownsRow base 143 3 v xs.length (xs.flatMap OptV.cells)
def okO (w : World) (x : OptV) : Prop := (listR spansR).rel w (upto w.heap.size) [x.val] x.opt.guards ∧ I64 x.opt.src
theorem OwnO.push {w : World} {base : Nat} {v : Value} {xs : List OptV} {x : OptV} (h : w.ownsRow base 143 3 v (xs.length + 1) (xs.flatMap OptV.cells ++ x.cells)) : OwnO w base v (xs ++ [x]) := by
  unfold OwnO; simpa [OptV.cells] using h

theorem heap_two (w : World) (o1 o2 : Obj) : ((w.alloc o1).alloc o2).heap[w.heap.size + 1]? = some o2 := by
  have := (MapKept.heap_alloc (w.alloc o1) o2).1
  simpa using this
theorem take_snoc {α : Type} {l : List α} {k : Nat} {x : α} (h : l[k]? = some x) : l.take (k + 1) = l.take k ++ [x] := by
  rw [List.take_add_one, h]; rfl
def optVR : RepOf OptV where
  width := 3
  rel _ _ cs x := cs = x.cells
  len := by rintro _ _ _ _ rfl; rfl
  mono := fun _ _ h => h
theorem OwnO.rel {w : World} {base : Nat} {v : Value} {xs : List OptV} (h : OwnO w base v xs) : (listR optVR).rel w (fun g => base ≤ g ∧ g < w.heap.size) [v] xs :=
  own_list (r := optVR) (enc := OptV.cells) h (fun g hg => World.ownsRow.lt h g hg) fun _ _ => ⟨rfl, rfl⟩
theorem optV_at {w : World} {S : Nat → Prop} {A : Option Addr} {n cap : Nat} {xs : List OptV} {x : OptV} {i : Nat} (h : (listR optVR).rel w S [.slice A n cap] xs) (hx : xs[i]? = some x) :
    ∃ b o, A = some ⟨b, o, none⟩ ∧ S b ∧ w.cell? ⟨b, o + i * 3, none⟩ = some (.int .i64 x.opt.src) ∧ w.cell? ⟨b, o + i * 3 + 1, none⟩ = some x.val ∧ w.cell? ⟨b, o + i * 3 + 2, none⟩ = some (.bool x.opt.fin) := by
  obtain ⟨b, o, ds, h1, h2, rfl, h7⟩ := list_at h hx
  exact ⟨b, o, h1, h2, h7 0 _ rfl, h7 1 _ rfl, h7 2 _ rfl⟩
/-- the numbers of the options that begin at a state, of the first so many. -/
def idxO (os : List Opt) (k : Nat) (s : Int) : List Int := ((List.range k).filter (fun i => (os[i]?.map Opt.src) == some s)).map (fun i : Nat => (i : Int))
theorem idxO_step {os : List Opt} {k : Nat} {x : Opt} (h : os[k]? = some x) : idxO os (k + 1) = fun r => if r = x.src then idxO os k x.src ++ [(k : Int)] else idxO os k r := by
  funext r
  unfold idxO
  rw [List.range_succ, List.filter_append, List.map_append]
  by_cases hr : r = x.src
  · subst hr; simp [h]
  · have : ¬ x.src = r := fun h => hr h.symm
    simp [h, hr, this]
theorem idxO_length (os : List Opt) (k : Nat) (s : Int) : (idxO os k s).length ≤ k := by
  unfold idxO
  rw [List.length_map]
  exact Nat.le_trans (List.length_filter_le _ _) (by simp)
theorem own_ne {w : World} {base : Nat} {e e' : TypeId} {size n g : Nat} {v : Value} {xs : List Value} {cs : Array Value} {fr : Nat × Nat} (h : w.ownsRow base e size v n xs) (hg : w.heap[g]? = some (.cells cs e' fr)) (hne : e' ≠ e) : v.ownBlock ≠ some g := by
  rcases h.2 with ⟨rfl, _⟩ | ⟨g', cap, cur, rfl, hb, hh, _⟩
  · simp [Value.ownBlock]
  · intro h1
    simp [Value.ownBlock] at h1
    subst h1
    rw [hg] at hh
    simp at hh
    exact hne hh.2.1
theorem grown_chain {w3 wr wa w1 w2 : World} {bm : Nat} {row : Option Nat} (h1 : w3.grownBy wr (some bm)) (h2 : wr.grownBy wa none) (h3 : wa.grownBy w1 row) (hrow : ∀ j, row = some j → w3.heap.size ≤ j) (h4 : w1.grownBy w2 (some bm)) : w3.grownBy w2 (some bm) := by
  refine ⟨h4.os.trans (h3.os.trans (h2.os.trans h1.os)), h4.tape.trans (h3.tape.trans (h2.tape.trans h1.tape)), h4.output.trans (h3.output.trans (h2.output.trans h1.output)), Nat.le_trans h1.size (Nat.le_trans h2.size (Nat.le_trans h3.size h4.size)), fun j hj hne => ?_⟩
  have s1 := h1.size
  have s2 := h2.size
  have s3 := h3.size
  rw [h4.block j (by omega) hne, h3.block j (by omega) (fun h => by have := hrow j h.symm; omega), h2.block j (by omega) (by simp), h1.block j hj hne]
theorem grown_two (w : World) (o1 o2 : Obj) : w.grownBy ((w.alloc o1).alloc o2).drew none :=
  (World.grownBy_alloc w o1 none).trans ((World.grownBy_alloc _ o2 none).trans (grown_drew _))
theorem anyL_actG {P : Program} {md : Region.Mode} {ops : Array Oper} {Q : Exit → Act → World → Prop} {S : World → Prop} {last : Nat} {i f : Nat} {o : Oper} {listed : Array Bool} {a : Act} {w : World} (hr : Region.ready md ops listed = [i]) (ho : ops[i]? = some o) (hg : Region.wanted o (yielded ops a.tmps) = true)
    (h : ∀ K : Act → World → Prop, Hid (∀ a' w', (i ≠ last → S w') → anyL P md ops Q S last f (listed.setIfInBounds i true) a' w' → K a' w') → o.wp P a w K Q) : anyL P md ops Q S last (f + 1) listed a w := by
  refine ⟨fun h0 => (by rw [hr] at h0; cases h0), fun j hj => ?_⟩
  rw [hr] at hj
  obtain rfl : j = i := by simpa using hj
  unfold wpOp
  simp only [ho]
  rw [if_pos hg]
  exact .inl (h _ (fun a' w' h1 h2 => ⟨h1, h2⟩))
theorem anyL_skip {P : Program} {md : Region.Mode} {ops : Array Oper} {Q : Exit → Act → World → Prop} {S : World → Prop} {last : Nat} {i f : Nat} {o : Oper} {listed : Array Bool} {a : Act} {w : World} (hr : Region.ready md ops listed = [i]) (ho : ops[i]? = some o) (hg : Region.wanted o (yielded ops a.tmps) = false) (hS : S w)
    (h : anyL P md ops Q S last f (listed.setIfInBounds i true) (a.put o.dst undef) w) : anyL P md ops Q S last (f + 1) listed a w := by
  refine ⟨fun h0 => (by rw [hr] at h0; cases h0), fun j hj => ?_⟩
  rw [hr] at hj
  obtain rfl : j = i := by simpa using hj
  unfold wpOp
  simp only [ho]
  rw [if_neg (by simp [hg])]
  exact ⟨fun _ => hS, h⟩
def pairF (os : List Opt) (i : Nat) (o : Opt) (k : Int) : Bool := decide ((i : Int) < k) && (match os[k.toNat]? with | some p => clashF o p | none => false)
def innerS (os : List Opt) (i : Nat) (o : Opt) : List Int → Option Int
  | [] => none
  | k :: ks => if pairF os i o k then some k else innerS os i o ks
def outerS (os : List Opt) (i : Nat) : List Opt → Option (Int × Int)
  | [] => none
  | o :: r => match innerS os i o (idxO os os.length o.src) with
    | some k => some (i, k)
    | none => outerS os (i + 1) r
def clashS (os : List Opt) : Value := match outerS os 0 os with
  | some (i, k) => .tuple #[.int .i64 i, .int .i64 k, .bool true]
  | none => .tuple #[.int .i64 0, .int .i64 0, .bool false]
theorem intsR {w : World} {base : Nat} {v : Value} {zs : List Int} (h : w.ownsInts base 3 .i64 v zs) : (listR intR).rel w (upto w.heap.size) [v] zs := by
  have hz : ∀ z ∈ zs, I64 z := fun z hz => by
    have := h.2 z hz
    simp [Lit.wf] at this
    exact ⟨this.1, this.2⟩
  have h1 := h.1
  have e : zs.map (Value.int .i64) = zs.flatMap (fun z => [Value.int .i64 z]) := by
    clear h hz h1
    induction zs with
    | nil => rfl
    | cons z zs ih => simp [ih]
  rw [e] at h1
  exact own_list (r := intR) (enc := fun z => [Value.int .i64 z]) h1 (fun g hg => (World.ownsRow.lt h1 g hg).2) fun x hx => ⟨rfl, rfl, hz x hx⟩
theorem mem_idxO {os : List Opt} {k : Nat} {s z : Int} (h : z ∈ idxO os k s) : ∃ i : Nat, z = i ∧ i < os.length := by
  unfold idxO at h
  simp only [List.mem_map, List.mem_filter, List.mem_range] at h
  obtain ⟨i, ⟨_, h2⟩, rfl⟩ := h
  refine ⟨i, rfl, ?_⟩
  rcases Nat.lt_or_ge i os.length with h3 | h3
  · exact h3
  · rw [List.getElem?_eq_none h3] at h2; simp at h2
def ruleOpt (r : Rule) : Opt := ⟨r.src, r.guards, false⟩
def finalOpt (r : Final) : Opt := ⟨r.src, r.guards, true⟩
def optsD (d : Desc) : List Opt := d.rules.map ruleOpt ++ d.finals.map finalOpt

set_option maxHeartbeats 2000000 in
set_option maxRecDepth 100000 in
theorem Clash_calls (d : Desc) (v u : Value) (w : World) (hv : (listR ruleR).rel w (upto w.heap.size) [v] d.rules) (hu : (listR finalR).rel w (upto w.heap.size) [u] d.finals) (a1 a2 a3 a4 : Int)
    (hl1 : d.rules.length ≤ 1000000) (hl2 : d.finals.length ≤ 1000000) (hgl : ∀ o ∈ optsD d, ∀ g ∈ o.guards, g.length ≤ 1073741824) :
    Calls Tryz.prog 75 #[.agg #[.int .i64 a1, .int .i64 a2, .int .i64 a3, .int .i64 a4, v, u]] w fun e w' => e = .returned (clashS (optsD d)) ∧ Below w.heap.size w w' := by
  have hmm := @run_makeMap Tryz.prog
  obtain ⟨inf, hi0, hz0, hz1, hz2⟩ := info_parts info50
  obtain ⟨A1, c1, rfl, hc1, hm1⟩ := list_form hv
  obtain ⟨A2, c2, rfl, hc2, hm2⟩ := list_form hu
  unfold maxLen at hm1 hm2
  have HGL := hid hgl; clear hgl
  go_enter Tryz.func75, Tryz.ntmps75
  go_wp2_with fail
  go_loopw [5, 21] (fun vl vi wr => ∃ (k : Nat) (xs : List OptV), k ≤ d.rules.length ∧ vi = .int .i64 k ∧ xs.length = k ∧ xs.map OptV.opt = (d.rules.take k).map ruleOpt ∧ (∀ x ∈ xs, okO w x) ∧ OwnO wr (w.heap.size + 2) vl xs ∧
      Below w.heap.size w wr ∧ w.heap.size + 2 ≤ wr.heap.size ∧ wr.heap[w.heap.size + 1]? = some (.map #[] 0) ∧ wr.cell? ⟨w.heap.size, 5, none⟩ = some (.slice A2 d.finals.length c2)) (fun _ vi _ => d.rules.length - (intOf vi).toNat)
  case atStart =>
    refine ⟨0, [], Nat.zero_le _, rfl, rfl, rfl, by simp, World.ownsRow_nil _ _ _ _, ?_, ?_, ?_, ?_⟩
    · exact ((Below.refl _ _).alloc (Nat.le_refl _) _).alloc (by simp) _
    · simp
    · exact heap_two _ _ _
    · go_simp
  case round =>
    obtain ⟨k, xs, hk, rfl, hxl, hxm, hxo, ho, hB, hsz, hmp, hcf⟩ := hrel
    have HX := hid hxm; clear hxm
    have HXO := hid hxo; clear hxo
    have hr := (listR ruleR).mono (below_cells hB) (fun _ h => h) hv
    by_cases hlt : k < d.rules.length
    · obtain ⟨x, hx⟩ := at_lt hlt
      obtain ⟨b, o, y, z, rfl, hb, q1, q2, q3, q4, q5, ⟨q6, _, _⟩, hy, hz⟩ := rule_at hr hx
      obtain ⟨A3, c3, rfl, _, _⟩ := list_form hy
      obtain ⟨A4, c4, rfl, _, _⟩ := list_form hz
      have hlt' : (k : Int) < d.rules.length := by omega
      have hyw : okO w ⟨.slice A3 x.guards.length c3, ruleOpt x⟩ := ⟨(listR spansR).mono (fun p hp => (hB.cell hp).symm) (fun _ h => h) hy, q6⟩
      have HY := hid hyw
      have HM2 : Hid ((xs ++ [(⟨.slice A3 x.guards.length c3, ruleOpt x⟩ : OptV)]).map OptV.opt = (d.rules.take (k + 1)).map ruleOpt) := hid (by rw [List.map_append, HX.out, take_snoc hx]; simp)
      clear hx hr hy hz hyw
      go_wp2_with (at_builtin; refine Hid.out ?_)
      refine hid ?_
      refine wpList_append_own _ rfl _ _ 140 rfl (w.heap.size + 2) 143 inf _ 3 40 Tryz.underlying140 hi0 hz0 hz1 hz2 rfl (by decide) _ _ _ rfl ((ho.alloc _).alloc _) ⟨wr.heap.size + 1, 0, none⟩ 1 1 [.int .i64 x.src, .slice A3 x.guards.length c3, .bool false] rfl rfl
        (news_at (w := wr.alloc _) (cs := #[_, _, _]) (by simp)) (by simp [Value.oneCell']) (by unfold maxLen; omega) (by omega) (by simp; omega) ?_
      intro v' w3 hown3 hg3 hn3
      have hB3 : Below (w.heap.size + 2) wr w3 := (((Below.refl _ wr).alloc hsz _).alloc (by simp; omega) _).trans (below_grown ((ho.alloc _).alloc _) hg3 (Nat.le_refl _) (by simp; omega))
      have ho3 : OwnO w3 (w.heap.size + 2) v' (xs ++ [⟨.slice A3 x.guards.length c3, ruleOpt x⟩]) := OwnO.push hown3
      have hmp3 : w3.heap[w.heap.size + 1]? = some (.map #[] 0) := (hB3.block _ (by omega)).trans hmp
      have hcf3 : w3.cell? ⟨w.heap.size, 5, none⟩ = some (.slice A2 d.finals.length c2) := (hB3.cell (by simp)).trans hcf
      have hsz3 : w.heap.size + 2 ≤ w3.heap.size := Nat.le_trans hsz hB3.size
      clear hown3 hg3 hn3
      go_wp2_with fail
      refine ⟨⟨k + 1, xs ++ [⟨.slice A3 x.guards.length c3, ruleOpt x⟩], by omega, by go_num, by simp; omega, HM2.out, ?_, ho3, hB.trans (hB3.mono (by omega)), hsz3, hmp3, hcf3⟩, ?_⟩
      · intro y hy
        rcases List.mem_append.1 hy with hy | hy
        · exact HXO.out y hy
        · simp at hy; subst hy; exact HY.out
      · simp [intOf]; omega
    · have hke : k = d.rules.length := by omega
      have HX2 : Hid (xs.map OptV.opt = d.rules.map ruleOpt) := hid (by rw [HX.out, hke, List.take_length])
      clear HX hr
      subst hke
      go_wp2_with fail
      go_loopw [5, 37] (fun vl vi wr => ∃ (k : Nat) (ys : List OptV), k ≤ d.finals.length ∧ vi = .int .i64 k ∧ ys.length = d.rules.length + k ∧ ys.map OptV.opt = d.rules.map ruleOpt ++ (d.finals.take k).map finalOpt ∧ (∀ x ∈ ys, okO w x) ∧ OwnO wr (w.heap.size + 2) vl ys ∧
          Below w.heap.size w wr ∧ w.heap.size + 2 ≤ wr.heap.size ∧ wr.heap[w.heap.size + 1]? = some (.map #[] 0)) (fun _ vi _ => d.finals.length - (intOf vi).toNat)
      case atStart => exact ⟨0, xs, Nat.zero_le _, rfl, by omega, by simpa using HX2.out, HXO.out, ho, hB, hsz, hmp⟩
      case round =>
        clear HX2 HXO ho hB hsz hmp hxl
        obtain ⟨k, xs, hk, rfl, hxl, hxm, hxo, ho, hB, hsz, hmp⟩ := hrel
        have HX := hid hxm; clear hxm
        have HXO := hid hxo; clear hxo
        have HL := hid hxl
        have hxl2 : xs.length ≤ 2000000 := by omega
        clear hxl
        have hr := (listR finalR).mono (below_cells hB) (fun _ h => h) hu
        by_cases hlt : k < d.finals.length
        · obtain ⟨x, hx⟩ := at_lt hlt
          obtain ⟨b, o, y, z, rfl, hb, q1, q2, q3, q6, hy, hz⟩ := final_at hr hx
          obtain ⟨A3, c3, rfl, _, _⟩ := list_form hy
          obtain ⟨A4, c4, rfl, _, _⟩ := list_form hz
          have hlt' : (k : Int) < d.finals.length := by omega
          have hyw : okO w ⟨.slice A3 x.guards.length c3, finalOpt x⟩ := ⟨(listR spansR).mono (fun p hp => (hB.cell hp).symm) (fun _ h => h) hy, q6⟩
          have HY := hid hyw
          have HM2 : Hid ((xs ++ [(⟨.slice A3 x.guards.length c3, finalOpt x⟩ : OptV)]).map OptV.opt = d.rules.map ruleOpt ++ (d.finals.take (k + 1)).map finalOpt) := hid (by rw [List.map_append, HX.out, take_snoc hx]; simp)
          clear hx hr hy hz hyw
          go_wp2_with (at_builtin; refine Hid.out ?_)
          refine hid ?_
          refine wpList_append_own _ rfl _ _ 140 rfl (w.heap.size + 2) 143 inf _ 3 40 Tryz.underlying140 hi0 hz0 hz1 hz2 rfl (by decide) _ _ _ rfl ((ho.alloc _).alloc _) ⟨wr.heap.size + 1, 0, none⟩ 1 1 [.int .i64 x.src, .slice A3 x.guards.length c3, .bool true] rfl rfl
            (news_at (w := wr.alloc _) (cs := #[_, _, _]) (by simp)) (by simp [Value.oneCell']) (by unfold maxLen; omega) (by omega) (by simp; omega) ?_
          intro v' w3 hown3 hg3 hn3
          have hB3 : Below (w.heap.size + 2) wr w3 := (((Below.refl _ wr).alloc hsz _).alloc (by simp; omega) _).trans (below_grown ((ho.alloc _).alloc _) hg3 (Nat.le_refl _) (by simp; omega))
          have ho3 : OwnO w3 (w.heap.size + 2) v' (xs ++ [⟨.slice A3 x.guards.length c3, finalOpt x⟩]) := OwnO.push hown3
          have hmp3 : w3.heap[w.heap.size + 1]? = some (.map #[] 0) := (hB3.block _ (by omega)).trans hmp
          have hsz3 : w.heap.size + 2 ≤ w3.heap.size := Nat.le_trans hsz hB3.size
          clear hown3 hg3 hn3
          go_wp2_with fail
          refine ⟨⟨k + 1, xs ++ [⟨.slice A3 x.guards.length c3, finalOpt x⟩], by omega, by go_num, by have := HL.out; simp; omega, HM2.out, ?_, ho3, hB.trans (hB3.mono (by omega)), hsz3, hmp3⟩, ?_⟩
          · intro y hy
            rcases List.mem_append.1 hy with hy | hy
            · exact HXO.out y hy
            · simp at hy; subst hy; exact HY.out
          · simp [intOf]; omega
        · have hke : k = d.finals.length := by omega
          have HX2 : Hid (xs.map OptV.opt = optsD d) := hid (by rw [HX.out, hke, List.take_length]; rfl)
          subst hke
          clear HX hr hlt hu hv
          obtain ⟨n, hn⟩ : ∃ n : Nat, n = xs.length := ⟨_, rfl⟩
          obtain ⟨w3, hw3⟩ : ∃ w3, w3 = wr := ⟨_, rfl⟩
          subst hw3
          have hrow := ho.rel
          obtain ⟨A5, c5, rfl, hc5, hm5⟩ := list_form hrow
          unfold maxLen at hm5
          have hbb : w.heap.size + 1 < w3.heap.size := by omega
          have hxn : xs.length ≤ 2000000 := hxl2
          have hown := hid ho
          clear ho
          obtain ⟨inf3, hi3, hy0, hy1, hy2⟩ := info_parts info3
          go_wp2_with fail
          go_loopw [52] (fun vi wr => ∃ k : Nat, k ≤ xs.length ∧ vi = .int .i64 k ∧ GMap Tryz.prog wr 3 w3.heap.size 3 (w.heap.size + 1) k (idxO (optsD d) k) ∧ w3.grownBy wr (some (w.heap.size + 1))) (fun vi _ => xs.length - (intOf vi).toNat)
          case atStart => exact ⟨0, Nat.zero_le _, rfl, GMap.made hmp hbb, ⟨rfl, rfl, rfl, Nat.le_refl _, fun _ _ _ => rfl⟩⟩
          case round =>
            obtain ⟨k, hk, rfl, hgm, hG⟩ := hrel
            by_cases hlt : k < xs.length
            · obtain ⟨⟨xv, sx, gx, fx⟩, hx⟩ := at_lt hlt
              have hox : (optsD d)[k]? = some ⟨sx, gx, fx⟩ := by rw [← HX2.out, List.getElem?_map, hx]; rfl
              obtain ⟨b, o, rfl, ⟨hb1, hb2⟩, q1, q2, q3⟩ := optV_at hrow hx
              obtain ⟨hy, hs⟩ := HXO.out _ (List.mem_of_getElem? hx)
              dsimp only at q1 q2 q3 hs hy
              obtain ⟨A3, c3, rfl, _, _⟩ := list_form hy
              have hbm : some b ≠ some (w.heap.size + 1) := by simp; omega
              have hst := idxO_step hox
              replace q1 := (World.cell?_of_block (a := ⟨b, o + k * 3, none⟩) (hG.block b hb2 hbm)).trans q1
              replace q2 := (World.cell?_of_block (a := ⟨b, o + k * 3 + 1, none⟩) (hG.block b hb2 hbm)).trans q2
              replace q3 := (World.cell?_of_block (a := ⟨b, o + k * 3 + 2, none⟩) (hG.block b hb2 hbm)).trans q3
              have hlt' : (k : Int) < xs.length := by omega
              have hkey : keyOf Tryz.prog 3 (.int .i64 sx) = some (.int .i64 sx) := Go.Maps.keyOf_int_mk Tryz.underlying3 (WalkArith.wf_i64 hs)
              have HG := hid hG
              have HGM := hid hgm
              have HST := hid hst
              have HKY := hid hkey
              clear hG hgm hst hkey hx hox hy
              have hgB := (HGM.out.alloc (.cells #[.int .i64 sx, .slice A3 gx.length c3, .bool fx] 143)).drew
              have HGB := hid hgB
              clear hgB
              go_wp2_with fail
              obtain ⟨ι, W, ⟨i0, hi0⟩, hW, Wsur⟩ := held_class (wr.alloc (.cells #[.int .i64 sx, .slice A3 gx.length c3, .bool fx] 143)).drew (fun g => g = wr.heap.size)
              have hne : Nonempty ι := ⟨i0⟩
              have g1 : ∀ i, (W i).cell? ⟨wr.heap.size, 0, none⟩ = some (.int .i64 sx) := fun i => (World.cell?_of_block (a := ⟨wr.heap.size, 0, none⟩) (hW i _ rfl)).trans (by go_simp)
              have WS := hid Wsur; clear Wsur
              have HW := hid hW; clear hW
              have Hi0 := hid hi0; clear hi0
              refine region_anyL (S := fun w' => ∃ i, w' = W i) (last := 11) (by kernel_rfl) ?_
              refine anyL_seg 0 6 (by kernel_rfl) (fun _ _ _ _ _ h => h) ⟨i0, Hi0.out.symm⟩ (f := 5) rfl (by kernel_rfl) (by kernel_rfl) ?_
              simp only [List.drop_zero, List.take_succ_cons, List.take_zero]
              repeat go_big_quiet_step (fail)
              refine wpQuiet_nil ?_
              refine anyL_seg 7 1 (by kernel_rfl) (fun _ _ _ _ _ h => h) ⟨i0, Hi0.out.symm⟩ (f := 4) rfl (by kernel_rfl) (by kernel_rfl) ?_
              simp only [List.drop_succ_cons, List.drop_zero, List.take_succ_cons, List.take_zero]
              repeat go_big_quiet_step (fail)
              refine wpQuiet_nil ?_
              refine anyL_two (i := 6) (j := 8) (by kernel_rfl) rfl rfl rfl rfl ?_ ?_
              · intro K hK
                refine act_lookup (t := 141) (k := 3) (E := 73) _ _ rfl mlaw Tryz.underlying141 (zero51 _) rfl HGB.out (by unfold maxLen; omega) rfl HKY.out ?_
                intro v0 hv0 hvl hback
                refine hK.out _ _ (fun _ => ⟨i0, Hi0.out.symm⟩) ?_
                clear hK K
                refine anyL_act (i := 8) (by kernel_rfl) rfl rfl ?_
                intro K hK
                go_wp2_with fail
                have hS1 : ∃ i, ((wr.alloc (.cells #[.int .i64 sx, .slice A3 gx.length c3, .bool fx] 143)).alloc (.cells #[.int .i64 k] 3)).drew = W i := WS.out _ (fun g hg => by subst hg; exact Below.heap_alloc _ _ _ (by simp))
                refine hK.out _ _ (fun _ => hS1) ?_
                clear hK K
                have hv1 : ((wr.alloc (.cells #[.int .i64 sx, .slice A3 gx.length c3, .bool fx] 143)).alloc (.cells #[.int .i64 k] 3)).drew.ownsInts w3.heap.size 3 .i64 v0 (idxO (optsD d) k sx) := hv0.alloc _
                have hil := idxO_length (optsD d) k sx
                have hs3 := HG.out.size
                refine anyL_act (i := 9) (by kernel_rfl) rfl rfl ?_
                intro K hK
                refine act_append_at _ _ 73 rfl w3.heap.size 3 inf3 (.int .i64 0) 1 8 Tryz.underlying73 hi3 hy0 hy1 hy2 rfl (by decide) _ _ _ rfl hv1.1 ⟨wr.heap.size + 1, 0, none⟩ 1 1 [.int .i64 k] rfl rfl (news_at (w := wr.alloc _) (cs := #[_]) (by simp)) (ints_oneCell .i64 [(k : Int)]) (by unfold maxLen; omega) (by omega) (by simp; omega) ?_
                intro v' w1 hown' hgrow hnil hloc
                have hS2 : ∃ i, w1 = W i := WS.out _ (fun g hg => by
                  subst hg
                  rw [hgrow.block wr.heap.size (by simp; omega) (fun h => own_ne (g := wr.heap.size) hv1.1 (cs := #[.int .i64 sx, .slice A3 gx.length c3, .bool fx]) (e' := 143) (fr := (0, 0)) ((Below.heap_alloc _ _ _ (by simp)).trans (MapKept.heap_alloc wr _).1) (by decide) h.symm)]
                  exact Below.heap_alloc _ _ _ (by simp))
                refine hK.out _ _ (fun _ => hS2) ?_
                clear hK K
                refine anyL_act (i := 10) (by kernel_rfl) rfl rfl ?_
                intro K hK
                have hwf : (Lit.int .i64 k).wf = true := WalkArith.wf_i64 (by omega)
                refine act_store (z := k) _ _ _ rfl hback rfl rfl rfl ((World.grownBy_alloc _ _ _).trans hgrow) (hv1.appended hown' hwf) (hloc.imp id (fun h => ⟨_, h, by simp⟩)) ?_
                intro w2 hgm2 hg2
                have hS3 : ∃ i, w2 = W i := WS.out _ (fun g hg => by
                  subst hg
                  have e1 := hgrow.size
                  simp at e1
                  have e2 := hs3
                  rw [hg2.block wr.heap.size (by omega) (by simp; omega), hgrow.block wr.heap.size (by simp; omega) (fun h => own_ne (g := wr.heap.size) hv1.1 (cs := #[.int .i64 sx, .slice A3 gx.length c3, .bool fx]) (e' := 143) (fr := (0, 0)) ((Below.heap_alloc _ _ _ (by simp)).trans (MapKept.heap_alloc wr _).1) (by decide) h.symm)]
                  exact Below.heap_alloc _ _ _ (by simp))
                refine hK.out _ _ (fun _ => hS3) ?_
                clear hK K
                rw [← HST.out] at hgm2
                have hG2 := grown_chain HG.out (grown_two _ _ _) hgrow (fun j hj => (hv1.1.lt j hj).1) hg2
                clear hS1 hS2 hS3 hown' hgrow hnil hloc hback hv0 hv1 hvl hg2
                refine anyL_done (by kernel_rfl) ?_ _
                clear g1 WS HW Hi0 hne i0 W ι
                go_wp2_with fail
                refine ⟨⟨k + 1, by omega, by go_num, hgm2, hG2⟩, ?_⟩
                simp [intOf]; omega
              · intro K hK
                go_wp2_with fail
                have hS1 : ∃ i, ((wr.alloc (.cells #[.int .i64 sx, .slice A3 gx.length c3, .bool fx] 143)).alloc (.cells #[.int .i64 k] 3)).drew = W i := WS.out _ (fun g hg => by subst hg; exact Below.heap_alloc _ _ _ (by simp))
                refine hK.out _ _ (fun _ => hS1) ?_
                clear hK K
                refine anyL_act (i := 6) (by kernel_rfl) rfl rfl ?_
                intro K hK
                refine act_lookup (t := 141) (k := 3) (E := 73) _ _ rfl mlaw Tryz.underlying141 (zero51 _) rfl ((HGM.out.alloc _).alloc _).drew (by unfold maxLen; omega) rfl HKY.out ?_
                intro v0 hv1 hvl hback
                refine hK.out _ _ (fun _ => hS1) ?_
                clear hK K
                have hil := idxO_length (optsD d) k sx
                have hs3 := HG.out.size
                refine anyL_act (i := 9) (by kernel_rfl) rfl rfl ?_
                intro K hK
                refine act_append_at _ _ 73 rfl w3.heap.size 3 inf3 (.int .i64 0) 1 8 Tryz.underlying73 hi3 hy0 hy1 hy2 rfl (by decide) _ _ _ rfl hv1.1 ⟨wr.heap.size + 1, 0, none⟩ 1 1 [.int .i64 k] rfl rfl (news_at (w := wr.alloc _) (cs := #[_]) (by simp)) (ints_oneCell .i64 [(k : Int)]) (by unfold maxLen; omega) (by omega) (by simp; omega) ?_
                intro v' w1 hown' hgrow hnil hloc
                have hS2 : ∃ i, w1 = W i := WS.out _ (fun g hg => by
                  subst hg
                  rw [hgrow.block wr.heap.size (by simp; omega) (fun h => own_ne (g := wr.heap.size) hv1.1 (cs := #[.int .i64 sx, .slice A3 gx.length c3, .bool fx]) (e' := 143) (fr := (0, 0)) ((Below.heap_alloc _ _ _ (by simp)).trans (MapKept.heap_alloc wr _).1) (by decide) h.symm)]
                  exact Below.heap_alloc _ _ _ (by simp))
                refine hK.out _ _ (fun _ => hS2) ?_
                clear hK K
                refine anyL_act (i := 10) (by kernel_rfl) rfl rfl ?_
                intro K hK
                have hwf : (Lit.int .i64 k).wf = true := WalkArith.wf_i64 (by omega)
                refine act_store (z := k) _ _ _ rfl hback rfl rfl rfl hgrow (hv1.appended hown' hwf) (hloc.imp id (fun h => ⟨_, h, by simp⟩)) ?_
                intro w2 hgm2 hg2
                have hS3 : ∃ i, w2 = W i := WS.out _ (fun g hg => by
                  subst hg
                  have e1 := hgrow.size
                  simp at e1
                  have e2 := hs3
                  rw [hg2.block wr.heap.size (by omega) (by simp; omega), hgrow.block wr.heap.size (by simp; omega) (fun h => own_ne (g := wr.heap.size) hv1.1 (cs := #[.int .i64 sx, .slice A3 gx.length c3, .bool fx]) (e' := 143) (fr := (0, 0)) ((Below.heap_alloc _ _ _ (by simp)).trans (MapKept.heap_alloc wr _).1) (by decide) h.symm)]
                  exact Below.heap_alloc _ _ _ (by simp))
                refine hK.out _ _ (fun _ => hS3) ?_
                clear hK K
                rw [← HST.out] at hgm2
                have hG2 := grown_chain HG.out (grown_two _ _ _) hgrow (fun j hj => (hv1.1.lt j hj).1) hg2
                clear hS1 hS2 hS3 hown' hgrow hnil hloc hback hv1 hvl hg2
                refine anyL_done (by kernel_rfl) ?_ _
                clear g1 WS HW Hi0 hne i0 W ι
                go_wp2_with fail
                refine ⟨⟨k + 1, by omega, by go_num, hgm2, hG2⟩, ?_⟩
                simp [intOf]; omega
            · have hke : k = xs.length := by omega
              subst hke
              obtain ⟨w4, hw4⟩ : ∃ w4, w4 = wr := ⟨_, rfl⟩
              subst hw4
              have hlen : xs.length = (optsD d).length := by rw [← HX2.out, List.length_map]
              have HGM := hid (hlen ▸ hgm : GMap Tryz.prog w4 3 w3.heap.size 3 (w.heap.size + 1) (optsD d).length (idxO (optsD d) (optsD d).length))
              have HLN := hid hlen
              have hB4 : Below w.heap.size w w4 := hB.grown hG (by omega) (fun j hj => by cases hj; omega)
              have HG := hid hG
              clear hgm hlen hG
              go_wp2_with fail
              go_loopw [70] (fun vi wr => ∃ i : Nat, i ≤ xs.length ∧ vi = .int .i64 i ∧ outerS (optsD d) i ((optsD d).drop i) = outerS (optsD d) 0 (optsD d) ∧ Below w4.heap.size w4 wr) (fun vi _ => xs.length - (intOf vi).toNat)
              case atStart => exact ⟨0, Nat.zero_le _, rfl, rfl, Below.refl _ _⟩
              case round =>
                obtain ⟨wo, hwo⟩ : ∃ wo, wo = wr := ⟨_, rfl⟩
                subst hwo
                obtain ⟨i, hi, rfl, hout, hBr⟩ := hrel
                have HOUT := hid hout; clear hout
                have hs34 := HG.out.size
                by_cases hlt : i < xs.length
                · obtain ⟨⟨xv, sx, gx, fx⟩, hx⟩ := at_lt hlt
                  have hox : (optsD d)[i]? = some ⟨sx, gx, fx⟩ := by rw [← HX2.out, List.getElem?_map, hx]; rfl
                  obtain ⟨b, o, rfl, ⟨hb1, hb2⟩, q1, q2, q3⟩ := optV_at hrow hx
                  obtain ⟨hy, hs⟩ := HXO.out _ (List.mem_of_getElem? hx)
                  dsimp only at q1 q2 q3 hs hy
                  have HY := hid hy
                  obtain ⟨A3, c3, rfl, _, _⟩ := list_form hy
                  have hblk : ∀ W, Below w4.heap.size w4 W → W.heap[b]? = w3.heap[b]? := fun W hW => (hW.block b (by omega)).trans (HG.out.block b hb2 (by simp; omega))
                  have HBK := hid hblk
                  replace q1 := (World.cell?_of_block (a := ⟨b, o + i * 3, none⟩) (hblk _ hBr)).trans q1
                  replace q2 := (World.cell?_of_block (a := ⟨b, o + i * 3 + 1, none⟩) (hblk _ hBr)).trans q2
                  replace q3 := (World.cell?_of_block (a := ⟨b, o + i * 3 + 2, none⟩) (hblk _ hBr)).trans q3
                  have hlt' : (i : Int) < xs.length := by omega
                  have HKY := hid (show keyOf Tryz.prog 3 (.int .i64 sx) = some (.int .i64 sx) from Go.Maps.keyOf_int_mk Tryz.underlying3 (WalkArith.wf_i64 hs))
                  have HO := hid hox
                  have HGB := hid ((HGM.out.kept (w' := wo) ⟨hBr.os, hBr.tape, hBr.output, hBr.size, fun k hk _ => hBr.block k hk⟩).alloc (.cells #[.int .i64 sx, .slice A3 gx.length c3, .bool fx] 143))
                  have hnl : (optsD d).length ≤ 2000000 := by have := HLN.out; omega
                  clear hblk hox hy
                  go_wp2_with (at_lookup; refine Hid.out ?_)
                  refine hid ?_
                  refine wpList_plain rfl fun K hK => act_lookup (t := 141) (k := 3) (E := 73) _ _ rfl mlaw Tryz.underlying141 (zero51 _) rfl HGB.out (by unfold maxLen; omega) rfl HKY.out ?_
                  intro v0 hv0 hvl _
                  refine hK _ _ ?_
                  clear hK K
                  obtain ⟨w5, hw5⟩ : ∃ w5, w5 = wo.alloc (.cells #[.int .i64 sx, .slice A3 gx.length c3, .bool fx] 143) := ⟨_, rfl⟩
                  have hsz5 : wo.heap.size < w5.heap.size := by rw [hw5]; simp
                  have hB5 : Below w4.heap.size w4 w5 := by rw [hw5]; exact hBr.alloc hBr.size _
                  have hz5 : (listR intR).rel w5 (upto w5.heap.size) [v0] (idxO (optsD d) (optsD d).length sx) := by rw [hw5]; exact intsR hv0
                  have p1 : w5.cell? ⟨wo.heap.size, 0, none⟩ = some (.int .i64 sx) := by rw [hw5]; go_simp
                  have p2 : w5.cell? ⟨wo.heap.size, 1, none⟩ = some (.slice A3 gx.length c3) := by rw [hw5]; go_simp
                  have p3 : w5.cell? ⟨wo.heap.size, 2, none⟩ = some (.bool fx) := by rw [hw5]; go_simp
                  have H5 := hid hw5; clear hw5
                  obtain ⟨A6, c6, rfl, hc6, hm6⟩ := list_form hz5
                  unfold maxLen at hm6
                  have hmem := hid (fun z hz => mem_idxO (os := optsD d) (k := (optsD d).length) (s := sx) (z := z) hz)
                  have HIN : Hid ((match innerS (optsD d) i ⟨sx, gx, fx⟩ (idxO (optsD d) (optsD d).length sx) with | some k => some ((i : Int), k) | none => outerS (optsD d) (i + 1) ((optsD d).drop (i + 1))) = outerS (optsD d) 0 (optsD d)) := hid (by have := HOUT.out; rw [drop_cons HO.out] at this; exact this)
                  clear HOUT
                  clear hv0
                  revert hvl hz5 hc6 hmem HIN
                  generalize idxO (optsD d) (optsD d).length sx = zs
                  intro hvl hz5 hc6 hmem HIN
                  clear q1 q2 q3
                  go_wp2_with fail
                  go_loopw [80] (fun vi wr => ∃ j : Nat, j ≤ zs.length ∧ vi = .int .i64 j ∧ innerS (optsD d) i ⟨sx, gx, fx⟩ (zs.drop j) = innerS (optsD d) i ⟨sx, gx, fx⟩ zs ∧ Below w5.heap.size w5 wr) (fun vi _ => zs.length - (intOf vi).toNat)
                  case atStart => exact ⟨0, Nat.zero_le _, rfl, rfl, by rw [← H5.out]; exact Below.refl _ _⟩
                  case round =>
                    obtain ⟨j, hj, rfl, hin, hB6⟩ := hrel
                    have HI2 := hid hin; clear hin
                    have hz6 := (listR intR).mono (below_cells hB6) (fun _ h => h) hz5
                    by_cases hjt : j < zs.length
                    · obtain ⟨z, hz⟩ := at_lt hjt
                      obtain ⟨bz, oz, y, rfl, hbz, ⟨hy1, hy2⟩, hcz⟩ := list_at1 rfl hz6 hz
                      simp only [List.cons.injEq, and_true] at hy1
                      subst hy1
                      obtain ⟨m, rfl, hm⟩ := hmem.out z (List.mem_of_getElem? hz)
                      have hjt' : (j : Int) < zs.length := by omega
                      have HI3 : Hid ((if pairF (optsD d) i ⟨sx, gx, fx⟩ m then some (m : Int) else innerS (optsD d) i ⟨sx, gx, fx⟩ (zs.drop (j + 1))) = innerS (optsD d) i ⟨sx, gx, fx⟩ zs) := hid (by have := HI2.out; rw [drop_cons hz] at this; exact this)
                      clear HI2 hz6 hz
                      have hB7 : Below w4.heap.size w4 wr := hB5.trans (hB6.mono hB5.size)
                      have hBw : Below w.heap.size w wr := hB4.trans (hB7.mono hB4.size)
                      have hs56 := hB6.size
                      by_cases hgt : (i : Int) < m
                      · have hd : decide ((i : Int) < m) = true := by simpa using hgt
                        have HD := hid hd
                        obtain ⟨⟨xv2, s2, g2', f2⟩, hx2⟩ := at_lt (xs := xs) (i := m) (by have := HLN.out; omega)
                        have hox2 : (optsD d)[m]? = some ⟨s2, g2', f2⟩ := by rw [← HX2.out, List.getElem?_map, hx2]; rfl
                        obtain ⟨b', o', hA, _, r1, r2, r3⟩ := optV_at hrow hx2
                        simp only [Option.some.injEq, Addr.mk.injEq, and_true] at hA
                        obtain ⟨rfl, rfl⟩ := hA
                        obtain ⟨hy2', _⟩ := HXO.out _ (List.mem_of_getElem? hx2)
                        dsimp only at r1 r2 r3 hy2'
                        have HY2 := hid hy2'
                        obtain ⟨A7, c7, rfl, _, _⟩ := list_form hy2'
                        have hbw : b < wr.heap.size := by have := hB7.size; omega
                        have hmm' : (m : Int) < xs.length := by have := HLN.out; omega
                        have hc := hid (clash_calls ⟨sx, gx, fx⟩ ⟨s2, g2', f2⟩ _ _ wr.drew ((listR spansR).below HY.out hBw.drew hBw.size) ((listR spansR).below HY2.out hBw.drew hBw.size) (HGL.out _ (List.mem_of_getElem? HO.out)) (HGL.out _ (List.mem_of_getElem? hox2)))
                        have hpf : pairF (optsD d) i ⟨sx, gx, fx⟩ m = clashF ⟨sx, gx, fx⟩ ⟨s2, g2', f2⟩ := by simp [pairF, hgt, hox2]
                        have HPF := hid hpf
                        clear hpf hox2 hx2 hy2' hd
                        replace r1 := (World.cell?_of_block (a := ⟨b, o + m * 3, none⟩) (HBK.out _ hB7)).trans r1
                        replace r2 := (World.cell?_of_block (a := ⟨b, o + m * 3 + 1, none⟩) (HBK.out _ hB7)).trans r2
                        replace r3 := (World.cell?_of_block (a := ⟨b, o + m * 3 + 2, none⟩) (HBK.out _ hB7)).trans r3
                        have lbo : wo.heap.size < wr.heap.size := by omega
                        have t1 := (hB6.cell (p := ⟨wo.heap.size, 0, none⟩) hsz5).trans p1
                        have t2 := (hB6.cell (p := ⟨wo.heap.size, 1, none⟩) hsz5).trans p2
                        have t3 := (hB6.cell (p := ⟨wo.heap.size, 2, none⟩) hsz5).trans p3
                        go_wp2_with fail
                        obtain ⟨ι, W, ⟨i0, hi0⟩, hW, Wsur⟩ := ext_class wr.drew
                        have hne : Nonempty ι := ⟨i0⟩
                        have g1 : ∀ i, (W i).cell? ⟨wo.heap.size, 0, none⟩ = some (.int .i64 sx) := fun i => ((hW i).cell lbo).trans t1
                        have g2 : ∀ i, (W i).cell? ⟨wo.heap.size, 1, none⟩ = some (.slice A3 gx.length c3) := fun i => ((hW i).cell lbo).trans t2
                        have g3 : ∀ i, (W i).cell? ⟨wo.heap.size, 2, none⟩ = some (.bool fx) := fun i => ((hW i).cell lbo).trans t3
                        have g4 : ∀ i, (W i).cell? ⟨b, o + m * 3, none⟩ = some (.int .i64 s2) := fun i => ((hW i).cell hbw).trans r1
                        have g5 : ∀ i, (W i).cell? ⟨b, o + m * 3 + 1, none⟩ = some (.slice A7 g2'.length c7) := fun i => ((hW i).cell hbw).trans r2
                        have g6 : ∀ i, (W i).cell? ⟨b, o + m * 3 + 2, none⟩ = some (.bool f2) := fun i => ((hW i).cell hbw).trans r3
                        have WS := hid Wsur; clear Wsur
                        have HW := hid hW; clear hW
                        have Hi0 := hid hi0; clear hi0
                        refine region_anyL (S := fun w' => ∃ i, w' = W i) (last := 11) (by kernel_rfl) ?_
                        refine anyL_seg 0 9 (by kernel_rfl) (fun _ _ _ _ _ h => h) ⟨i0, Hi0.out.symm⟩ (f := 2) rfl (by kernel_rfl) (by kernel_rfl) ?_
                        simp only [List.drop_zero, List.take_succ_cons, List.take_zero]
                        repeat go_big_quiet_step (fail)
                        refine wpQuiet_nil ?_
                        refine anyL_actG (i := 9) (by kernel_rfl) rfl (by rfl) ?_
                        intro K hK
                        go_wp2_with fail
                        refine hc.out.mono ?_
                        rintro e w7 ⟨rfl, hB8⟩
                        go_wp2_with fail
                        have hS3 := WS.out i0 w7 (by rw [Hi0.out]; exact hB8)
                        refine hK.out _ _ (fun _ => hS3) ?_
                        clear hK K
                        have hBB : Below w5.heap.size w5 w7 := hB6.trans (RowKit.Below.mono (w := wr) ⟨hB8.os, hB8.tape, hB8.output, hB8.size, hB8.block⟩ hB6.size)
                        refine anyL_act (i := 10) (by kernel_rfl) rfl rfl ?_
                        intro K hK
                        go_wp2_with fail
                        refine hK.out _ _ (fun _ => hS3) ?_
                        clear hK K
                        refine anyL_done (by kernel_rfl) ?_ _
                        clear hS3 g1 g2 g3 g4 g5 g6 WS HW Hi0 hne i0 W ι
                        have hEnd : Below w.heap.size w w7 := hB4.trans ((hB5.trans (hBB.mono hB5.size)).mono hB4.size)
                        cases hcf : clashF ⟨sx, gx, fx⟩ ⟨s2, g2', f2⟩ with
                        | true =>
                          have HF : Hid (clashS (optsD d) = .tuple #[.int .i64 i, .int .i64 m, .bool true]) := hid (by
                            have h1 := HI3.out
                            rw [HPF.out, hcf, if_pos rfl] at h1
                            have h2 := HIN.out
                            rw [← h1] at h2
                            unfold clashS
                            rw [← h2])
                          clear hcf
                          go_wp2_with fail
                          go_ret3
                          exact ⟨by rw [HF.out]; rfl, hEnd⟩
                        | false =>
                          have HF : Hid (innerS (optsD d) i ⟨sx, gx, fx⟩ (zs.drop (j + 1)) = innerS (optsD d) i ⟨sx, gx, fx⟩ zs) := hid (by
                            have h1 := HI3.out
                            rw [HPF.out, hcf, if_neg (by decide)] at h1
                            exact h1)
                          clear hcf
                          go_wp2_with fail
                          refine ⟨⟨j + 1, by omega, by go_num, HF.out, hBB⟩, ?_⟩
                          simp [intOf]; omega
                      · have HF : Hid (innerS (optsD d) i ⟨sx, gx, fx⟩ (zs.drop (j + 1)) = innerS (optsD d) i ⟨sx, gx, fx⟩ zs) := hid (by
                          have h1 := HI3.out
                          rw [show pairF (optsD d) i ⟨sx, gx, fx⟩ m = false by simp [pairF, hgt], if_neg (by decide)] at h1
                          exact h1)
                        have hd : decide (i < m) = false := by simpa using hgt
                        clear hgt
                        go_wp2_with fail
                        obtain ⟨ι, W, ⟨i0, hi0⟩, hW, Wsur⟩ := ext_class wr.drew
                        have hne : Nonempty ι := ⟨i0⟩
                        have Hi0 := hid hi0; clear hi0 hW Wsur
                        refine region_anyL (S := fun w' => ∃ i, w' = W i) (last := 11) (by kernel_rfl) ?_
                        refine anyL_seg 0 9 (by kernel_rfl) (fun _ _ _ _ _ h => h) ⟨i0, Hi0.out.symm⟩ (f := 2) rfl (by kernel_rfl) (by kernel_rfl) ?_
                        simp only [List.drop_zero, List.take_succ_cons, List.take_zero]
                        repeat go_big_quiet_step (fail)
                        refine wpQuiet_nil ?_
                        refine anyL_skip (i := 9) (by kernel_rfl) rfl (by rfl) ⟨i0, Hi0.out.symm⟩ ?_
                        refine anyL_act (i := 10) (by kernel_rfl) rfl rfl ?_
                        intro K hK
                        go_wp2_with fail
                        refine hK.out _ _ (fun _ => ⟨i0, Hi0.out.symm⟩) ?_
                        clear hK K
                        refine anyL_done (by kernel_rfl) ?_ _
                        clear Hi0 hne i0 W ι
                        go_wp2_with fail
                        refine ⟨⟨j + 1, by omega, by go_num, HF.out, hB6.drew⟩, ?_⟩
                        simp [intOf]; omega
                    · have hje : j = zs.length := by omega
                      subst hje
                      have HF : Hid (outerS (optsD d) (i + 1) ((optsD d).drop (i + 1)) = outerS (optsD d) 0 (optsD d)) := hid (by
                        have h1 := HI2.out
                        rw [List.drop_length] at h1
                        have h2 := HIN.out
                        rw [← h1] at h2
                        exact h2)
                      clear HI2 hz6
                      go_wp2_with fail
                      refine ⟨⟨i + 1, by omega, by go_num, HF.out, hB5.trans (hB6.mono hB5.size)⟩, ?_⟩
                      simp [intOf]; omega
                · have hie : i = xs.length := by omega
                  have HF : Hid (clashS (optsD d) = .tuple #[.int .i64 0, .int .i64 0, .bool false]) := hid (by
                    have h1 := HOUT.out
                    rw [hie, HLN.out, List.drop_length] at h1
                    unfold clashS
                    rw [← h1]
                    rfl)
                  subst hie
                  clear HOUT
                  go_wp2_with fail
                  go_ret3
                  exact ⟨by rw [HF.out]; rfl, hB4.trans (hBr.mono hB4.size)⟩
end Go.Proofs.YthfcbbdghggefaaGreat
