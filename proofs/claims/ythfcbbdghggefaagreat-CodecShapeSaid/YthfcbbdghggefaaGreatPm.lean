/-
  Going through all places that come, from the last one on: run.back, for any closure that keeps an invariant. What a place is related to, out of what the next places are; plain Lean, and an append that leaves other memory. What is told of each place: the closure of run.Outputs. run.Outputs: all that an input is related to, or that it is more than was asked for.
-/
import Derived.Test.YthfcbbdghggefaaGreatPl
import Derived.Test.YthfcbbdghggefaaGreatPa
import Derived.Test.YthfcbbdghggefaaGreatPi
import Derived.WalkKit
import Derived.ProofKit
import Derived.OpenShut
import Derived.ChangeOld
namespace Go.Proofs.YthfcbbdghggefaaGreat
open Go.Proofs Go.Um Go.RowKit
theorem RunIs.later {w w' : World} {RB LV : Nat} {d : Desc} {x : List Int} {n : Nat} {ord : List Int} (h : RunIs w RB LV d x n ord) (hb : Below w.heap.size w w') : RunIs w' RB LV d x n ord := by
  obtain ⟨vr, vf, vx, R, F, vo, h1, h2, h3, h4, h5, h6, h7, h8⟩ := h
  exact ⟨vr, vf, vx, R, F, vo, (hb.block RB (heapLtW h1)).trans h1, RepOf.later _ h2 hb, RepOf.later _ h3 hb, RepOf.later _ h4 hb, RepOf.later _ h5 hb, RepOf.later _ h6 hb, RepOf.later _ h7 hb, h8.of_block (hb.block LV h8.lt)⟩
/-- what a closure that is told all places keeps. -/
structure Told (P : Program) (cf : Nat) (cap : Array Value) (w1 : World) (ord : List Int) (n len : Nat) (L : Nat → Bool) (I : Nat → Nat → World → Prop) : Prop where
  low : ∀ a q w, I a q w → Below w1.heap.size w1 w
  drew : ∀ a q w, I a q w → I a q w.drew
  tell : ∀ (a q s : Nat) (w : World), I a q w → a ≤ len → ord[q]? = some (s : Int) → s < n → L (a * n + s) = true → Calls P cf (#[.int .i64 a, .int .i64 s] ++ cap) w fun e w' => e = .returned (.tuple #[]) ∧ I a (q + 1) w'
  pass : ∀ (a q s : Nat) (w : World), I a q w → a ≤ len → ord[q]? = some (s : Int) → s < n → L (a * n + s) = false → I a (q + 1) w
  row : ∀ (a : Nat) (w : World), I (a + 1) ord.length w → I a 0 w
def preI (ord : List Int) (I : Nat → Nat → World → Prop) : Nat → World → Prop
  | 0, w => I 0 ord.length w
  | a + 1, w => I a 0 w
set_option maxHeartbeats 4000000 in
set_option maxRecDepth 100000 in
theorem back_calls (RB LV : Nat) (d : Desc) (x : List Int) (n : Nat) (ord : List Int) (cf : Nat) (v2 v3 v4 v5 v6 : Value) (w1 w : World) (hR : RunIs w1 RB LV d x n ord) (hn1 : n ≤ 1024) (hxl : x.length ≤ 1024) (hm : ∀ t ∈ ord, ∃ k : Nat, t = k ∧ k < n) (I : Nat → Nat → World → Prop)
    (hT : Told Tryz.prog cf #[v2, v3, v4, v5, v6] w1 ord n x.length (liveF d x n ord (x.length + 1)) I) (h0 : I x.length 0 w) (hcf : ∀ args w, (callFunc cf args).run Tryz.prog w = .ok (.enter cf args) w) :
    Calls Tryz.prog 49 #[.pointer (some ⟨RB, 0, none⟩), .func (.func cf) #[] #[v2, v3, v4, v5, v6]] w fun e w' => e = .returned (.tuple #[]) ∧ I 0 ord.length w' := by
  obtain ⟨vr, vf, vx, R, F, vo, h1, h2, h3, h4, h5, h6, h7, h8⟩ := hR
  obtain ⟨A3, c3, rfl, _, hm3⟩ := list_form h4
  obtain ⟨Ao, co, rfl, _, hmo⟩ := list_form h7
  unfold maxLen at hm3 hmo
  obtain ⟨M, hM⟩ : ∃ M, M = (x.length + 1) * n := ⟨_, rfl⟩
  rw [← hM] at h1 h8
  have hMl : M ≤ 2000000 := by rw [hM]; exact Nat.le_trans (Nat.mul_le_mul (show x.length + 1 ≤ 1025 by omega) hn1) (by decide)
  have HM := hid hM
  have H1 := hid h1
  have H7 := hid h7
  have H8 := hid h8
  have HT := hid hT
  have HMm := hid hm
  have hRl : RB < w1.heap.size := heapLtW h1
  have hLl : LV < w1.heap.size := h8.lt
  have KW : ∀ a q W, I a q W → ∀ g, g < w1.heap.size → W.heap[g]? = w1.heap[g]? := fun a q W hW g hg => (hT.low a q W hW).block g hg
  have HKW := hid KW
  have k6 : w.cell? ⟨RB, 6, none⟩ = some (.slice A3 x.length c3) := cell_of_row _ _ 6 _ _ _ ((KW _ _ _ h0 RB hRl).trans h1)
  have H0 := hid h0
  clear hM h1 h2 h3 h4 h5 h6 h7 h8 hT hm h0 KW
  go_enter Tryz.func49, Tryz.ntmps49
  go_wp2_with fail
  go_loopw [4] (fun va wr => ∃ a : Nat, a ≤ x.length + 1 ∧ va = .int .i64 ((a : Int) - 1) ∧ preI ord I a wr) (fun va _ => (intOf va + 1).toNat)
  case atStart => exact ⟨x.length + 1, Nat.le_refl _, by push_cast; congr 1; omega, H0.out⟩
  case round =>
    clear k6
    obtain ⟨a, ha, rfl, hI⟩ := hrel
    obtain ⟨wo, hwo⟩ : ∃ wo, wo = wr := ⟨_, rfl⟩
    subst hwo
    cases a with
    | zero =>
      have HI := hid hI
      clear hI
      go_wp2_with fail
      go_end0
      exact ⟨rfl, HI.out⟩
    | succ a =>
      have hI : I a 0 wo := hI
      have ea : (((a + 1 : Nat) : Int) - 1) = (a : Int) := by omega
      rw [ea]
      have ha0 : (0 : Int) ≤ a := by omega
      obtain ⟨JK, hJK⟩ : ∃ JK, JK = a * n := ⟨_, rfl⟩
      have hJKi : (a : Int) * (n : Int) = (JK : Int) := by rw [hJK]; push_cast; rfl
      have hidx : ∀ s, s < n → JK + s < M := fun s hs => by
        have q1 : (a + 1) * n ≤ (x.length + 1) * n := Nat.mul_le_mul_right _ (by omega)
        rw [HM.out, hJK]
        rw [Nat.add_mul] at q1
        omega
      have HIX := hid hidx
      have HJ := hid hJK
      have k9 : wo.cell? ⟨RB, 9, none⟩ = some (.slice Ao ord.length co) := cell_of_row _ _ 9 _ _ _ ((HKW.out _ _ _ hI RB hRl).trans H1.out)
      have HI := hid hI
      clear hidx hJK hI ea
      go_wp2_with fail
      go_loopw [21] (fun vq wr => ∃ q : Nat, q ≤ ord.length ∧ vq = .int .i64 q ∧ I a q wr) (fun vq _ => ord.length - (intOf vq).toNat)
      case atStart => exact ⟨0, Nat.zero_le _, rfl, HI.out⟩
      case round =>
        clear k9
        obtain ⟨q, hq, rfl, hI⟩ := hrel
        obtain ⟨wq, hwq⟩ : ∃ wq, wq = wr := ⟨_, rfl⟩
        subst hwq
        by_cases hlt : q < ord.length
        · have hlt' : (q : Int) < ord.length := by omega
          obtain ⟨z, hz⟩ := at_lt hlt
          obtain ⟨s, rfl, hsn⟩ := HMm.out z (List.mem_of_getElem? hz)
          have kW := HKW.out _ _ _ hI
          obtain ⟨b1, o1, y1, rfl, hb1, ⟨hy1, _⟩, hcy⟩ := list_at1 rfl ((listR intR).mono (w' := wq) (S' := upto w1.heap.size) (fun p hp => World.cell?_of_block (kW _ hp)) (fun _ h => h) H7.out) hz
          injection hy1 with hy1 _
          subst hy1
          have hix := HIX.out s hsn
          have hix' : (JK : Int) + s < M := by omega
          obtain ⟨lv, hlv⟩ : ∃ lv, lv = liveF d x n ord (x.length + 1) (JK + s) := ⟨_, rfl⟩
          have e1 : wq.cell? ⟨RB, 10, none⟩ = some (.slice (some ⟨LV, 0, none⟩) M M) := cell_of_row _ _ 10 _ _ _ ((kW RB hRl).trans H1.out)
          have e2 : wq.cell? ⟨RB, 2, none⟩ = some (.int .i64 n) := cell_of_row _ _ 2 _ _ _ ((kW RB hRl).trans H1.out)
          have e3 : wq.cell? ⟨LV, JK + s, none⟩ = some (.bool lv) := by rw [hlv]; exact (H8.out.of_block (kW LV hLl)).cell hix
          have HI := hid hI
          have HZ := hid hz
          have HL := hid hlv
          clear hI hz hlv kW hlt
          go_wp2_with fail
          obtain ⟨ι, Wc, ⟨i0, hi0'⟩, hWc, Wsur⟩ := held_class wq.drew (fun q => q = RB ∨ q = LV)
          have hne : Nonempty ι := ⟨i0⟩
          have WS := hid Wsur; clear Wsur
          have HWc := hid hWc; clear hWc
          have Hi0 := hid hi0'; clear hi0'
          have g0 : ∀ i, (Wc i).cell? ⟨RB, 10, none⟩ = some (.slice (some ⟨LV, 0, none⟩) M M) := fun i => (World.cell?_of_block (a := ⟨RB, 10, none⟩) (HWc.out i _ (.inl rfl))).trans e1
          have g1 : ∀ i, (Wc i).cell? ⟨RB, 2, none⟩ = some (.int .i64 n) := fun i => (World.cell?_of_block (a := ⟨RB, 2, none⟩) (HWc.out i _ (.inl rfl))).trans e2
          have g2 : ∀ i, (Wc i).cell? ⟨LV, JK + s, none⟩ = some (.bool lv) := fun i => (World.cell?_of_block (a := ⟨LV, JK + s, none⟩) (HWc.out i _ (.inr rfl))).trans e3
          refine region_anyL (S := fun w' => ∃ i, w' = Wc i) (last := 15) (by kernel_rfl) ?_
          refine anyL_seg 0 15 (by kernel_rfl) (fun _ _ _ _ _ h => h) ⟨i0, Hi0.out.symm⟩ (f := 0) rfl (by kernel_rfl) (by kernel_rfl) ?_
          simp only [List.drop_zero, List.take_succ_cons, List.take_zero]
          repeat go_big_quiet_step (fail)
          refine wpQuiet_nil ?_
          refine anyL_done (by kernel_rfl) ?_ 0
          clear g0 g1 g2 WS HWc Hi0 hne i0 Wc ι e1 e2 e3
          cases lv with
          | true =>
            have hTell := hid (HT.out.tell a q s wq.drew (HT.out.drew _ _ _ HI.out) (by omega) HZ.out hsn (by rw [← HJ.out, ← HL.out]))
            go_wp2_with fail
            refine hTell.out.mono ?_
            rintro e w5 ⟨rfl, hI5⟩
            have HI5 := hid hI5
            clear hI5 hcy
            go_wp2_with fail
            refine ⟨⟨q + 1, by omega, by go_num, HI5.out⟩, ?_⟩
            simp [intOf]; omega
          | false =>
            have HI5 := hid (HT.out.drew _ _ _ (HT.out.pass a q s wq HI.out (by omega) HZ.out hsn (by rw [← HJ.out, ← HL.out])))
            clear hcy
            go_wp2_with fail
            refine ⟨⟨q + 1, by omega, by go_num, HI5.out⟩, ?_⟩
            simp [intOf]; omega
        · obtain rfl : q = ord.length := by omega
          have hlt' : ¬ ((ord.length : Int) < ord.length) := by omega
          have HP : Hid (preI ord I a wq) := hid (by
            cases a with
            | zero => exact hI
            | succ a => exact HT.out.row a wq hI)
          clear hI hlt
          go_wp2_with fail
          refine ⟨⟨a, by omega, rfl, HP.out⟩, ?_⟩
          simp [intOf]
end Go.Proofs.YthfcbbdghggefaaGreat
namespace Go.Um
open Go.RowKit
section
variable {P : Program} {α : Type} {e : TypeId} {r : RepOf α} {b0 base : Nat} {v : Value} {xs : List α}
theorem run_append_fl2 {w0 w : World} (t ty : TypeId) (i : TypeInfo) (z : Value) (bytes : Nat) (ht : P.underlying t = some (.slice e)) (hi : P.info? e = some i) (hz : i.zero = some z)
    (hsize : i.size = r.width) (hby : i.bytes = bytes) (hzs : z.cells.size = r.width) (hsz : 0 < r.width)
    (h : FL e r w0 b0 base v xs) (hb : Below w0.heap.size w0 w) (hB : base ≤ w.heap.size) (ad : Addr) (c : Nat) (x : α) (cs : List Value) (hx : r.rel w (Els w b0 v) cs x)
    (hnews : ∀ (j : Nat) (u : Value), cs[j]? = some u → w.cell? (ad.add j) = some u) (h1 : ∀ u ∈ cs, u.oneCell' = true) (h63 : xs.length + 1 ≤ maxLen) (hbytes : (xs.length + 1) * bytes ≤ 140737488355328) :
    ∃ v' w', (Builtin.append_ #[t, t] ty #[v, .slice (some ad) 1 c]).run P w = .ok v' w' ∧ FL e r w' b0 base v' (xs ++ [x]) ∧ Below base w w' ∧ ∀ b, Els w b0 v b → w'.heap[b]? = w.heap[b]? ∧ Els w' b0 v' b := by
  have h2 := h.later hb
  obtain ⟨css, hl, hown, hel⟩ := h2
  have hlen : cs.length = 1 * r.width := by rw [r.len hx, Nat.one_mul]
  obtain ⟨v', w', hr, ho, hg, _, hloc⟩ := run_append_own_at (P := P) w base t ty e i z r.width bytes ht hi hz hsize hby hzs hsz v xs.length css.flatten hown ad 1 c cs hlen hnews h1 h63 hbytes hB
  have hk : ∀ b, Els w b0 v b → w'.heap[b]? = w.heap[b]? := fun b hb' => hg.block b hb'.2.1 (fun he => hb'.2.2 he.symm)
  have hS : ∀ b, Els w b0 v b → Els w' b0 v' b := fun b hb' => ⟨hb'.1, Nat.lt_of_lt_of_le hb'.2.1 hg.size, fun he => by
    rcases hloc with h9 | h9
    · exact hb'.2.2 (h9 ▸ he)
    · rw [h9] at he
      have := hb'.2.1
      injection he with he
      omega⟩
  have hcell : ∀ p : Addr, Els w b0 v p.block → w'.cell? p = w.cell? p := fun p hp => World.cell?_of_block (hk _ hp)
  refine ⟨v', w', hr, OwnR.push hl ho (fun j y ds q1 q2 => r.mono hcell hS (hel j y ds q1 q2)) (r.mono hcell hS hx), ?_, fun b hb' => ⟨hk b hb', hS b hb'⟩⟩
  exact below_grown hown hg (Nat.le_refl _) hB
theorem wpList_append_fl2 {ops : Array Oper} {rest : List Oper} {o : Oper} {a : Act} {Q : Exit → Act → World → Prop} {w0 w : World} (hgd : o.guard = none) (s xo : Operand) (t : TypeId)
    (ho : o.op = .call { callee := .builtin .append, args := #[s, xo], argTypes := #[t, t] }) (i : TypeInfo) (z : Value) (bytes : Nat) (ht : P.underlying t = some (.slice e)) (hi : P.info? e = some i) (hz : i.zero = some z)
    (hsize : i.size = r.width) (hby : i.bytes = bytes) (hzs : z.cells.size = r.width) (hsz : 0 < r.width)
    (hs : a.eval s = v) (h : FL e r w0 b0 base v xs) (hb : Below w0.heap.size w0 w) (hB : base ≤ w.heap.size) (ad : Addr) (c : Nat) (x : α) (cs : List Value) (hxo : a.eval xo = .slice (some ad) 1 c) (hx : r.rel w (Els w b0 v) cs x)
    (hnews : ∀ (j : Nat) (u : Value), cs[j]? = some u → w.cell? (ad.add j) = some u) (h1 : ∀ u ∈ cs, u.oneCell' = true) (h63 : xs.length + 1 ≤ maxLen) (hbytes : (xs.length + 1) * bytes ≤ 140737488355328)
    (hK : ∀ v' w', FL e r w' b0 base v' (xs ++ [x]) → Below base w w' → (∀ b, Els w b0 v b → w'.heap[b]? = w.heap[b]? ∧ Els w' b0 v' b) → wpList P ops Q rest (a.put o.dst v') w') : wpList P ops Q (o :: rest) a w := by
  refine wpList_plain hgd fun K hK' => ?_
  obtain ⟨v', w', hr, h2, h3, h4⟩ := run_append_fl2 (P := P) t o.type i z bytes ht hi hz hsize hby hzs hsz h hb hB ad c x cs hx hnews h1 h63 hbytes
  unfold Oper.wp
  simp [execOp, ho, resolve, invoke, builtin, hs, hxo, hr, Result.andThen]
  exact hK' _ _ (hK v' w' h2 h3 h4)
end
end Go.Um
namespace Go.Proofs.YthfcbbdghggefaaGreat
open Go.Proofs Go.Um Go.RowKit
theorem dom_bd {s z : Int} (h : mem (domF s) z) : 0 ≤ z ∧ z ≤ 1114111 := by
  unfold domF at h
  split at h
  · simp [mem] at h; omega
  · split at h
    · simp [mem] at h; omega
    · simp [mem] at h
/-- the terms of an option whose window fits may be reckoned. -/
theorem terms_ok {inn out : Int} {ts : List Term} {gs : List (List Span)} {x : List Int} {a : Nat} (hw : writesF inn out ts gs = true) (hg : guardsF inn gs = true) (hx : fitsX x gs a) (ha : a ≤ x.length) : ∀ t ∈ ts, okT t (winF x a gs.length) := fun t ht => by
  unfold writesF at hw
  rw [Bool.and_eq_true, List.all_eq_true] at hw
  have hgg := (guardsF_good hg).1
  obtain ⟨h1, h2, h3, h4⟩ := fits_val (hw.2 t ht) hgg hx
  have hl : (winF x a gs.length).length = gs.length := win_len (by have := hx.1; omega)
  rw [← hl] at h2
  have h5 := dom_bd h4
  exact ⟨h1, h2, h3, h5.1, h5.2⟩
def finOut (d : Desc) (x : List Int) (a : Nat) (z : Int) : List (List Int) := match d.finals[z.toNat]? with
  | some f => if endsB x f.guards a then [writesV f.out (winF x a f.guards.length)] else []
  | none => []
def ruleOut (d : Desc) (x : List Int) (n a : Nat) (W : Nat → List (List Int)) (z : Int) : List (List Int) := match d.rules[z.toNat]? with
  | some r => if fitsB x r.guards a then (W ((a + r.eat.toNat) * n + r.dst.toNat)).map (writesV r.out (winF x a r.guards.length) ++ ·) else []
  | none => []
def WordsOf (d : Desc) (x : List Int) (a : Nat) (s : Int) (most : Nat) (ls : List (List Int)) : Prop := (∀ y, y ∈ ls ↔ Run d x a s y) ∧ ls.Pairwise (fun p q => cmpW p q < 0) ∧ ls.length ≤ most
def TooMany (d : Desc) (x : List Int) (most : Nat) : Prop := ∃ (a : Nat) (s : Int) (ls : List (List Int)), Reach d x a s ∧ (∀ y ∈ ls, Run d x a s y) ∧ ls.Pairwise (fun p q => cmpW p q < 0) ∧ most < ls.length
theorem endsB_iff {x : List Int} {gs : List (List Span)} {a : Nat} (ha : a ≤ x.length) : endsB x gs a = true ↔ gs.length = x.length - a ∧ fitsX x gs a := by
  unfold endsB
  rw [Bool.and_eq_true, decide_eq_true_eq, fitsB_iff]
  constructor
  · rintro ⟨h1, h2⟩; exact ⟨by omega, h2⟩
  · rintro ⟨h1, h2⟩; exact ⟨by omega, h2⟩
/-- all that a place is related to. -/
theorem outs_iff {d : Desc} {x : List Int} {n a : Nat} {s : Int} {W : Nat → List (List Int)} (ha : a ≤ x.length) (hW : ∀ r ∈ d.rules, r.src = s → fitsX x r.guards a → ∀ y, y ∈ W ((a + r.eat.toNat) * n + r.dst.toNat) ↔ Run d x (a + r.eat.toNat) r.dst y) (y : List Int) :
    y ∈ (finalsOf d s).flatMap (finOut d x a) ++ (rulesOf d s).flatMap (ruleOut d x n a W) ↔ Run d x a s y := by
  rw [List.mem_append, List.mem_flatMap, List.mem_flatMap]
  constructor
  · rintro (⟨z, hz, hy⟩ | ⟨z, hz, hy⟩)
    · obtain ⟨q, f, rfl, hq, hs⟩ := finalsOf_mem.1 hz
      unfold finOut at hy
      rw [Int.toNat_natCast, hq] at hy
      dsimp only at hy
      split at hy
      · rename_i he
        obtain ⟨h1, h2⟩ := (endsB_iff ha).1 he
        simp at hy
        exact Run.fin f (List.mem_of_getElem? hq) hs h1 h2 hy
      · cases hy
    · obtain ⟨q, r, rfl, hq, hs⟩ := rulesOf_mem.1 hz
      unfold ruleOut at hy
      rw [Int.toNat_natCast, hq] at hy
      dsimp only at hy
      split at hy
      · rename_i he
        obtain ⟨u, hu, rfl⟩ := List.mem_map.1 hy
        have hx := fitsB_iff.1 he
        exact Run.step r (List.mem_of_getElem? hq) hs hx ((hW r (List.mem_of_getElem? hq) hs hx u).1 hu) rfl
      · cases hy
  · intro h
    cases h with
    | fin f hf hs hl hx hw =>
      left
      obtain ⟨q, hq⟩ := List.mem_iff_getElem?.1 hf
      refine ⟨q, finalsOf_mem.2 ⟨q, f, rfl, hq, hs⟩, ?_⟩
      unfold finOut
      rw [Int.toNat_natCast, hq]
      dsimp only
      rw [if_pos ((endsB_iff ha).2 ⟨hl, hx⟩), hw]
      simp
    | step r hr hs hx h' hw =>
      right
      obtain ⟨q, hq⟩ := List.mem_iff_getElem?.1 hr
      refine ⟨q, rulesOf_mem.2 ⟨q, r, rfl, hq, hs⟩, ?_⟩
      unfold ruleOut
      rw [Int.toNat_natCast, hq]
      dsimp only
      rw [if_pos (fitsB_iff.2 hx), hw]
      exact List.mem_map.2 ⟨_, (hW r hr hs hx _).2 h', rfl⟩
theorem flat_le {α β : Type} {f : α → List β} {m : Nat} : ∀ {l : List α}, (∀ z ∈ l, (f z).length ≤ m) → (l.flatMap f).length ≤ l.length * m
  | [], _ => by simp
  | z :: l, h => by
    rw [List.flatMap_cons, List.length_append, List.length_cons, Nat.add_mul]
    have h1 := h z List.mem_cons_self
    have h2 := flat_le (f := f) (m := m) (l := l) fun y hy => h y (List.mem_cons_of_mem _ hy)
    omega
theorem flat_take {α β : Type} {f : α → List β} {l : List α} {i : Nat} {z : α} (h : l[i]? = some z) : (l.take (i + 1)).flatMap f = (l.take i).flatMap f ++ f z := by
  rw [List.take_add_one, h, List.flatMap_append]
  simp
def DoneP (ord : List Int) (a q a' s' : Nat) : Prop := a < a' ∨ (a' = a ∧ (s' : Int) ∈ ord.take q)
end Go.Proofs.YthfcbbdghggefaaGreat
namespace Go.Proofs.YthfcbbdghggefaaGreat
open Go.Proofs Go.Um Go.RowKit
theorem finOut_len (d : Desc) (x : List Int) (a : Nat) (z : Int) : (finOut d x a z).length ≤ 1 := by
  unfold finOut
  split
  · split <;> simp
  · simp
theorem ruleOut_len {d : Desc} {x : List Int} {n a most : Nat} {W : Nat → List (List Int)} {z : Int} (h : ∀ r, d.rules[z.toNat]? = some r → fitsB x r.guards a = true → (W ((a + r.eat.toNat) * n + r.dst.toNat)).length ≤ most) : (ruleOut d x n a W z).length ≤ most := by
  unfold ruleOut
  split
  · rename_i r hr
    split
    · rename_i hf
      rw [List.length_map]
      exact h r hr hf
    · simp
  · simp
/-- the boxes that the closure captures. -/
structure OutE (w1 : World) (d : Desc) (n most D0 KB PR SX MB SB H2 : Nat) (vr vf : Value) : Prop where
  d0 : w1.heap[D0]? = some (.cells #[.int .i64 d.inn, .int .i64 d.out, .int .i64 n, .int .i64 d.start, vr, vf] 27)
  kb : w1.heap[KB]? = some (.cells #[.int .i64 most] 3)
  vr_ : (listR ruleR).rel w1 (upto w1.heap.size) [vr] d.rules
  vf_ : (listR finalR).rel w1 (upto w1.heap.size) [vf] d.finals
  pr : w1.heap.size ≤ PR ∧ PR < H2
  sx : w1.heap.size ≤ SX ∧ SX < H2
  mb : w1.heap.size ≤ MB ∧ MB < H2
  sb : w1.heap.size ≤ SB ∧ SB < H2
  ne : MB ≠ PR ∧ MB ≠ SX ∧ MB ≠ SB ∧ SB ≠ PR ∧ SB ≠ SX
def OutI (w1 : World) (RB _ : Nat) (d : Desc) (x : List Int) (n : Nat) (ord : List Int) (most PR SX MB SB H2 : Nat) (a q : Nat) (w : World) : Prop :=
  Below w1.heap.size w1 w ∧ H2 ≤ w.heap.size ∧ w.heap[PR]? = some (.cells #[.pointer (some ⟨RB, 0, none⟩)] 83) ∧ w.heap[SX]? = some (.cells #[.slice (some ⟨SB, 0, none⟩) ((x.length + 1) * n) ((x.length + 1) * n)] 85) ∧
    ∃ (f : Nat → Value) (W : Nat → List (List Int)) (many : Bool), w.heap[MB]? = some (.cells #[.bool many] 4) ∧ w.rowIs SB 34 ((x.length + 1) * n) f ∧ (many = true → TooMany d x most) ∧
      (many = false → ∀ a' s' : Nat, s' < n → a' ≤ x.length → DoneP ord a q a' s' → liveF d x n ord (x.length + 1) (a' * n + s') = true →
        (listR nwordR).rel w (fun b => H2 ≤ b ∧ b < w.heap.size) [f (a' * n + s')] (W (a' * n + s')) ∧ WordsOf d x a' s' most (W (a' * n + s')))
set_option maxHeartbeats 4000000 in
set_option maxRecDepth 100000 in
theorem tell_calls (w1 : World) (RB LV : Nat) (d : Desc) (x : List Int) (n : Nat) (ord : List Int) (most D0 KB PR SX MB SB H2 : Nat) (vr0 vf0 : Value) (hR : RunIs w1 RB LV d x n ord) (hE : OutE w1 d n most D0 KB PR SX MB SB H2 vr0 vf0) (hok : RuleOk d n) (hn1 : n ≤ 1024) (hl1 : d.rules.length ≤ 4096) (hl2 : d.finals.length ≤ 4096)
    (hxl : x.length ≤ 1024) (hxs : ∀ z ∈ x, 0 ≤ z ∧ z ≤ 1114111) (hmost : 1 ≤ most ∧ most ≤ 100000) (ho : Ord d ord) (hm : ∀ t ∈ ord, ∃ k : Nat, t = k ∧ k < n) (hall : ∀ s : Nat, s < n → (s : Int) ∈ ord) (hrl : ∀ (a : Nat) (s : Int) (y : List Int), a ≤ x.length → Run d x a s y → y.length ≤ 100000000)
    (a q s : Nat) (w : World) (hI : OutI w1 RB LV d x n ord most PR SX MB SB H2 a q w) (ha : a ≤ x.length) (hq : ord[q]? = some (s : Int)) (hsn : s < n) (hlive : liveF d x n ord (x.length + 1) (a * n + s) = true) :
    Calls Tryz.prog 50 #[.int .i64 a, .int .i64 s, .pointer (some ⟨MB, 0, none⟩), .pointer (some ⟨PR, 0, none⟩), .pointer (some ⟨D0, 0, none⟩), .pointer (some ⟨SX, 0, none⟩), .pointer (some ⟨KB, 0, none⟩)] w
      fun e w' => e = .returned (.tuple #[]) ∧ OutI w1 RB LV d x n ord most PR SX MB SB H2 a (q + 1) w' := by
  obtain ⟨inf, hi0, hz0, hz1, hz2⟩ := info_parts infoW
  have hI' := hI
  obtain ⟨hB1, hH, hPR, hSX, f, W, many, hMB, hSB, hT, hF⟩ := hI'
  have cMB := cell_of_row _ _ 0 _ _ _ hMB
  cases many with
  | true =>
    have HP : Hid (OutI w1 RB LV d x n ord most PR SX MB SB H2 a (q + 1) w) := hid ⟨hB1, hH, hPR, hSX, f, W, true, hMB, hSB, hT, fun h => (by cases h)⟩
    clear hI hB1 hPR hSX hMB hSB hT hF hR hE hok ho hm hall hrl
    go_enter Tryz.func50, Tryz.ntmps50
    go_wp2_with fail
    refine bodyPost_ret (results_none rfl _ _ _) rfl ?_
    exact ⟨rfl, HP.out⟩
  | false =>
    obtain ⟨vr, vf, vx, R, F, vo, h1, h2, h3, h4, h5, h6, h7, h8⟩ := hR
    have hs1 := hB1.size
    have K1 : ∀ g, g < w1.heap.size → w.heap[g]? = w1.heap[g]? := fun g hg => hB1.block g hg
    obtain ⟨Af, cf, rfl, _, hmf⟩ := list_form hE.vf_
    obtain ⟨Ar, cr, rfl, _, hmr⟩ := list_form hE.vr_
    obtain ⟨Ax, cx, rfl, _, hmx⟩ := list_form h4
    unfold maxLen at hmf hmr hmx
    obtain ⟨vx, hvx⟩ : ∃ vx, vx = Value.slice Ax x.length cx := ⟨_, rfl⟩
    rw [← hvx] at h1 h4
    have hRw : RB < w.heap.size := by have := heapLtW h1; omega
    have hD0w : D0 < w.heap.size := by have := heapLtW hE.d0; omega
    have hD01 : D0 < w1.heap.size := heapLtW hE.d0
    have hKBw : KB < w.heap.size := by have := heapLtW hE.kb; omega
    obtain ⟨⟨hp1, hp2⟩, ⟨hx1, hx2⟩, ⟨hm1, hm2⟩, ⟨hb1, hb2⟩, ne1, ne2, ne3, ne4, ne5⟩ := And.intro hE.pr (And.intro hE.sx (And.intro hE.mb (And.intro hE.sb hE.ne)))
    have hPRw : PR < w.heap.size := by omega
    have hSXw : SX < w.heap.size := by omega
    have hSBw : SB < w.heap.size := by omega
    obtain ⟨M, hM⟩ : ∃ M, M = (x.length + 1) * n := ⟨_, rfl⟩
    have hMl : M ≤ 2000000 := by rw [hM]; exact Nat.le_trans (Nat.mul_le_mul (show x.length + 1 ≤ 1025 by omega) hn1) (by decide)
    have HM := hid hM
    rw [← hM] at hSB hSX
    clear hM
    have HRB := hid ((K1 RB (heapLtW h1)).trans h1)
    have HD0 := hid ((K1 D0 (heapLtW hE.d0)).trans hE.d0)
    have HKB0 := hid ((K1 KB (heapLtW hE.kb)).trans hE.kb)
    have HPR := hid hPR
    have HSX := hid hSX
    have HMB := hid hMB
    have HSB := hid hSB
    have up : ∀ {α : Type} (r : RepOf α) (cs : List Value) (y : α), r.rel w1 (upto w1.heap.size) cs y → r.rel w (upto w.heap.size) cs y := fun r cs y h => r.below h hB1 hs1
    have HX := hid (up _ _ _ h4)
    have HVF := hid (up _ _ _ hE.vf_)
    have HVR := hid (up _ _ _ hE.vr_)
    obtain ⟨bF, oF, y, hA, hbF, hy, hcF⟩ := list_at1 (i := s) rfl (up _ _ _ h6) (by rw [List.getElem?_map, List.getElem?_range hsn]; rfl)
    injection hA with hA
    injection hA with hA1 hA2
    subst hA1 hA2
    rw [Nat.zero_add] at hcF
    obtain ⟨A7, c7, rfl, _, hm7⟩ := list_form hy
    unfold maxLen at hm7
    obtain ⟨bR, oR, y, hA, hbR, hy', hcR⟩ := list_at1 (i := s) rfl (up _ _ _ h5) (by rw [List.getElem?_map, List.getElem?_range hsn]; rfl)
    injection hA with hA
    injection hA with hA1 hA2
    subst hA1 hA2
    rw [Nat.zero_add] at hcR
    obtain ⟨A8', c8', rfl, _, hm8⟩ := list_form hy'
    unfold maxLen at hm8
    have hfl : (finalsOf d s).length ≤ 4096 := Nat.le_trans (idxF_len _ _ _) hl2
    have hrll : (rulesOf d s).length ≤ 4096 := Nat.le_trans (idxF_len _ _ _) hl1
    have HYF := hid hy
    have HYR := hid hy'
    have HCR := hid hcR
    have HOK := hid hok
    have HXS := hid hxs
    have HF := hid (hF rfl)
    have HI := hid hI
    have HO := hid (And.intro ho (And.intro hm hall))
    have HRL := hid hrl
    have HQ := hid hq
    have HLV := hid hlive
    have cPR := cell_of_row _ _ 0 _ _ _ hPR
    have cR8 : w.cell? ⟨RB, 8, none⟩ = some (.slice (some ⟨F, 0, none⟩) n n) := cell_of_row _ _ 8 _ _ _ HRB.out
    have hsn' : (s : Int) < n := by omega
    clear hI hF hE hok hxs ho hm hall hrl hq hlive hy hy' hcR up h1 h2 h3 h4 h5 h6 h7 h8 K1 hB1 hPR hSX hMB hSB hvx
    go_enter Tryz.func50, Tryz.ntmps50
    go_wp2_with fail
    clear cMB cPR cR8 hcF
    go_loopw [9, 28] (fun vl vi wr => ∃ i : Nat, i ≤ (finalsOf d s).length ∧ vi = .int .i64 i ∧ FL 37 nwordR wr w.heap.size w.heap.size vl (((finalsOf d s).take i).flatMap (finOut d x a)) ∧ Below w.heap.size w wr) (fun _ vi _ => (finalsOf d s).length - (intOf vi).toNat)
    case atStart => exact ⟨0, Nat.zero_le _, rfl, FL.nil, Below.refl _ _⟩
    case round =>
      obtain ⟨i, hi, rfl, hFL, hB⟩ := hrel
      obtain ⟨wo, hwo⟩ : ∃ wo, wo = wr := ⟨_, rfl⟩
      subst hwo
      have hs := hB.size
      obtain ⟨L, hL⟩ : ∃ L, L = ((finalsOf d s).take i).flatMap (finOut d x a) := ⟨_, rfl⟩
      rw [← hL] at hFL
      have hLl : L.length ≤ 4096 := by
        rw [hL]
        refine Nat.le_trans (flat_le (m := 1) fun z _ => finOut_len d x a z) ?_
        rw [List.length_take]
        omega
      have KO : ∀ g, g < w.heap.size → wo.heap[g]? = w.heap[g]? := fun g hg => hB.block g hg
      obtain ⟨Al, cl, rfl⟩ := hFL.len
      by_cases hil : i < (finalsOf d s).length
      · have hil' : (i : Int) < (finalsOf d s).length := by omega
        obtain ⟨z, hz⟩ := at_lt hil
        obtain ⟨q', ⟨fs, fg, fo⟩, rfl, hq, hsrc⟩ := finalsOf_mem.1 (List.mem_of_getElem? hz)
        dsimp only at hsrc
        subst hsrc
        obtain ⟨b1, o1, y1, rfl, hb1, ⟨hy1, _⟩, hcy⟩ := list_at1 rfl ((listR intR).mono (w' := wo) (S' := upto w.heap.size) (fun p hp => World.cell?_of_block (KO _ hp)) (fun _ h => h) HYF.out) hz
        injection hy1 with hy1 _
        subst hy1
        obtain ⟨b2, o2, v2, u2, rfl, hb2, q1, q2, q3, q6, q7, q8⟩ := final_at ((listR finalR).mono (w' := wo) (S' := upto w.heap.size) (fun p hp => World.cell?_of_block (KO _ hp)) (fun _ h => h) HVF.out) hq
        dsimp only at q1 q7 q8
        obtain ⟨A5, c5, rfl, _, _⟩ := list_form q7
        obtain ⟨A6, c6, rfl, _, _⟩ := list_form q8
        have hql : (q' : Int) < d.finals.length := by have := (List.getElem?_eq_some_iff.1 hq).1; omega
        obtain ⟨_, hfo, hfg, hfw⟩ := HOK.out.final _ (List.mem_of_getElem? hq)
        dsimp only at hfo hfg hfw
        obtain ⟨wb, hwb⟩ : ∃ wb, wb = wo.alloc (.cells #[.int .i64 s, .slice A5 fg.length c5, .slice A6 fo.length c6] 49) := ⟨_, rfl⟩
        have hBb : Below wo.heap.size wo wb := by rw [hwb]; exact (Below.refl _ wo).alloc (Nat.le_refl _) _
        have hbx : wb.heap[wo.heap.size]? = some (.cells #[.int .i64 s, .slice A5 fg.length c5, .slice A6 fo.length c6] 49) := by rw [hwb]; exact heap_alloc_new _ _
        have hsb : wo.heap.size + 1 ≤ wb.heap.size := by rw [hwb]; simp
        have KB' : ∀ g, g < w.heap.size → wb.heap[g]? = w.heap[g]? := fun g hg => (hBb.block g (by omega)).trans (KO g hg)
        have hgr : (listR spansR).rel wb (upto wb.heap.size) [.slice A5 fg.length c5] fg := (listR spansR).mono (fun p hp => hBb.cell (by have : p.block < w.heap.size := hp; omega)) (fun b hb => by have : b < w.heap.size := hb; show b < _; omega) q7
        have hor : (listR termR).rel wb (upto wb.heap.size) [.slice A6 fo.length c6] fo := (listR termR).mono (fun p hp => hBb.cell (by have : p.block < w.heap.size := hp; omega)) (fun b hb => by have : b < w.heap.size := hb; show b < _; omega) q8
        have hxr : wordR.rel wb (upto wb.heap.size) [vx] x := wordR.mono (fun p hp => World.cell?_of_block (KB' _ hp)) (fun b hb => by have : b < w.heap.size := hb; show b < _; omega) HX.out
        have hvx : wb.cell? ⟨RB, 6, none⟩ = some vx := cell_of_row _ _ 6 _ _ _ ((KB' RB hRw).trans HRB.out)
        have HEN := hid (ends_calls RB vx (.slice A5 fg.length c5) (.slice A6 fo.length c6) s x fg a wb hvx hxr hgr ha)
        have HWR := hid fun W5 (hW : Below wb.heap.size wb W5) (hf : fitsX x fg a) => rwrites_calls RB vx (.slice A6 fo.length c6) x fo a fg.length W5 ((hW.cell (p := ⟨RB, 6, none⟩) (by show RB < _; omega)).trans hvx) (wordR.below hxr hW hW.size) ((listR termR).below hor hW hW.size) (by have := hf.1; omega) HXS.out (terms_ok hfw hfg hf ha) (by omega)
        have hfin : finOut d x a (q' : Int) = if endsB x fg a then [writesV fo (winF x a fg.length)] else [] := by
          unfold finOut
          rw [Int.toNat_natCast, hq]
        have HSN : Hid (((finalsOf d s).take (i + 1)).flatMap (finOut d x a) = L ++ if endsB x fg a then [writesV fo (winF x a fg.length)] else []) := hid (by rw [flat_take hz, hfin, ← hL])
        have e1 : wo.cell? ⟨D0, 5, none⟩ = some (.slice (some ⟨b2, o2, none⟩) d.finals.length cf) := cell_of_row _ _ 5 _ _ _ ((KO D0 hD0w).trans HD0.out)
        have x1 : wb.cell? ⟨PR, 0, none⟩ = some (.pointer (some ⟨RB, 0, none⟩)) := cell_of_row _ _ 0 _ _ _ ((KB' PR hPRw).trans HPR.out)
        have x2 : wb.cell? ⟨wo.heap.size, 0, none⟩ = some (.int .i64 s) := cell_of_row _ _ 0 _ _ _ hbx
        have x3 : wb.cell? ⟨wo.heap.size, 1, none⟩ = some (.slice A5 fg.length c5) := cell_of_row _ _ 1 _ _ _ hbx
        have x4 : wb.cell? ⟨wo.heap.size, 2, none⟩ = some (.slice A6 fo.length c6) := cell_of_row _ _ 2 _ _ _ hbx
        have HFL := hid hFL
        have HB := hid hB
        have HBb := hid hBb
        have HBX := hid hbx
        have HWB := hid hwb
        have HKB := hid KB'
        have hend : endsB x fg a = true → fitsX x fg a := fun h => ((endsB_iff ha).1 h).2
        obtain ⟨te, hte⟩ : ∃ te, te = endsB x fg a := ⟨_, rfl⟩
        rw [← hte] at HEN HSN hend
        have HFO := hid (show fo.length ≤ 64 from hfo)
        rw [hwb] at x1 x2 x3 x4
        clear hz hq q6 q7 q8 hfg hfw hfo hgr hor hxr hvx hfin hte hFL hB hBb hbx KB' KO hwb hil hL
        go_wp2_with fail
        rw [← HWB.out]
        refine HEN.out.mono ?_
        rintro e w5 ⟨rfl, hB5⟩
        have hs5 := hB5.size
        have HB5 := hid hB5
        cases te with
        | true =>
          have hfx := hend rfl
          have HW6 := hid (HWR.out w5 hB5 hfx)
          have y1 : w5.cell? ⟨PR, 0, none⟩ = some (.pointer (some ⟨RB, 0, none⟩)) := cell_of_row _ _ 0 _ _ _ ((hB5.block PR (by omega)).trans ((HKB.out PR hPRw).trans HPR.out))
          have y3 : w5.cell? ⟨wo.heap.size, 1, none⟩ = some (.slice A5 fg.length c5) := cell_of_row _ _ 1 _ _ _ ((hB5.block wo.heap.size (by omega)).trans HBX.out)
          have y4 : w5.cell? ⟨wo.heap.size, 2, none⟩ = some (.slice A6 fo.length c6) := cell_of_row _ _ 2 _ _ _ ((hB5.block wo.heap.size (by omega)).trans HBX.out)
          clear x1 x2 x3 x4 e1 hcy q1 q2 q3 hB5 HWR HEN
          go_wp2_with fail
          refine HW6.out.mono ?_
          rintro e w6 ⟨u6, rfl, hO6, hB6⟩
          have hs6 := hB6.size
          have hu6 := hO6.fresh (b := wo.heap.size) (by omega)
          obtain ⟨A9, c9, rfl, _, _⟩ := list_form hu6.1
          have hBw6 : Below wo.heap.size wo w6 := (HBb.out.trans (HB5.out.mono (by omega))).trans (hB6.mono (by omega))
          clear y1 y3 y4 hO6
          go_wp2_with (at_builtin; refine Hid.out ?_)
          refine hid ?_
          have hB2a : Below wo.heap.size wo (w6.alloc (.cells #[.slice A9 (writesV fo (winF x a fg.length)).length c9] 37)) := hBw6.alloc hBw6.size _
          have hel := rel_els (rel_fresh hu6 ((Below.refl _ w6).alloc (Nat.le_refl _) (.cells #[.slice A9 (writesV fo (winF x a fg.length)).length c9] 37))) HFL.out.own_lt hs
          show wpList _ _ _ _ _ _
          refine wpList_append_fl (r := nwordR) (v := .slice Al L.length cl) (xs := L) (by rfl) _ _ 34 (by rfl) inf _ 24 Tryz.underlying34 hi0 hz0 hz1 hz2 rfl (by decide) (by rfl) HFL.out hB2a (Nat.le_trans hs hB2a.size) ⟨w6.heap.size, 0, none⟩ 1 (writesV fo (winF x a fg.length)) [.slice A9 (writesV fo (winF x a fg.length)).length c9] (by rfl) hel
            (news_at (w := w6) (cs := #[_]) rfl) (by simp [Value.oneCell']) (by unfold maxLen; omega) (by omega) ?_
          intro v' w3 hFL3 hB3
          obtain ⟨A8, c8, rfl⟩ := hFL3.len
          have HFL3 := hid hFL3
          have HB3 := hid ((HB.out.trans (hB2a.mono hs)).trans hB3)
          rw [show (L ++ [writesV fo (winF x a fg.length)]).length = L.length + 1 by simp] at HFL3 ⊢
          clear hFL3 hB3 hu6 hBw6 hB6 hel hB2a
          go_wp2_with fail
          refine ⟨⟨i + 1, by omega, by go_num, (by rw [HSN.out]; simp only [if_true]; exact HFL3.out), HB3.out⟩, ?_⟩
          simp [intOf]; omega
        | false =>
          have HFL5 := hid (HFL.out.later (HBb.out.trans (hB5.mono (by omega))))
          have HBw5 := hid (HB.out.trans ((HBb.out.trans (hB5.mono (by omega))).mono hs))
          clear x1 x2 x3 x4 e1 hcy q1 q2 q3 hB5 HWR HEN
          go_wp2_with fail
          refine ⟨⟨i + 1, by omega, by go_num, (by rw [HSN.out]; simp only [Bool.false_eq_true, reduceIte, List.append_nil]; exact HFL5.out), HBw5.out⟩, ?_⟩
          simp [intOf]; omega
      · obtain rfl : i = (finalsOf d s).length := by omega
        have hil' : ¬ (((finalsOf d s).length : Int) < (finalsOf d s).length) := by omega
        rw [List.take_length] at hL
        have KO2 : ∀ g, g < w.heap.size → wo.heap[g]? = w.heap[g]? := KO
        have cPR := cell_of_row _ _ 0 _ _ _ ((KO2 PR hPRw).trans HPR.out)
        have cR7 : wo.cell? ⟨RB, 7, none⟩ = some (.slice (some ⟨R, 0, none⟩) n n) := cell_of_row _ _ 7 _ _ _ ((KO2 RB hRw).trans HRB.out)
        have cRs : wo.cell? ⟨R, s, none⟩ = some (.slice A8' (rulesOf d s).length c8') := (World.cell?_of_block (KO2 R (block_lt_of_cell HCR.out))).trans HCR.out
        have HL1 := hid hL
        have HFL1 := hid hFL
        have HB1 := hid hB
        clear hL hFL hB KO KO2 hil
        go_wp2_with fail
        clear cPR cR7 cRs
        generalize wo = wz at *
        go_loopw [9, 61] (fun vl vi wr => ∃ i : Nat, i ≤ (rulesOf d s).length ∧ vi = .int .i64 i ∧ FL 37 nwordR wr w.heap.size w.heap.size vl ((finalsOf d s).flatMap (finOut d x a) ++ ((rulesOf d s).take i).flatMap (ruleOut d x n a W)) ∧ Below w.heap.size w wr) (fun _ vi _ => (rulesOf d s).length - (intOf vi).toNat)
        case atStart => exact ⟨0, Nat.zero_le _, rfl, by rw [List.take_zero, List.flatMap_nil, List.append_nil, ← HL1.out]; exact HFL1.out, HB1.out⟩
        case round =>
          obtain ⟨i, hi, rfl, hFL, hB⟩ := hrel
          obtain ⟨wo, hwo⟩ : ∃ wo, wo = wr := ⟨_, rfl⟩
          subst hwo
          have hs := hB.size
          obtain ⟨L, hL⟩ : ∃ L, L = ((finalsOf d s).flatMap (finOut d x a) ++ ((rulesOf d s).take i).flatMap (ruleOut d x n a W)) := ⟨_, rfl⟩
          rw [← hL] at hFL
          have hsucc : ∀ (r : Rule), r ∈ d.rules → r.src = (s : Int) → fitsX x r.guards a → (listR nwordR).rel w (fun b => H2 ≤ b ∧ b < w.heap.size) [f ((a + r.eat.toNat) * n + r.dst.toNat)] (W ((a + r.eat.toNat) * n + r.dst.toNat)) ∧ WordsOf d x (a + r.eat.toNat) r.dst.toNat most (W ((a + r.eat.toNat) * n + r.dst.toNat)) := fun r hr hsr hfx => by
            obtain ⟨_, g2, g3, g4, g5, _⟩ := HOK.out.rule r hr
            have hfl2 := hfx.1
            refine HF.out (a + r.eat.toNat) r.dst.toNat (by omega) (by omega) ?_ ((live_iff HOK.out HO.out.1 HO.out.2.1 HO.out.2.2 (by omega)).2 ?_)
            · by_cases he : r.eat = 0
              · right
                rw [he]
                refine ⟨rfl, ?_⟩
                obtain ⟨j, hj1, hj2⟩ := HO.out.1.eps q s r.dst HQ.out ⟨r, hr, g5 he, hsr, rfl⟩
                rw [show ((r.dst.toNat : Nat) : Int) = r.dst by omega]
                exact List.mem_of_getElem? (i := j) (by rw [List.getElem?_take, if_pos hj1]; exact hj2)
              · exact .inl (by omega)
            · have := Reach.step r ((live_iff HOK.out HO.out.1 HO.out.2.1 HO.out.2.2 hsn).1 HLV.out) hr hsr hfx
              rwa [show ((r.dst.toNat : Nat) : Int) = r.dst by omega]
          have hrlen : ∀ (z : Int), z ∈ rulesOf d s → (ruleOut d x n a W z).length ≤ most := fun z hz => ruleOut_len fun r hr hf => by
            obtain ⟨q', r', rfl, hq', hsr⟩ := rulesOf_mem.1 hz
            rw [Int.toNat_natCast, hq'] at hr
            injection hr with hr
            subst hr
            exact (hsucc r' (List.mem_of_getElem? hq') hsr (fitsB_iff.1 hf)).2.2.2
          have hLl : L.length ≤ 4096 + 4096 * most := by
            rw [hL, List.length_append]
            have p1 := flat_le (m := 1) (f := finOut d x a) (l := finalsOf d s) fun z _ => finOut_len d x a z
            have p2 := flat_le (m := most) (f := ruleOut d x n a W) (l := (rulesOf d s).take i) fun z hz => hrlen z (List.mem_of_mem_take hz)
            have p3 : ((rulesOf d s).take i).length * most ≤ 4096 * most := Nat.mul_le_mul_right _ (by rw [List.length_take]; omega)
            omega
          have KO : ∀ g, g < w.heap.size → wo.heap[g]? = w.heap[g]? := fun g hg => hB.block g hg
          obtain ⟨Al, cl, rfl⟩ := hFL.len
          by_cases hil : i < (rulesOf d s).length
          · have hil' : (i : Int) < (rulesOf d s).length := by omega
            obtain ⟨z, hz⟩ := at_lt hil
            obtain ⟨q', ⟨rs, rd, rg, re, ro⟩, rfl, hq, hsrc⟩ := rulesOf_mem.1 (List.mem_of_getElem? hz)
            dsimp only at hsrc
            subst hsrc
            obtain ⟨b1, o1, y1, rfl, hb1, ⟨hy1, _⟩, hcy⟩ := list_at1 rfl ((listR intR).mono (w' := wo) (S' := upto w.heap.size) (fun p hp => World.cell?_of_block (KO _ hp)) (fun _ h => h) HYR.out) hz
            injection hy1 with hy1 _
            subst hy1
            obtain ⟨b2, o2, v2, u2, rfl, hb2, q1, q2, q3, q4, q5, q6, q7, q8⟩ := rule_at ((listR ruleR).mono (w' := wo) (S' := upto w.heap.size) (fun p hp => World.cell?_of_block (KO _ hp)) (fun _ h => h) HVR.out) hq
            dsimp only at q1 q2 q4 q7 q8
            obtain ⟨A5, c5, rfl, _, _⟩ := list_form q7
            obtain ⟨A6, c6, rfl, _, _⟩ := list_form q8
            have hql : (q' : Int) < d.rules.length := by have := (List.getElem?_eq_some_iff.1 hq).1; omega
            obtain ⟨_, hrd, hre0, hre, _, hfo, hfg, hfw⟩ := HOK.out.rule _ (List.mem_of_getElem? hq)
            have hsc := hsucc _ (List.mem_of_getElem? hq) rfl
            dsimp only at hrd hre0 hre hfo hfg hfw hsc
            obtain ⟨t, rfl⟩ : ∃ t : Nat, rd = t := ⟨rd.toNat, by omega⟩
            obtain ⟨ee, rfl⟩ : ∃ ee : Nat, re = ee := ⟨re.toNat, by omega⟩
            simp only [Int.toNat_natCast] at hsc
            have htn : t < n := by omega
            have heg : ee ≤ rg.length := by omega
            obtain ⟨wb, hwb⟩ : ∃ wb, wb = wo.alloc (.cells #[.int .i64 s, .int .i64 t, .slice A5 rg.length c5, .int .i64 ee, .slice A6 ro.length c6] 46) := ⟨_, rfl⟩
            have hBb : Below wo.heap.size wo wb := by rw [hwb]; exact (Below.refl _ wo).alloc (Nat.le_refl _) _
            have hbx : wb.heap[wo.heap.size]? = some (.cells #[.int .i64 s, .int .i64 t, .slice A5 rg.length c5, .int .i64 ee, .slice A6 ro.length c6] 46) := by rw [hwb]; exact heap_alloc_new _ _
            have hsb : wo.heap.size + 1 ≤ wb.heap.size := by rw [hwb]; simp
            have KB' : ∀ g, g < w.heap.size → wb.heap[g]? = w.heap[g]? := fun g hg => (hBb.block g (by omega)).trans (KO g hg)
            have hgr : (listR spansR).rel wb (upto wb.heap.size) [.slice A5 rg.length c5] rg := (listR spansR).mono (fun p hp => hBb.cell (by have : p.block < w.heap.size := hp; omega)) (fun b hb => by have : b < w.heap.size := hb; show b < _; omega) q7
            have hor : (listR termR).rel wb (upto wb.heap.size) [.slice A6 ro.length c6] ro := (listR termR).mono (fun p hp => hBb.cell (by have : p.block < w.heap.size := hp; omega)) (fun b hb => by have : b < w.heap.size := hb; show b < _; omega) q8
            have hxr : wordR.rel wb (upto wb.heap.size) [vx] x := wordR.mono (fun p hp => World.cell?_of_block (KB' _ hp)) (fun b hb => by have : b < w.heap.size := hb; show b < _; omega) HX.out
            have hvx : wb.cell? ⟨RB, 6, none⟩ = some vx := cell_of_row _ _ 6 _ _ _ ((KB' RB hRw).trans HRB.out)
            have HEN := hid (rfits_calls RB vx (.slice A5 rg.length c5) x rg a wb hvx hxr hgr ha)
            have HWR := hid fun W5 (hW : Below wb.heap.size wb W5) (hf : fitsX x rg a) => rwrites_calls RB vx (.slice A6 ro.length c6) x ro a rg.length W5 ((hW.cell (p := ⟨RB, 6, none⟩) (by show RB < _; omega)).trans hvx) (wordR.below hxr hW hW.size) ((listR termR).below hor hW hW.size) (by have := hf.1; omega) HXS.out (terms_ok hfw hfg hf ha) (by omega)
            obtain ⟨JE, hJE⟩ : ∃ JE, JE = (a + ee) * n := ⟨_, rfl⟩
            have hJEi : ((a : Int) + (ee : Int)) * (n : Int) = (JE : Int) := by rw [hJE]; push_cast; rfl
            rw [← hJE] at hsc
            have hout : ruleOut d x n a W (q' : Int) = if fitsB x rg a then (W (JE + t)).map (writesV ro (winF x a rg.length) ++ ·) else [] := by
              unfold ruleOut
              rw [Int.toNat_natCast, hq, hJE]
              rfl
            have HSN : Hid ((finalsOf d s).flatMap (finOut d x a) ++ ((rulesOf d s).take (i + 1)).flatMap (ruleOut d x n a W) = L ++ if fitsB x rg a then (W (JE + t)).map (writesV ro (winF x a rg.length) ++ ·) else []) := hid (by rw [flat_take hz, hout, hL, List.append_assoc])
            have e1 : wo.cell? ⟨D0, 4, none⟩ = some (.slice (some ⟨b2, o2, none⟩) d.rules.length cr) := cell_of_row _ _ 4 _ _ _ ((KO D0 hD0w).trans HD0.out)
            have x1 : wb.cell? ⟨PR, 0, none⟩ = some (.pointer (some ⟨RB, 0, none⟩)) := cell_of_row _ _ 0 _ _ _ ((KB' PR hPRw).trans HPR.out)
            have x3 : wb.cell? ⟨wo.heap.size, 2, none⟩ = some (.slice A5 rg.length c5) := cell_of_row _ _ 2 _ _ _ hbx
            have HFL := hid hFL
            have HB := hid hB
            have HBb := hid hBb
            have HBX := hid hbx
            have HWB := hid hwb
            have HKB := hid KB'
            have HSC := hid hsc
            have HLE := hid hL
            have hend : fitsB x rg a = true → fitsX x rg a := fun h => fitsB_iff.1 h
            obtain ⟨te, hte⟩ : ∃ te, te = fitsB x rg a := ⟨_, rfl⟩
            rw [← hte] at HEN HSN hend
            have HFO := hid (show ro.length ≤ 64 from hfo)
            have HJE := hid hJE
            rw [hwb] at x1 x3
            clear hz hq q6 q7 q8 hfg hfw hfo hgr hor hxr hvx hout hte hFL hB hBb hbx KB' KO hwb hil hL hJE hsc hsucc hrlen
            go_wp2_with fail
            rw [← HWB.out]
            refine HEN.out.mono ?_
            rintro e w5 ⟨rfl, hB5⟩
            have hs5 := hB5.size
            have HB5 := hid hB5
            cases te with
            | false =>
              have HFL5 := hid (HFL.out.later (HBb.out.trans (hB5.mono (by omega))))
              have HBw5 := hid (HB.out.trans ((HBb.out.trans (hB5.mono (by omega))).mono hs))
              clear x1 x3 e1 hcy q1 q2 q3 q4 q5 hB5 HWR HEN
              go_wp2_with fail
              refine ⟨⟨i + 1, by omega, by go_num, (by rw [HSN.out]; simp only [Bool.false_eq_true, reduceIte, List.append_nil]; exact HFL5.out), HBw5.out⟩, ?_⟩
              simp [intOf]; omega
            | true =>
              have hfx := hend rfl
              have hge := hfx.1
              have HW6 := hid (HWR.out w5 hB5 hfx)
              obtain ⟨hsw, hsw2⟩ := HSC.out hfx
              have y1 : w5.cell? ⟨PR, 0, none⟩ = some (.pointer (some ⟨RB, 0, none⟩)) := cell_of_row _ _ 0 _ _ _ ((hB5.block PR (by omega)).trans ((HKB.out PR hPRw).trans HPR.out))
              have y3 : w5.cell? ⟨wo.heap.size, 2, none⟩ = some (.slice A5 rg.length c5) := cell_of_row _ _ 2 _ _ _ ((hB5.block wo.heap.size (by omega)).trans HBX.out)
              have y4 : w5.cell? ⟨wo.heap.size, 4, none⟩ = some (.slice A6 ro.length c6) := cell_of_row _ _ 4 _ _ _ ((hB5.block wo.heap.size (by omega)).trans HBX.out)
              clear x1 x3 e1 hcy q1 q2 q3 q4 q5 hB5 HWR HEN
              go_wp2_with fail
              refine HW6.out.mono ?_
              rintro e w6 ⟨u6, rfl, hO6, hB6⟩
              have hs6 := hB6.size
              have hu6 := hO6.fresh (b := wo.heap.size) (by omega)
              obtain ⟨hd, hhd⟩ : ∃ hd, hd = writesV ro (winF x a rg.length) := ⟨_, rfl⟩
              have hhl : hd.length ≤ 64 := by rw [hhd]; unfold writesV; rw [List.length_map]; exact HFO.out
              rw [← hhd] at hu6 HSN
              obtain ⟨A9, c9, rfl, _, _⟩ := list_form hu6.1
              have hBw6 : Below wo.heap.size wo w6 := (HBb.out.trans (HB5.out.mono (by omega))).trans (hB6.mono (by omega))
              have K6 : ∀ g, g < w.heap.size → w6.heap[g]? = w.heap[g]? := fun g hg => (hBw6.block g (by omega)).trans (HB.out.block g hg)
              have hbx6 := (hB6.block wo.heap.size (by omega)).trans ((HB5.out.block wo.heap.size (by omega)).trans HBX.out)
              have hix : JE + t < M := by
                have q1 : (a + ee + 1) * n ≤ (x.length + 1) * n := Nat.mul_le_mul_right _ (by omega)
                rw [HM.out, HJE.out]
                rw [Nat.add_mul] at q1
                omega
              have hix' : (JE : Int) + t < M := by omega
              obtain ⟨ws, hws⟩ : ∃ ws, ws = W (JE + t) := ⟨_, rfl⟩
              rw [← hws] at hsw hsw2 HSN
              obtain ⟨Aw, cw, hfw, _, hmw⟩ := list_form hsw
              unfold maxLen at hmw
              have hcs : w6.cell? ⟨SB, JE + t, none⟩ = some (.slice Aw ws.length cw) := by
                rw [← hfw]
                exact (HSB.out.of_block (K6 SB hSBw)).cell hix
              rw [hfw] at hsw
              have z1 := cell_of_row _ _ 0 _ _ _ ((K6 SX hSXw).trans HSX.out)
              have z2 : w6.cell? ⟨wo.heap.size, 3, none⟩ = some (.int .i64 ee) := cell_of_row _ _ 3 _ _ _ hbx6
              have z3 : w6.cell? ⟨D0, 2, none⟩ = some (.int .i64 n) := cell_of_row _ _ 2 _ _ _ ((K6 D0 hD0w).trans HD0.out)
              have z4 : w6.cell? ⟨wo.heap.size, 1, none⟩ = some (.int .i64 t) := cell_of_row _ _ 1 _ _ _ hbx6
              have HST : Hid (FL 37 nwordR w6 w.heap.size w.heap.size (.slice Al L.length cl) L ∧ Below w.heap.size w w6 ∧ nwordR.rel w6 (Els w6 w.heap.size (.slice Al L.length cl)) [.slice A9 hd.length c9] hd) := hid ⟨HFL.out.later hBw6, HB.out.trans (hBw6.mono hs), rel_els hu6 HFL.out.own_lt hs⟩
              have HSW := hid hsw
              have HHD := hid hhd
              have hwl : ws.length ≤ most := hsw2.2.2
              have HWL : Hid (∀ y ∈ ws, y.length ≤ 100000000) := hid fun y hy => HRL.out _ _ y (by omega) ((hsw2.1 y).1 hy)
              clear y1 y3 y4 hO6 hB6 hu6 hBw6 hbx6 K6 hsw hsw2 hhd hws hfw
              go_wp2_with fail
              clear z1 z2 z3 z4 hcs
              go_loopw [9, 98] (fun vl vi wr => ∃ p : Nat, p ≤ ws.length ∧ vi = .int .i64 p ∧ FL 37 nwordR wr w.heap.size w.heap.size vl (L ++ (ws.take p).map (hd ++ ·)) ∧ Below w.heap.size w wr ∧ nwordR.rel wr (Els wr w.heap.size vl) [.slice A9 hd.length c9] hd) (fun _ vi _ => ws.length - (intOf vi).toNat)
              case atStart => exact ⟨0, Nat.zero_le _, rfl, by rw [List.take_zero, List.map_nil, List.append_nil]; exact HST.out.1, HST.out.2.1, HST.out.2.2⟩
              case round =>
                obtain ⟨p, hp, rfl, hFL, hB, hhr⟩ := hrel
                obtain ⟨wi, hwi⟩ : ∃ wi, wi = wr := ⟨_, rfl⟩
                subst hwi
                have hsi := hB.size
                obtain ⟨L2, hL2⟩ : ∃ L2, L2 = L ++ (ws.take p).map (hd ++ ·) := ⟨_, rfl⟩
                rw [← hL2] at hFL
                have hL2l : L2.length ≤ 4096 + 4096 * most + most := by
                  rw [hL2, List.length_append, List.length_map, List.length_take]
                  omega
                obtain ⟨Ai, ci, rfl⟩ := hFL.len
                by_cases hpl : p < ws.length
                · have hpl' : (p : Int) < ws.length := by omega
                  obtain ⟨y, hy⟩ := at_lt hpl
                  obtain ⟨b3, o3, yv, rfl, hb3, hyr, hcy3⟩ := list_at1 rfl ((listR nwordR).mono (w' := wi) (S' := upto w.heap.size) (fun p hp => World.cell?_of_block (hB.block _ hp.2)) (fun _ h => h.2) HSW.out) hy
                  obtain ⟨A4, c4, rfl, _, _⟩ := list_form hyr.1
                  have HSN2 : Hid (L ++ (ws.take (p + 1)).map (hd ++ ·) = L2 ++ [hd ++ y]) := hid (by rw [List.take_add_one, hy, hL2]; simp)
                  have hyl := HWL.out y (List.mem_of_getElem? hy)
                  obtain ⟨wa, hwa⟩ : ∃ wa, wa = wi.alloc (.cells #[.slice A9 hd.length c9, .slice A4 y.length c4] 37) := ⟨_, rfl⟩
                  have hBa : Below wi.heap.size wi wa := by rw [hwa]; exact (Below.refl _ wi).alloc (Nat.le_refl _) _
                  have hsa : wi.heap.size + 1 ≤ wa.heap.size := by rw [hwa]; simp
                  have HCC := hid (Concat_calls hd y wi.heap.size (.slice A9 hd.length c9) (.slice A4 y.length c4) wa (by rw [hwa]; exact heap_alloc_new _ _) (nwordR.mono (fun p hp => hBa.cell hp.2.1) (fun b hb => by have := hb.2.1; show b < _; omega) hhr) (nwordR.mono (fun p hp => hBa.cell (by have : p.block < w.heap.size := hp; omega)) (fun b hb => by have : b < w.heap.size := hb; show b < _; omega) hyr) (by omega) (by omega))
                  have HFL2 := hid hFL
                  have HBi := hid hB
                  have HHR := hid hhr
                  have HBa := hid hBa
                  have HWA := hid hwa
                  clear hy hyr hFL hB hhr hBa hwa hL2 hpl
                  go_wp2_with fail
                  rw [← HWA.out]
                  refine HCC.out.mono ?_
                  rintro e w7 ⟨u7, rfl, hu7, hB7⟩
                  have hs7 := hB7.size
                  obtain ⟨A3, c3, rfl, _, _⟩ := list_form hu7.1
                  have hBw7 : Below wi.heap.size wi w7 := HBa.out.trans (hB7.mono (by omega))
                  have hu7' : nwordR.rel w7 (Fresh wi.heap.size w7) [.slice A3 (hd ++ y).length c3] (hd ++ y) := rel_low hu7 (by omega)
                  clear hu7 hcy3
                  rw [show (hd ++ y).length = hd.length + y.length by simp] at hu7' ⊢
                  go_wp2_with (at_builtin; refine Hid.out ?_)
                  refine hid ?_
                  have hB2a : Below wi.heap.size wi (w7.alloc (.cells #[.slice A3 (hd.length + y.length) c3] 37)) := hBw7.alloc hBw7.size _
                  have hel := rel_els (rel_fresh hu7' ((Below.refl _ w7).alloc (Nat.le_refl _) (.cells #[.slice A3 (hd.length + y.length) c3] 37))) HFL2.out.own_lt hsi
                  have hhr2 : nwordR.rel (w7.alloc (.cells #[.slice A3 (hd.length + y.length) c3] 37)) (Els (w7.alloc (.cells #[.slice A3 (hd.length + y.length) c3] 37)) w.heap.size (.slice Ai L2.length ci)) [.slice A9 hd.length c9] hd := nwordR.mono (fun p hp => hB2a.cell hp.2.1) (fun b hb => ⟨hb.1, by have := hb.2.1; have := hB2a.size; omega, hb.2.2⟩) HHR.out
                  show wpList _ _ _ _ _ _
                  refine wpList_append_fl2 (r := nwordR) (v := .slice Ai L2.length ci) (xs := L2) (by rfl) _ _ 34 (by rfl) inf _ 24 Tryz.underlying34 hi0 hz0 hz1 hz2 rfl (by decide) (by rfl) HFL2.out hB2a (Nat.le_trans hsi hB2a.size) ⟨w7.heap.size, 0, none⟩ 1 (hd ++ y) [.slice A3 (hd.length + y.length) c3] (by rfl) hel
                    (news_at (w := w7) (cs := #[_]) rfl) (by simp [Value.oneCell']) (by unfold maxLen; omega) (by omega) ?_
                  intro v' w3 hFL3 hB3 hE3
                  have hhr3 := nwordR.mono (fun p hp => World.cell?_of_block (hE3 _ hp).1) (fun b hb => (hE3 b hb).2) hhr2
                  obtain ⟨A2, c2, rfl⟩ := hFL3.len
                  have HFL3 := hid hFL3
                  have HHR3 := hid hhr3
                  have HB3 := hid ((HBi.out.trans (hB2a.mono hsi)).trans hB3)
                  rw [show (L2 ++ [hd ++ y]).length = L2.length + 1 by simp] at HFL3 HHR3 ⊢
                  clear hFL3 hB3 hE3 hhr3 hhr2 hel hB2a hu7' hBw7 hB7
                  go_wp2_with fail
                  refine ⟨⟨p + 1, by omega, by go_num, (by rw [HSN2.out]; exact HFL3.out), HB3.out, HHR3.out⟩, ?_⟩
                  simp [intOf]; omega
                · obtain rfl : p = ws.length := by omega
                  have hpl' : ¬ ((ws.length : Int) < ws.length) := by omega
                  rw [List.take_length] at hL2
                  have HFLn := hid hFL
                  have HBn := hid hB
                  have HL2 := hid hL2
                  clear hFL hB hhr hL2 hpl
                  go_wp2_with fail
                  refine ⟨⟨i + 1, by omega, by go_num, (by rw [HSN.out]; simp only [if_true]; rw [← HL2.out]; exact HFLn.out), HBn.out⟩, ?_⟩
                  simp [intOf]; omega
          · obtain rfl : i = (rulesOf d s).length := by omega
            have hil' : ¬ (((rulesOf d s).length : Int) < (rulesOf d s).length) := by omega
            rw [List.take_length] at hL
            have hmemL : ∀ y, y ∈ L ↔ Run d x a s y := fun y => by
              rw [hL]
              refine outs_iff ha (fun r hr hsr hfx y => ?_) y
              obtain ⟨_, g2, _⟩ := HOK.out.rule r hr
              have := (hsucc r hr hsr hfx).2.1 y
              rwa [show ((r.dst.toNat : Nat) : Int) = r.dst by omega] at this
            have HSO := hid (Sort_calls L (.slice Al L.length cl) wo hFL.upto (by omega) (fun y hy => by have := HRL.out a s y ha ((hmemL y).1 hy); omega))
            have HME := hid hmemL
            have HB := hid hB
            clear hL hFL hsucc hrlen hmemL hB hil
            go_wp2_with fail
            refine HSO.out.mono ?_
            rintro e w5 ⟨u, ls, rfl, hu, hmem, hpw, hB5⟩
            obtain ⟨A9, c9, rfl, _, hm9⟩ := list_form hu
            unfold maxLen at hm9
            have hs5 := hB5.size
            have hBw : Below w.heap.size w w5 := HB.out.trans (hB5.mono hs)
            have K5 : ∀ g, g < w.heap.size → w5.heap[g]? = w.heap[g]? := fun g hg => hBw.block g hg
            obtain ⟨JK, hJK⟩ : ∃ JK, JK = a * n := ⟨_, rfl⟩
            have hJKi : (a : Int) * (n : Int) = (JK : Int) := by rw [hJK]; push_cast; rfl
            have hix : JK + s < M := by
              have q1 : (a + 1) * n ≤ (x.length + 1) * n := Nat.mul_le_mul_right _ (by omega)
              rw [HM.out, hJK]
              rw [Nat.add_mul] at q1
              omega
            have hix' : (JK : Int) + s < M := by omega
            have cKB := cell_of_row _ _ 0 _ _ _ ((K5 KB hKBw).trans HKB0.out)
            have hMB5 := (K5 MB (by omega)).trans HMB.out
            have cMB := cell_of_row _ _ 0 _ _ _ hMB5
            have fMB : w5.frozen? ⟨MB, 0, none⟩ = false := frozen_of_row _ _ _ _ _ hMB5
            obtain ⟨mb, hmb⟩ : ∃ mb : Bool, mb = decide (most < ls.length) := ⟨_, rfl⟩
            have hdec : decide (most < ls.length) = mb := hmb.symm
            obtain ⟨w6, hw6⟩ : ∃ w6, w6 = w5.setCell ⟨MB, 0, none⟩ (.bool mb) := ⟨_, rfl⟩
            have K6 : ∀ g, g < w5.heap.size → g ≠ MB → w6.heap[g]? = w5.heap[g]? := fun g hg hne => by rw [hw6]; exact heap_setCell_other _ _ _ _ hne
            have hs6 : w6.heap.size = w5.heap.size := by rw [hw6]; simp
            have hSB6 : w6.rowIs SB 34 M f := (HSB.out.of_block (K5 SB hSBw)).of_block (K6 SB (by omega) (by omega))
            have cSB := hSB6.cell hix
            have fSB := hSB6.frozen (JK + s)
            have z1 := cell_of_row _ _ 0 _ _ _ ((K6 SX (by omega) (by omega)).trans ((K5 SX hSXw).trans HSX.out))
            have z3 : w6.cell? ⟨D0, 2, none⟩ = some (.int .i64 n) := cell_of_row _ _ 2 _ _ _ ((K6 D0 (by omega) (by omega)).trans ((K5 D0 hD0w).trans HD0.out))
            rw [hw6] at z1 z3 cSB fSB
            have hmk : most < ls.length ↔ mb = true := by rw [hmb]; simp
            obtain ⟨w7, hw7⟩ : ∃ w7, w7 = w6.setCell ⟨SB, JK + s, none⟩ (.slice A9 ls.length c9) := ⟨_, rfl⟩
            have K7 : ∀ g, g < w5.heap.size → g ≠ MB → g ≠ SB → w7.heap[g]? = w5.heap[g]? := fun g hg h1 h2 => by rw [hw7]; exact (heap_setCell_other _ _ _ _ h2).trans (K6 g hg h1)
            have hs7 : w7.heap.size = w5.heap.size := by rw [hw7]; simp [hs6]
            have hMB7 : w7.heap[MB]? = some (.cells #[.bool mb] 4) := by
              rw [hw7, heap_setCell_other _ _ _ _ (by show MB ≠ SB; omega), hw6, heap_setCell_same w5 MB 0 _ _ _ hMB5]
              rfl
            have hSB7 : w7.rowIs SB 34 M (fun i => if i = JK + s then .slice A9 ls.length c9 else f i) := by rw [hw7]; exact hSB6.set (JK + s) _
            have HFin : Hid (OutI w1 RB LV d x n ord most PR SX MB SB H2 a (q + 1) w7) := hid (by
              obtain ⟨hI1, hI2, hI3, hI4, _⟩ := HI.out
              refine ⟨hI1.trans ⟨by rw [hw7, hw6]; exact hBw.os, by rw [hw7, hw6]; exact hBw.tape, by rw [hw7, hw6]; exact hBw.output, by omega, fun g hg => (K7 g (by omega) (by omega) (by omega)).trans (K5 g (by omega))⟩, by omega, (K7 PR (by omega) (by omega) (by omega)).trans ((K5 PR hPRw).trans hI3), (K7 SX (by omega) (by omega) (by omega)).trans ((K5 SX hSXw).trans hI4), (fun i => if i = JK + s then .slice A9 ls.length c9 else f i), (fun i => if i = JK + s then ls else W i), mb, hMB7, by rw [← HM.out]; exact hSB7, fun h => ?_, fun h a' s' hs' ha' hdn hlv => ?_⟩
              · exact ⟨a, s, ls, (live_iff HOK.out HO.out.1 HO.out.2.1 HO.out.2.2 hsn).1 HLV.out, fun y hy => (HME.out y).1 ((hmem y).1 hy), hpw, hmk.2 h⟩
              · by_cases e : a' * n + s' = JK + s
                · rw [hJK] at e
                  obtain ⟨rfl, rfl⟩ := code_inj hs' hsn e
                  dsimp only
                  rw [← hJK, if_pos rfl, if_pos rfl]
                  refine ⟨(listR nwordR).mono (fun p hp => World.cell?_of_block (K7 _ hp.2 (by have := hp.1; omega) (by have := hp.1; omega))) (fun b hb => ⟨by have := hb.1; omega, by have := hb.2; omega⟩) hu, fun y => (hmem y).trans (HME.out y), hpw, ?_⟩
                  have : ¬ most < ls.length := fun h2 => by rw [hmk.1 h2] at h; cases h
                  omega
                · dsimp only
                  rw [if_neg e, if_neg e]
                  have hdn2 : DoneP ord a q a' s' := by
                    rcases hdn with h2 | ⟨h2, h3⟩
                    · exact .inl h2
                    · rw [List.take_add_one, HQ.out] at h3
                      rcases List.mem_append.1 h3 with h4 | h4
                      · exact .inr ⟨h2, h4⟩
                      · simp at h4
                        exfalso
                        apply e
                        rw [hJK, h2]
                        omega
                  obtain ⟨g1, g2⟩ := HF.out a' s' hs' ha' hdn2 hlv
                  exact ⟨(listR nwordR).mono (fun p hp => World.cell?_of_block ((K7 _ (by have := hp.2; omega) (by have := hp.1; omega) (by have := hp.1; omega)).trans (K5 _ hp.2))) (fun b hb => ⟨hb.1, by have := hb.2; omega⟩) g1, g2⟩)
            have HW6 := hid hw6
            have HW7 := hid hw7
            rw [hw6] at hw7
            have HW7' := hid hw7
            clear hJK hu hmem hpw hB5 hBw K5 hMB5 hmb hw6 K6 hs6 hSB6 hmk hw7 K7 hs7 hMB7 hSB7
            go_wp2_with fail
            rw [← HW7'.out]
            refine bodyPost_end (results_none rfl _ _ _) rfl ?_
            exact ⟨rfl, HFin.out⟩
end Go.Proofs.YthfcbbdghggefaaGreat
namespace Go.Proofs.YthfcbbdghggefaaGreat
open Go.Proofs Go.Um Go.RowKit
def asksC (d : Desc) (x : List Int) : Int := if (whereF d).1 = 0 then (if x.length ≤ 1024 then (if x.all (hasB (domF d.inn)) then 0 else 1) else 4) else 2
def asksF (d : Desc) (x : List Int) (most : Int) : Int := if asksC d x = 0 then (if most < 1 then 1 else 0) else asksC d x
def OutPost (d : Desc) (x : List Int) (most : Int) (w : World) (e : Ending) (w' : World) : Prop :=
  Below w.heap.size w w' ∧ ((asksF d x most ≠ 0 ∧ e = .returned (.tuple #[.slice none 0 0, .int .i64 (asksF d x most)])) ∨
    (asksF d x most = 0 ∧ e = .returned (.tuple #[.slice none 0 0, .int .i64 5]) ∧ TooMany d x most.toNat) ∨
    (asksF d x most = 0 ∧ ¬ TooMany d x most.toNat ∧ ∃ u ls, e = .returned (.tuple #[u, .int .i64 0]) ∧ (listR nwordR).rel w' (Fresh w.heap.size w') [u] ls ∧ WordsOf d x 0 d.start most.toNat ls))
set_option maxHeartbeats 1000000 in
set_option maxRecDepth 100000 in
theorem rcheck_calls (d : Desc) (x : List Int) (v u vx : Value) (w : World) (hv : (listR ruleR).rel w (upto w.heap.size) [v] d.rules) (hu : (listR finalR).rel w (upto w.heap.size) [u] d.finals) (hx : wordR.rel w (upto w.heap.size) [vx] x) :
    Calls Tryz.prog 47 #[.agg #[.int .i64 d.inn, .int .i64 d.out, .int .i64 d.states, .int .i64 d.start, v, u], vx] w fun e w' => e = .returned (.int .i64 (asksC d x)) ∧ Below w.heap.size w w' := by
  have HC := hid fun W (hW : Below w.heap.size w W) => Check_calls d v u W ((listR ruleR).below hv hW hW.size) ((listR finalR).below hu hW hW.size)
  have HF := hid fun W (hW : Below w.heap.size w W) => wFits_calls d.inn x vx W _ (wordR.below hx hW hW.size)
  obtain ⟨A1, c1, rfl, hc1, hm1⟩ := list_form hv
  obtain ⟨A2, c2, rfl, hc2, hm2⟩ := list_form hu
  obtain ⟨A3, c3, rfl, hc3, hm3⟩ := list_form hx
  unfold maxLen at hm1 hm2 hm3
  obtain ⟨ac, hac⟩ : ∃ ac, ac = asksC d x := ⟨_, rfl⟩
  rw [← hac]
  have hB0 : Below w.heap.size w (w.alloc (.cells #[.int .i64 d.inn, .int .i64 d.out, .int .i64 d.states, .int .i64 d.start, .slice A1 d.rules.length c1, .slice A2 d.finals.length c2] 27)) := (Below.refl _ w).alloc (Nat.le_refl _) _
  have HX0 := hid (heap_alloc_new w (.cells #[.int .i64 d.inn, .int .i64 d.out, .int .i64 d.states, .int .i64 d.start, .slice A1 d.rules.length c1, .slice A2 d.finals.length c2] 27))
  unfold asksC at hac
  by_cases c1 : (whereF d).1 = 0
  · simp only [if_pos c1] at HC hac
    by_cases c2 : x.length ≤ 1024
    · rw [if_pos c2] at hac
      have hlt : ¬ ((1024 : Int) < x.length) := by omega
      obtain ⟨ab, hab⟩ : ∃ ab, ab = x.all (hasB (domF d.inn)) := ⟨_, rfl⟩
      rw [← hab] at HF hac
      have HAC := hid hac
      have HB0 := hid hB0
      clear hv hu hx hac hab hB0 c1
      go_enter Tryz.func47, Tryz.ntmps47
      go_wp2_with fail
      refine (HC.out _ HB0.out).mono ?_
      rintro e w5 ⟨rfl, hB5⟩
      have hb5 := (hB5.block w.heap.size (by simp)).trans HX0.out
      have k0 := cell_of_row _ _ 0 _ _ _ hb5
      have HB5 := hid (HB0.out.trans (hB5.mono (by simp)))
      clear hB5 hb5
      go_wp2_with fail
      refine (HF.out _ HB5.out).mono ?_
      rintro e w6 ⟨rfl, rfl⟩
      cases ab with
      | true =>
        go_wp2_with fail
        go_ret
        exact ⟨by rw [HAC.out]; rfl, HB5.out⟩
      | false =>
        go_wp2_with fail
        go_ret
        exact ⟨by rw [HAC.out]; rfl, HB5.out⟩
    · rw [if_neg c2] at hac
      have hlt : (1024 : Int) < x.length := by omega
      have HAC := hid hac
      have HB0 := hid hB0
      clear hv hu hx hac hB0 c1 HF
      go_enter Tryz.func47, Tryz.ntmps47
      go_wp2_with fail
      refine (HC.out _ HB0.out).mono ?_
      rintro e w5 ⟨rfl, hB5⟩
      have HB5 := hid (HB0.out.trans (hB5.mono (by simp)))
      clear hB5
      go_wp2_with fail
      go_ret
      exact ⟨by rw [HAC.out]; rfl, HB5.out⟩
  · simp only [if_neg c1] at HC hac
    have HAC := hid hac
    have HB0 := hid hB0
    clear hv hu hx hac hB0 c1 HF
    go_enter Tryz.func47, Tryz.ntmps47
    go_wp2_with fail
    refine (HC.out _ HB0.out).mono ?_
    rintro e w5 ⟨rfl, hB5⟩
    have HB5 := hid (HB0.out.trans (hB5.mono (by simp)))
    clear hB5
    go_wp2_with fail
    go_ret
    exact ⟨by rw [HAC.out]; rfl, HB5.out⟩
theorem infoWW : (Tryz.prog.info? 34).map (fun i => (i.zero, i.size, i.bytes)) = some (some (.slice none 0 0), 1, 24) := by kernel_rfl
theorem tooMany_not {d : Desc} {x : List Int} {most : Nat} (h : ∀ (a : Nat) (s : Int), Reach d x a s → ∃ ls, WordsOf d x a s most ls) : ¬ TooMany d x most := by
  rintro ⟨a, s, ls, h1, h2, h3, h4⟩
  obtain ⟨ms, m1, _, m3⟩ := h a s h1
  have hnd : ls.Nodup := h3.imp fun {p q} hpq e => by rw [e, cmpW_refl] at hpq; omega
  have := hnd.length_le_of_subset fun y hy => (m1 y).2 (h2 y hy)
  omega
theorem all_dom {s : Int} {x : List Int} (h : x.all (hasB (domF s)) = true) : ∀ z ∈ x, 0 ≤ z ∧ z ≤ 1114111 := fun z hz => dom_bd ((hasB_iff _ _).1 (List.all_eq_true.1 h z hz))
set_option maxHeartbeats 4000000 in
set_option maxRecDepth 100000 in
theorem Outputs_calls (d : Desc) (x : List Int) (most : Int) (v u vx : Value) (w : World) (hv : (listR ruleR).rel w (upto w.heap.size) [v] d.rules) (hu : (listR finalR).rel w (upto w.heap.size) [u] d.finals) (hx : wordR.rel w (upto w.heap.size) [vx] x) (hmost : most ≤ 100000) :
    Calls Tryz.prog 16 #[.agg #[.int .i64 d.inn, .int .i64 d.out, .int .i64 d.states, .int .i64 d.start, v, u], vx, .int .i64 most] w (OutPost d x most w) := by
  have HC := hid fun W (hW : Below w.heap.size w W) => rcheck_calls d x v u vx W ((listR ruleR).below hv hW hW.size) ((listR finalR).below hu hW hW.size) (wordR.below hx hW hW.size)
  have HV := hid hv
  have HU := hid hu
  have HX := hid hx
  obtain ⟨A1, c1, rfl, hc1, hm1⟩ := list_form hv
  obtain ⟨A2, c2, rfl, hc2, hm2⟩ := list_form hu
  obtain ⟨A3, c3, rfl, hc3, hm3⟩ := list_form hx
  unfold maxLen at hm1 hm2 hm3
  clear hv hu hx
  obtain ⟨w0, hw0⟩ : ∃ w0, w0 = (w.alloc (.cells #[.int .i64 d.inn, .int .i64 d.out, .int .i64 d.states, .int .i64 d.start, .slice A1 d.rules.length c1, .slice A2 d.finals.length c2] 27)).alloc (.cells #[.int .i64 most] 3) := ⟨_, rfl⟩
  have hB0 : Below w.heap.size w w0 := by rw [hw0]; exact ((Below.refl _ w).alloc (Nat.le_refl _) _).alloc (by simp) _
  have hs0 : w0.heap.size = w.heap.size + 2 := by rw [hw0]; simp
  have hD0 : w0.heap[w.heap.size]? = some (.cells #[.int .i64 d.inn, .int .i64 d.out, .int .i64 d.states, .int .i64 d.start, .slice A1 d.rules.length c1, .slice A2 d.finals.length c2] 27) := by rw [hw0]; exact (Below.heap_alloc _ _ _ (by simp)).trans (heap_alloc_new _ _)
  have hK0 : w0.heap[w.heap.size + 1]? = some (.cells #[.int .i64 most] 3) := by
    rw [hw0, show w.heap.size + 1 = (w.alloc (.cells #[.int .i64 d.inn, .int .i64 d.out, .int .i64 d.states, .int .i64 d.start, .slice A1 d.rules.length c1, .slice A2 d.finals.length c2] 27)).heap.size by simp]
    exact heap_alloc_new _ _
  by_cases hc : asksC d x = 0
  · by_cases hml : most < 1
    · have hF : Hid (asksF d x most = 1) := hid (by unfold asksF; rw [if_pos hc, if_pos hml])
      rw [hc] at HC
      have HB0 := hid hB0
      have HK0 := hid hK0
      have hs0a : w.heap.size + 2 ≤ w0.heap.size := by omega
      have HW0 := hid hw0
      clear hc hB0 hD0 hK0 hw0 hs0
      go_enter Tryz.func16, Tryz.ntmps16
      go_wp2_with fail
      rw [← HW0.out]
      refine (HC.out _ HB0.out).mono ?_
      rintro e w5 ⟨rfl, hB5⟩
      have k1 := cell_of_row _ _ 0 _ _ _ ((hB5.block (w.heap.size + 1) (by omega)).trans HK0.out)
      have HB5 := hid (HB0.out.trans (hB5.mono (by omega)))
      clear hB5
      go_wp2_with fail
      go_ret2
      exact ⟨HB5.out, .inl ⟨by rw [hF.out]; decide, by rw [hF.out]; rfl⟩⟩
    · obtain ⟨m, rfl⟩ : ∃ m : Nat, most = m := ⟨most.toNat, by omega⟩
      have hF : Hid (asksF d x m = 0) := hid (by unfold asksF; rw [if_pos hc, if_neg hml])
      have hc2 := hc
      unfold asksC at hc2
      split at hc2
      case isFalse => cases hc2
      rename_i hwh
      split at hc2
      case isFalse => cases hc2
      rename_i hxl
      split at hc2
      case isFalse => cases hc2
      rename_i hdom
      clear hc2
      obtain ⟨n, hok, hn0, hn1, hl1, hl2, _, _⟩ := rule_ok hwh
      obtain ⟨ρ, hρ1, hρ2⟩ := rank_right hwh
      have hρ3 : ∀ t, ρ t ≤ n + 1 := fun t => by have := hρ1 t; have := hok.st; omega
      have hrl : ∀ (a : Nat) (s : Int) (y : List Int), a ≤ x.length → Run d x a s y → y.length ≤ 100000000 := fun a s y ha hr => by
        have p1 := run_len hok hn1 hρ3 hρ2 hr ha
        have p2 := hρ3 s
        have p3 : (x.length - a) * 1026 ≤ 1024 * 1026 := Nat.mul_le_mul_right _ (by omega)
        omega
      have HBG := hid fun W (hW : Below w.heap.size w W) => begin_calls d x n _ _ _ W ((listR ruleR).below HV.out hW hW.size) ((listR finalR).below HU.out hW hW.size) (wordR.below HX.out hW hW.size) hok hn1 hl1 hl2 hxl ρ hρ2
      rw [hc] at HC
      obtain ⟨st, hst⟩ : ∃ st : Nat, d.start = st := ⟨d.start.toNat, by have := hok.start; omega⟩
      have hstn : st < n := by have := hok.start; omega
      obtain ⟨M, hM⟩ : ∃ M, M = (x.length + 1) * n := ⟨_, rfl⟩
      have hMl : M ≤ 2000000 := by rw [hM]; exact Nat.le_trans (Nat.mul_le_mul (show x.length + 1 ≤ 1025 by omega) hn1) (by decide)
      have hMs : st < M := by
        have : 1 * n ≤ M := by rw [hM]; exact Nat.mul_le_mul_right _ (by omega)
        omega
      obtain ⟨inf, hi0, hz0, hz1, hz2⟩ := info_parts infoWW
      have hmk : ∀ W : World, (Instr.makeSlice 85 (.int .i64 M) (.int .i64 M)).run Tryz.prog W = .ok (.slice (some ⟨W.heap.size, 0, none⟩) M M) (W.alloc (.cells (madeCells #[.slice none 0 0] M) 34)) := fun W => run_make_row 85 34 inf _ Tryz.underlying85 hi0 hz0 hz1 rfl .i64 .i64 M (by rw [hz2]; omega) (by omega) W
      have HRL := hid hrl
      have HXS := hid (all_dom hdom)
      have HOK := hid hok
      have HB0 := hid hB0
      have HK0 := hid hK0
      have HD0 := hid hD0
      have hs0a : w.heap.size + 2 ≤ w0.heap.size := by omega
      have HW0 := hid hw0
      have HST := hid hst
      have HM := hid hM
      clear hc hwh hdom hB0 hD0 hK0 hw0 hs0 hok hρ1 hρ2 hρ3 hrl hM hst
      go_enter Tryz.func16, Tryz.ntmps16
      go_wp2_with fail
      rw [← HW0.out]
      refine (HC.out _ HB0.out).mono ?_
      rintro e w5 ⟨rfl, hB5⟩
      have hs5 := hB5.size
      have k1 := cell_of_row _ _ 0 _ _ _ ((hB5.block (w.heap.size + 1) (by omega)).trans HK0.out)
      have hd5 := (hB5.block w.heap.size (by omega)).trans HD0.out
      have d0 := cell_of_row _ _ 0 _ _ _ hd5
      have d1 := cell_of_row _ _ 1 _ _ _ hd5
      have d2 := cell_of_row _ _ 2 _ _ _ hd5
      have d3 := cell_of_row _ _ 3 _ _ _ hd5
      have d4 := cell_of_row _ _ 4 _ _ _ hd5
      have d5 := cell_of_row _ _ 5 _ _ _ hd5
      have HB5 := hid hB5
      have HB5w := hid (HB0.out.trans (hB5.mono (by omega)))
      clear hB5 hd5
      go_wp2_with fail
      refine (HBG.out _ HB5w.out).mono ?_
      rintro e w1 ⟨RB, LV, ord, rfl, hRB, hLV, hR, ho, hall, hm, hB1⟩
      clear k1 d0 d1 d2 d3 d4 d5
      have hs1 := hB1.size
      have hd1 := (hB1.block w.heap.size (by omega)).trans ((HB5.out.block w.heap.size (by omega)).trans HD0.out)
      have hk1 := (hB1.block (w.heap.size + 1) (by omega)).trans ((HB5.out.block (w.heap.size + 1) (by omega)).trans HK0.out)
      have hBw1 : Below w.heap.size w w1 := HB5w.out.trans (hB1.mono HB5w.out.size)
      obtain ⟨vr, vf, vx', R, F, vo, h1, _⟩ := id hR
      have r10 : ∀ o, (w1.alloc o).cell? ⟨RB, 10, none⟩ = some (.slice (some ⟨LV, 0, none⟩) M M) := fun o => (World.cell?_of_block (a := ⟨RB, 10, none⟩) (Below.heap_alloc _ _ _ (heapLtW h1))).trans (by rw [HM.out]; exact cell_of_row _ _ 10 _ _ _ h1)
      have HR := hid hR
      have HD1 := hid hd1
      have HK1 := hid hk1
      have HBw1 := hid hBw1
      have HOr := hid (And.intro ho (And.intro hm hall))
      have hRl := heapLtW h1
      clear hR ho hall hm hB1 h1 hd1 hk1 hBw1
      go_wp2_with fail
      obtain ⟨w2, hw2⟩ : ∃ w2, w2 = ((((w1.alloc (.cells #[.pointer (some ⟨RB, 0, none⟩)] 83)).alloc (.cells (madeCells #[.slice none 0 0] M) 34)).alloc (.cells #[.slice (some ⟨w1.heap.size + 1, 0, none⟩) M M] 85)).alloc (.cells #[.bool false] 4)) := ⟨_, rfl⟩
      rw [← hw2]
      have g2 : ∀ g, w2.heap[g]? = if g = w1.heap.size + 3 then some (.cells #[.bool false] 4) else if g = w1.heap.size + 2 then some (.cells #[.slice (some ⟨w1.heap.size + 1, 0, none⟩) M M] 85) else if g = w1.heap.size + 1 then some (.cells (madeCells #[.slice none 0 0] M) 34) else if g = w1.heap.size then some (.cells #[.pointer (some ⟨RB, 0, none⟩)] 83) else w1.heap[g]? := fun g => by
        rw [hw2]
        simp only [alloc_get, World.size_alloc, Nat.add_assoc, Nat.reduceAdd]
      have hs2 : w2.heap.size = w1.heap.size + 4 := by rw [hw2]; simp
      have hB2 : Below w1.heap.size w1 w2 := by rw [hw2]; exact ((((Below.refl _ w1).alloc (Nat.le_refl _) _).alloc (by simp) _).alloc (by simp; omega) _).alloc (by simp; omega) _
      have hsb2 : w2.rowIs (w1.heap.size + 1) 34 M (fun _ => .slice none 0 0) := by
        have := World.rowIs_made (w1.alloc (.cells #[.pointer (some ⟨RB, 0, none⟩)] 83)) (.slice none 0 0) M 34
        rw [World.size_alloc] at this
        refine this.of_block ?_
        rw [g2, if_neg (by omega), if_neg (by omega), if_pos rfl, alloc_get, World.size_alloc, if_pos rfl]
      have hE : OutE w1 d n m w.heap.size (w.heap.size + 1) w1.heap.size (w1.heap.size + 2) (w1.heap.size + 3) (w1.heap.size + 1) (w1.heap.size + 4) (.slice A1 d.rules.length c1) (.slice A2 d.finals.length c2) :=
        ⟨by rw [← HOK.out.st]; exact HD1.out, HK1.out, (listR ruleR).below HV.out HBw1.out HBw1.out.size, (listR finalR).below HU.out HBw1.out HBw1.out.size, by omega, by omega, by omega, by omega, by omega⟩
      have h0 : OutI w1 RB LV d x n ord m w1.heap.size (w1.heap.size + 2) (w1.heap.size + 3) (w1.heap.size + 1) (w1.heap.size + 4) x.length 0 w2 := by
        refine ⟨hB2, by omega, by rw [g2, if_neg (by omega), if_neg (by omega), if_neg (by omega), if_pos rfl], by rw [g2, if_neg (by omega), if_pos rfl, ← HM.out], fun _ => .slice none 0 0, fun _ => [], false, by rw [g2, if_pos rfl], by rw [← HM.out]; exact hsb2, fun h => (by cases h), fun _ a' s' _ ha' hdn => ?_⟩
        rcases hdn with h | ⟨_, h⟩
        · omega
        · simp at h
      have hT : Told Tryz.prog 50 #[.pointer (some ⟨w1.heap.size + 3, 0, none⟩), .pointer (some ⟨w1.heap.size, 0, none⟩), .pointer (some ⟨w.heap.size, 0, none⟩), .pointer (some ⟨w1.heap.size + 2, 0, none⟩), .pointer (some ⟨w.heap.size + 1, 0, none⟩)] w1 ord n x.length (liveF d x n ord (x.length + 1)) (OutI w1 RB LV d x n ord m w1.heap.size (w1.heap.size + 2) (w1.heap.size + 3) (w1.heap.size + 1) (w1.heap.size + 4)) := by
        refine ⟨fun a q w h => h.1, fun a q w h => ?_, fun a q s w hI ha hq hs hl => tell_calls w1 RB LV d x n ord m _ _ _ _ _ _ _ _ _ HR.out hE HOK.out hn1 hl1 hl2 hxl HXS.out ⟨by omega, by omega⟩ HOr.out.1 HOr.out.2.1 HOr.out.2.2 HRL.out a q s w hI ha hq hs hl, fun a q s w h ha hq hs hl => ?_, fun a w h => ?_⟩
        · obtain ⟨p1, p2, p3, p4, f, W, many, p5, p6, p7, p8⟩ := h
          exact ⟨p1.drew, p2, p3, p4, f, W, many, p5, p6, p7, fun q1 a' s' q2 q3 q4 q5 => ⟨(listR nwordR).mono (fun _ _ => rfl) (fun _ h => h) (p8 q1 a' s' q2 q3 q4 q5).1, (p8 q1 a' s' q2 q3 q4 q5).2⟩⟩
        · obtain ⟨p1, p2, p3, p4, f, W, many, p5, p6, p7, p8⟩ := h
          refine ⟨p1, p2, p3, p4, f, W, many, p5, p6, p7, fun q1 a' s' q2 q3 q4 q5 => p8 q1 a' s' q2 q3 ?_ q5⟩
          rcases q4 with h2 | ⟨h2, h3⟩
          · exact .inl h2
          · rw [List.take_add_one, hq] at h3
            rcases List.mem_append.1 h3 with h4 | h4
            · exact .inr ⟨h2, h4⟩
            · simp at h4
              exfalso
              have h5 : s' = s := by omega
              rw [h2, h5] at q5
              rw [hl] at q5
              cases q5
        · obtain ⟨p1, p2, p3, p4, f, W, many, p5, p6, p7, p8⟩ := h
          refine ⟨p1, p2, p3, p4, f, W, many, p5, p6, p7, fun q1 a' s' q2 q3 q4 q5 => p8 q1 a' s' q2 q3 ?_ q5⟩
          rcases q4 with h2 | ⟨_, h3⟩
          · by_cases e : a' = a + 1
            · exact .inr ⟨e, by rw [List.take_length]; exact HOr.out.2.2 s' q2⟩
            · exact .inl (by omega)
          · simp at h3
      have hback := back_calls RB LV d x n ord 50 _ _ _ _ _ w1 w2 HR.out hn1 hxl HOr.out.2.1 _ hT h0 (fun args w => enters_of Tryz.func50 (by kernel_rfl) rfl args w)
      have HBK := hid hback
      clear hback hT h0 hE hsb2 hB2 g2 hw2 r10 hmk
      refine HBK.out.mono ?_
      rintro e w3 ⟨rfl, p1, p2, p3, p4, f, W, many, p5, p6, p7, p8⟩
      have cMB := cell_of_row _ _ 0 _ _ _ p5
      have hBf : Below w.heap.size w w3 := HBw1.out.trans (p1.mono HBw1.out.size)
      cases many with
      | true =>
        have hTM := p7 rfl
        have HBf := hid hBf
        clear p1 p3 p4 p5 p6 p7 p8 hBf
        go_wp2_with fail
        go_ret2
        exact ⟨HBf.out, .inr (.inl ⟨hF.out, rfl, hTM⟩)⟩
      | false =>
        have hreach : ∀ (a : Nat) (s : Int), Reach d x a s → ∃ ls, WordsOf d x a s m ls := fun a s hr => by
          obtain ⟨r1, r2, r3⟩ := reach_in HOK.out hr
          obtain ⟨k, rfl⟩ : ∃ k : Nat, s = k := ⟨s.toNat, by omega⟩
          refine ⟨_, (p8 rfl a k (by omega) r1 ?_ ((live_iff HOK.out HOr.out.1 HOr.out.2.1 HOr.out.2.2 (by omega)).2 hr)).2⟩
          by_cases e : a = 0
          · exact .inr ⟨e, by rw [List.take_length]; exact HOr.out.2.2 k (by omega)⟩
          · exact .inl (by omega)
        have hnt := tooMany_not hreach
        obtain ⟨hw, hws⟩ := p8 rfl 0 st hstn (by omega) (.inr ⟨rfl, by rw [List.take_length]; exact HOr.out.2.2 st hstn⟩) ((live_iff HOK.out HOr.out.1 HOr.out.2.1 HOr.out.2.2 hstn).2 (HST.out ▸ Reach.start))
        rw [Nat.zero_mul, Nat.zero_add] at hw hws
        obtain ⟨A9, c9, hfe, _, hm9⟩ := list_form hw
        unfold maxLen at hm9
        rw [← HM.out] at p4 p6
        have z1 := cell_of_row _ _ 0 _ _ _ p4
        have hd3 := (p1.block w.heap.size (by omega)).trans HD1.out
        have z2 := cell_of_row _ _ 3 _ _ _ hd3
        rw [HST.out] at z2
        have z3 := p6.cell hMs
        rw [hfe] at z3 hw
        have hMs' : (st : Int) < M := by omega
        have HFn : Hid (OutPost d x m w (.returned (.tuple #[.slice A9 (W st).length c9, .int .i64 0])) w3) := hid ⟨hBf, .inr (.inr ⟨hF.out, hnt, _, W st, rfl, (listR nwordR).mono (fun _ _ => rfl) (fun b hb => ⟨by have := hb.1; omega, hb.2⟩) hw, by rw [HST.out]; exact hws⟩)⟩
        clear p1 p3 p4 p5 p6 p7 p8 hBf hreach hnt hw hws hfe hd3
        go_wp2_with fail
        go_ret2
        exact HFn.out
  · have hF : Hid (asksF d x most = asksC d x) := hid (by unfold asksF; rw [if_neg hc])
    have hb : (asksC d x == 0) = false := beq_f hc
    have HB0 := hid hB0
    have hs0a : w.heap.size + 2 ≤ w0.heap.size := by omega
    have HW0 := hid hw0
    obtain ⟨ac, hac⟩ : ∃ ac, ac = asksC d x := ⟨_, rfl⟩
    rw [← hac] at HC hF hb hc
    clear hB0 hD0 hK0 hw0 hs0 hac
    go_enter Tryz.func16, Tryz.ntmps16
    go_wp2_with fail
    rw [← HW0.out]
    refine (HC.out _ HB0.out).mono ?_
    rintro e w5 ⟨rfl, hB5⟩
    have HB5 := hid (HB0.out.trans (hB5.mono (by omega)))
    clear hB5
    go_wp2_with fail
    go_ret2
    exact ⟨HB5.out, .inl ⟨by rw [hF.out]; exact hc, by rw [hF.out]; rfl⟩⟩
end Go.Proofs.YthfcbbdghggefaaGreat
namespace Go.Proofs.YthfcbbdghggefaaGreat
open Go.RowKit Go.Um Go.ChangeShapes Go.WideShapes Go.ChangeAt Go.Deep

section
variable {H : Type} {enc : TypeId × Value → H} {w : World} {base : Nat} {spare : Nat → Bool} {held : Bool}
/-- one byte. -/
def byteR : RepOf Int where
  width := 1
  rel := fun _ _ cs x => cs = [.int .u8 x] ∧ 0 ≤ x ∧ x ≤ 255
  len := by rintro w S cs x ⟨rfl, _⟩; rfl
  mono := by intro w w' S S' cs x _ _ h; exact h
abbrev bytesR : RepOf (List Int) := listR byteR
theorem rd_byte {fuel : Nat} {cs : List Value} {x : DataW H × List MemPlace} (h : DataW.trod enc Tryz.prog w base spare held fuel 5 cs = some x) : ∃ y, byteR.rel w (upto w.heap.size) cs y := by
  obtain ⟨n, h1, h2, h3⟩ := DataW.trod_int Tryz.underlying5 h
  refine ⟨n, h1, ?_⟩
  simp [Lit.wf] at h3
  exact ⟨h3.1, h3.2⟩
theorem rd_bytes {fuel : Nat} {cs : List Value} {x : DataW H × List MemPlace} (h : DataW.trod enc Tryz.prog w base spare held fuel 31 cs = some x) : ∃ ys, bytesR.rel w (upto w.heap.size) cs ys :=
  open_rep (r := byteR) Tryz.underlying31 (by kernel_rfl) (by decide) (fun _ _ _ h => rd_byte h) h
end
end Go.Proofs.YthfcbbdghggefaaGreat
