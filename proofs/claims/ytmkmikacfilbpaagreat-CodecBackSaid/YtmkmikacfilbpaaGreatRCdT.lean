/-
  Scalars written as bytes, as the reference does; are all symbols scalars?
-/
import Derived.Test.YtmkmikacfilbpaaGreatRCdE
import Derived.Test.YtmkmikacfilbpaaGreatRCdG
import Derived.Test.YtmkmikacfilbpaaGreatRCdD
namespace Go.Proofs.YtmkmikacfilbpaaGreat
open Go.RowKit Go.Um Go.Proofs
/-- bytes; nothing is the nil slice. -/
def nbytesP (w : World) (S : Nat → Prop) (v : Value) (l : List Int) : Prop := bytesR.rel w S [v] l ∧ ∀ n c, v = .slice none n c → c = 0
theorem OwnB.nrel {e : TypeId} {w : World} {base : Nat} {v : Value} {l : List Int} {S : Nat → Prop} (h : OwnB e w base v l) (hS : ∀ g, v.ownBlock = some g → S g) : nbytesP w S v l := by
  refine ⟨h.rel hS, fun n c hc => ?_⟩
  rcases h.1.2 with ⟨h1, _⟩ | ⟨g, cap, cur, h1, _⟩
  · rw [h1] at hc; injection hc with _ _ hc; exact hc.symm
  · rw [h1] at hc; injection hc with hc; cases hc
theorem OwnB.fresh {e : TypeId} {w : World} {base b : Nat} {v : Value} {l : List Int} (h : OwnB e w base v l) (hb : b ≤ base) : nbytesP w (Fresh b w) v l := h.nrel fun g hg => ⟨Nat.le_trans hb (h.1.lt g hg).1, (h.1.lt g hg).2⟩
theorem bytes_none {w : World} {S : Nat → Prop} {l : List Int} {n c : Nat} (h : bytesR.rel w S [.slice none n c] l) : l = [] := by
  cases l with
  | nil => rfl
  | cons x l =>
    obtain ⟨A, c', e, _, _⟩ := list_form h
    injection e with e1 e2 e3
    subst e1 e2 e3
    obtain ⟨b, o, v, h1, _⟩ := list_at1 rfl h (i := 0) (x := x) rfl
    cases h1
theorem bytes_news {w : World} {S : Nat → Prop} {l : List Int} {ad : Addr} {n c : Nat} (h : bytesR.rel w S [.slice (some ad) n c] l) (j : Nat) (u : Value) (hu : (l.map (Value.int .u8))[j]? = some u) : S ad.block ∧ w.cell? (ad.add j) = some u := by
  rw [List.getElem?_map] at hu
  obtain ⟨x, hx, rfl⟩ := Option.map_eq_some_iff.1 hu
  obtain ⟨b, o, v, h1, h2, ⟨h3, h4⟩, h5⟩ := list_at1 rfl h hx
  injection h3 with h3 _
  subst h3
  injection h1 with h1
  subst h1
  refine ⟨h2, ?_⟩
  have ha : (⟨b, o, none⟩ : Addr).add j = ⟨b, o + j, none⟩ := by unfold Addr.add; split <;> simp_all
  rw [ha]
  simpa [byteR] using h5
theorem bytes_low {w : World} {S : Nat → Prop} {v : Value} {l : List Int} (h : bytesR.rel w S [v] l) : ∀ x ∈ l, 0 ≤ x ∧ x ≤ 255 := fun x hx => by
  obtain ⟨i, hi⟩ := List.mem_iff_getElem?.1 hx
  obtain ⟨A, c, rfl, _, _⟩ := list_form h
  obtain ⟨_, _, _, _, _, ⟨_, h4⟩, _⟩ := list_at1 rfl h hi
  exact h4
theorem wpList_append_bytes {P : Program} {w : World} {ops : Array Oper} {rest : List Oper} {o : Oper} {a : Act} {Q : Exit → Act → World → Prop} (hgd : o.guard = none) (s x : Operand) (t : TypeId)
    (ho : o.op = .call { callee := .builtin .append, args := #[s, x], argTypes := #[t, t] }) (base : Nat) (e : TypeId) (i : TypeInfo) (z : Value) (ht : P.underlying t = some (.slice e)) (hi : P.info? e = some i) (hz : i.zero = some z)
    (hsize : i.size = 1) (hby : i.bytes = 1) (hzs : z.cells.size = 1) (v vx : Value) (l m : List Int) {S : Nat → Prop} (hs : a.eval s = v) (hown : OwnB e w base v l) (hx : a.eval x = vx) (hm : nbytesP w S vx m) (hlen : l.length + m.length ≤ 1000000000000) (hbase : base ≤ w.heap.size)
    (hK : ∀ v' w', OwnB e w' base v' (l ++ m) → Below base w w' → wpList P ops Q rest (a.put o.dst v') w') : wpList P ops Q (o :: rest) a w := by
  obtain ⟨A, c, rfl, _, _⟩ := list_form hm.1
  have hI := bytes_low hm.1
  have hI2 : ∀ x ∈ l ++ m, 0 ≤ x ∧ x ≤ 255 := fun x hx => (List.mem_append.1 hx).elim (hown.2 x) (hI x)
  cases A with
  | none =>
    have h0 := bytes_none hm.1
    subst h0
    have hc := hm.2 _ _ rfl
    subst hc
    refine wpList_append_own_none hgd s x t ho base e i 1 ht hi v _ _ hs hown.1 hx (hK _ _ ?_ (Below.refl _ _))
    rw [List.append_nil]
    exact hown
  | some ad =>
    refine wpList_append_own w hgd s x t ho base e i z 1 1 ht hi hz hsize hby hzs (by decide) v l.length (l.map (Value.int .u8)) hs hown.1 ad m.length c (m.map (Value.int .u8)) hx (by simp) (fun j u hu => (bytes_news hm.1 j u hu).2) (fun u hu => by obtain ⟨x, _, rfl⟩ := List.mem_map.1 hu; rfl) (by unfold maxLen; omega) (by omega) hbase ?_
    intro v' w' h1 h2 _
    refine hK v' w' ⟨?_, hI2⟩ (below_grown hown.1 h2 (Nat.le_refl _) hbase)
    rw [List.length_append, List.map_append]
    exact h1
theorem infoBy : (Tryz.prog.info? 5).map (fun i => (i.zero, i.size, i.bytes)) = some (some (.int .u8 0), 1, 1) := by kernel_rfl
theorem own_belowB {e : TypeId} {w w' : World} {base b : Nat} {v : Value} {l : List Int} (h : OwnB e w base v l) (hb : Below b w w') (hl : ∀ g, v.ownBlock = some g → g < b) : OwnB e w' base v l := ⟨by
  refine ⟨h.1.1, ?_⟩
  rcases h.1.2 with h2 | ⟨g, cap, cur, h2, h3, h4, h5⟩
  · exact .inl h2
  · exact .inr ⟨g, cap, cur, h2, h3, (hb.block g (hl g (by rw [h2]; rfl))).trans h4, h5⟩, h.2⟩
set_option maxHeartbeats 1000000 in
set_option maxRecDepth 100000 in
theorem r2fits_calls (x : List Int) (v : Value) (w : World) (h : wordR.rel w (upto w.heap.size) [v] x) :
    Calls Tryz.prog 36 #[.int .i64 2, v] w fun e w' => e = .returned (.bool (decide (∀ z ∈ x, scalP z))) ∧ w' = w := by
  obtain ⟨A, c, rfl, hc, hm⟩ := list_form h
  unfold maxLen at hm
  have HA := hid h
  have HI := hid fun z W => rin_calls z W
  obtain ⟨fb, hfb⟩ : ∃ fb, fb = decide (∀ z ∈ x, scalP z) := ⟨_, rfl⟩
  have HF := hid hfb
  rw [← hfb]
  clear h hfb
  go_enter Tryz.func36, Tryz.ntmps36
  go_wp2_with fail
  go_loopw [5] (fun vi wr => ∃ k : Nat, k ≤ x.length ∧ vi = .int .i64 k ∧ wr = w ∧ ∀ z ∈ x.take k, scalP z) (fun vi _ => x.length - (intOf vi).toNat)
  case atStart => exact ⟨0, Nat.zero_le _, rfl, rfl, fun z hz => by simp at hz⟩
  case round =>
    obtain ⟨k, hk, rfl, rfl, hz⟩ := hrel
    have HZ := hid hz
    clear hz
    by_cases hlt : k < x.length
    · obtain ⟨z, hz⟩ := at_lt hlt
      have hlt' : (k : Int) < x.length := by omega
      obtain ⟨G, O, rfl, hG, c0, _⟩ := rune_at HA.out hz
      have HX := hid hz
      have HIZ := hid (HI.out z)
      clear hz
      by_cases hs : scalP z
      · rw [decide_eq_true hs] at HIZ
        have HS := hid hs
        clear hs
        go_wp2_with fail
        refine (HIZ.out _).mono ?_
        rintro e w1 ⟨rfl, rfl⟩
        have HN : Hid (∃ k1 : Nat, k1 ≤ x.length ∧ Value.int .i64 ((k : Int) + 1) = .int .i64 k1 ∧ ∀ z ∈ x.take k1, scalP z) := hid ⟨k + 1, by omega, by push_cast; rfl, fun y hy => by
          rw [List.take_add_one, HX.out] at hy
          rcases List.mem_append.1 hy with hy | hy
          · exact HZ.out y hy
          · simp at hy
            subst hy
            exact HS.out⟩
        go_wp2_with fail
        refine ⟨by simpa using HN.out, ?_⟩
        simp [intOf]
        omega
      · rw [decide_eq_false hs] at HIZ
        have HE : Hid (fb = false) := hid (by rw [HF.out]; exact decide_eq_false fun h => hs (h z (List.mem_of_getElem? HX.out)))
        clear hs
        go_wp2_with fail
        refine (HIZ.out _).mono ?_
        rintro e w1 ⟨rfl, rfl⟩
        go_wp2_with fail
        go_ret
        exact ⟨by rw [HE.out]; rfl, rfl⟩
    · have hke : k = x.length := by omega
      subst hke
      have HE : Hid (fb = true) := hid (by rw [HF.out]; have := HZ.out; rw [List.take_length] at this; exact decide_eq_true this)
      have hlt' : ¬ (x.length : Int) < x.length := by omega
      clear hlt
      go_wp2_with fail
      go_ret
      exact ⟨by rw [HE.out]; rfl, rfl⟩
theorem bytesF_len (z : Int) : (bytesF z).length ≤ 4 := by unfold bytesF; split; simp; split; simp; split; simp; split <;> simp
theorem encF_len (x : List Int) : (encF x).length ≤ 4 * x.length := by
  unfold encF
  induction x with
  | nil => simp
  | cons z x ih =>
    have := bytesF_len z
    rw [List.flatMap_cons, List.length_append, List.length_cons]
    omega
set_option maxHeartbeats 1000000 in
set_option maxRecDepth 100000 in
theorem rencode_calls (x : List Int) (hl : x.length ≤ 1000000) (v : Value) (w : World) (h : wordR.rel w (upto w.heap.size) [v] x) :
    Calls Tryz.prog 37 #[v] w fun e w' => ∃ u, e = .returned u ∧ OwnB 5 w' w.heap.size u (encF x) ∧ Below w.heap.size w w' := by
  obtain ⟨inf, hi0, hz0, hz1, hz2⟩ := info_parts infoBy
  obtain ⟨A, c, rfl, hc, hm⟩ := list_form h
  unfold maxLen at hm
  have HA := hid h
  have HR := hid fun z W => rbytes_calls z W
  clear h
  go_enter Tryz.func37, Tryz.ntmps37
  go_wp2_with fail
  go_loopw [3, 4] (fun vo vi wr => ∃ k : Nat, k ≤ x.length ∧ vi = .int .i64 k ∧ (∃ vo', vo' = vo ∧ OwnB 5 wr w.heap.size vo' (encF (x.take k))) ∧ Below w.heap.size w wr) (fun _ vi _ => x.length - (intOf vi).toNat)
  case atStart => exact ⟨0, Nat.zero_le _, rfl, ⟨_, rfl, OwnB.nil⟩, Below.refl _ _⟩
  case round =>
    obtain ⟨wo, hwo⟩ : ∃ wo, wo = wr := ⟨_, rfl⟩
    subst hwo
    obtain ⟨k, hk, rfl, ⟨vo, rfl, ho⟩, hB⟩ := hrel
    obtain ⟨acc, hacc⟩ : ∃ acc, acc = encF (x.take k) := ⟨_, rfl⟩
    have hal : acc.length ≤ 4000000 := by have := encF_len (x.take k); rw [hacc]; rw [List.length_take] at this; omega
    rw [← hacc] at ho
    have HAC := hid hacc
    obtain ⟨Ao, co, rfl, hco, hmo⟩ := list_form (ho.rel (S := fun _ => True) (fun _ _ => trivial))
    unfold maxLen at hmo
    have hs1 := hB.size
    by_cases hlt : k < x.length
    · obtain ⟨z, hz⟩ := at_lt hlt
      have hlt' : (k : Int) < x.length := by omega
      obtain ⟨G, O, rfl, hG, c0, _⟩ := rune_at HA.out hz
      have c0w := (hB.cell (p := ⟨G, O + k, none⟩) hG).trans c0
      have HO := hid ho
      have HB := hid hB
      have HS : Hid (encF (x.take (k + 1)) = acc ++ bytesF z) := hid (by rw [List.take_add_one, hz, hacc]; unfold encF; rw [List.flatMap_append]; simp)
      clear ho hB hz c0 hacc
      go_wp2_with fail
      refine (HR.out z _).mono ?_
      rintro e w1 ⟨u1, rfl, ho1, hB1⟩
      have HO1 := hid (own_belowB HO.out hB1 (fun g hg => (HO.out.1.lt g hg).2))
      have HB1 := hid (HB.out.trans (hB1.mono hs1))
      have HN1 := hid (ho1.fresh (Nat.le_refl _))
      obtain ⟨A1, c1, rfl, _, _⟩ := list_form HN1.out.1
      have hs2 := HB1.out.size
      clear ho1 hB1
      go_wp2_with (at_builtin; refine Hid.out ?_)
      refine hid ?_
      refine wpList_append_bytes rfl _ _ 37 rfl w.heap.size 5 inf _ Tryz.underlying37 hi0 hz0 hz1 hz2 rfl _ _ acc (bytesF z) rfl HO1.out rfl HN1.out (by have := bytesF_len z; omega) hs2 ?_
      intro v' w6 hown6 hB6
      have HN : Hid (OwnB 5 w6 w.heap.size v' (encF (x.take (k + 1)))) := hid (by rw [HS.out]; exact hown6)
      have HBE := hid (HB1.out.trans hB6)
      clear hown6 hB6
      go_wp2_with fail
      refine ⟨⟨k + 1, by omega, by push_cast; rfl, ⟨v', rfl, HN.out⟩, HBE.out⟩, ?_⟩
      simp [intOf]
      omega
    · have hke : k = x.length := by omega
      subst hke
      have HO : Hid (OwnB 5 wo w.heap.size (.slice Ao acc.length co) (encF x)) := hid (by have := ho; rw [hacc, List.take_length] at this ⊢; exact this)
      have HB := hid hB
      have hlt' : ¬ (x.length : Int) < x.length := by omega
      clear ho hB hacc HAC
      go_wp2_with fail
      go_ret
      exact ⟨_, rfl, HO.out, HB.out⟩
end Go.Proofs.YtmkmikacfilbpaaGreat
