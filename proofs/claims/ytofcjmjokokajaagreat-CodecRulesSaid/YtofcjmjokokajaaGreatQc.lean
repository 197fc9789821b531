/-
  The machine's other operations stand for the model's. No program is named here. The machine's other operations stand for the model's, second part. No program is named here. The machine's other operations stand for the model's, third part. No program is named here.
-/
import Derived.Test.YtofcjmjokokajaaGreatQb
import Derived.Laws.IdiomStrings
import Derived.Laws.Cover4
namespace Go.Vm
open Go.RowKit
section
variable {P : Program} {w : World} {Sb : Nat → Prop} {G : Gh} {st : Store}
theorem vun_rv {op : UnOp} {x v : V} {ux : Value} (h : vun op x = some v) (hx : Rv w Sb G x ux) : ∃ u, (Op.unary op ux).run P w = .ok u w ∧ Rv w Sb G v u := by
  unfold vun at h
  split at h
  · cases hx
    split at h
    · cases h; exact ⟨_, by simp [Op.unary, Op.intArith], .int _ _⟩
    · cases h; exact ⟨_, by simp [Op.unary, Op.intBits, bitsOp], .int _ _⟩
    · cases h
  · cases hx
    split at h
    · cases h; exact ⟨_, by simp [Op.unary], .bool _⟩
    · cases h
  · cases h
theorem bnd_spec {d l : Int} {lo : Option V} {ulo : Option Value} (h : bnd d lo = some l) (hlo : ∀ a, lo = some a → ∃ b, ulo = some b ∧ Rv w Sb G a b) (hlo0 : lo = none → ulo = none) : ulo = none ∧ l = d ∨ ∃ k, ulo = some (.int k l) := by
  unfold bnd at h
  split at h
  · cases h; exact .inl ⟨hlo0 rfl, rfl⟩
  · cases h
    obtain ⟨b, hb, hr⟩ := hlo _ rfl
    cases hr
    exact .inr ⟨_, hb⟩
  · cases h
theorem vslice_str {t : TypeId} (ht : P.underlying t = some .string) {lo hi : Option V} {x v : V} {ux : Value} {ulo uhi : Option Value} (h : vslice st true 0 lo hi x = some v) (hx : Rv w Sb G x ux)
    (hlo : ∀ a, lo = some a → ∃ b, ulo = some b ∧ Rv w Sb G a b) (hlo0 : lo = none → ulo = none) (hhi : ∀ a, hi = some a → ∃ b, uhi = some b ∧ Rv w Sb G a b) (hhi0 : hi = none → uhi = none) :
    ∃ u, (Instr.sliceAt t ux ulo uhi none).run P w = .ok u w ∧ Rv w Sb G v u := by
  rw [run_sliceAt_string w t ux ulo uhi none ht]
  unfold vslice at h
  split at h
  · rename_i s
    cases hx
    rw [if_pos rfl] at h
    split at h
    · rename_i l q hl hq
      have hL := bnd_spec hl hlo hlo0
      have hQ := bnd_spec hq hhi hhi0
      split at h
      · rename_i hc
        cases h
        obtain ⟨h0, h1, h2⟩ := hc
        refine ⟨.string (s.extract l.toNat q.toNat), ?_, .str _⟩
        have e1 : (q.toNat : Int) = q := Int.toNat_of_nonneg (by omega)
        have hq0 : 0 ≤ q := by omega
        rcases hL with ⟨rfl, rfl⟩ | ⟨k, rfl⟩ <;> rcases hQ with ⟨rfl, rfl⟩ | ⟨k', rfl⟩
        · simp [Instr.slice, run_underlying ht, Instr.sliceBounds]
        · simp [Instr.slice, run_underlying ht, Instr.sliceBounds, run_sliceBound, h2, hq0]
        · simp [Instr.slice, run_underlying ht, Instr.sliceBounds, run_sliceBound, h0, h1]
        · simp [Instr.slice, run_underlying ht, Instr.sliceBounds, run_sliceBound, h0, h1, h2, e1, hq0]
      · cases h
    · cases h
  · simp at h
  · simp at h
  · simp at h
  · cases h
theorem run_cut {t e : TypeId} {i : TypeInfo} (ht : P.underlying t = some (.slice e)) (hi : P.info? e = some i) (a : Option Addr) (n c : Nat) {ulo uhi : Option Value} {l q : Int} (hL : ulo = none ∧ l = 0 ∨ ∃ k, ulo = some (.int k l)) (hQ : uhi = none ∧ q = n ∨ ∃ k, uhi = some (.int k q))
    (h0 : 0 ≤ l) (h1 : l ≤ q) (h2 : q ≤ c) : (Instr.sliceAt t (.slice a n c) ulo uhi none).run P w = .ok (.slice (if c = l.toNat then a else a.map (·.add (l.toNat * i.size))) (q.toNat - l.toNat) (c - l.toNat)) w := by
  have e1 : (q.toNat : Int) = q := Int.toNat_of_nonneg (by omega)
  have hq0 : 0 ≤ q := by omega
  rcases hL with ⟨rfl, rfl⟩ | ⟨k, rfl⟩ <;> rcases hQ with ⟨rfl, rfl⟩ | ⟨k', rfl⟩
  · simp [Instr.sliceAt, Instr.slice, run_underlying ht, Instr.sliceBounds, run_sizeOf hi]
  · simp [Instr.sliceAt, Instr.slice, run_underlying ht, Instr.sliceBounds, run_sliceBound, hq0, h2, run_sizeOf hi]
  · simp [Instr.sliceAt, Instr.slice, run_underlying ht, Instr.sliceBounds, run_sliceBound, h0, h1, run_sizeOf hi]
  · simp [Instr.sliceAt, Instr.slice, run_underlying ht, Instr.sliceBounds, run_sliceBound, hq0, h0, h1, h2, e1, run_sizeOf hi]
theorem vslice_row (hs : WSim w Sb G st) {t e : TypeId} {i : TypeInfo} (ht : P.underlying t = some (.slice e)) (hi : P.info? e = some i) {lo hii : Option V} {x v : V} {ux : Value} {ulo uhi : Option Value} (h : vslice st false i.size lo hii x = some v) (hx : Rv w Sb G x ux)
    (hlo : ∀ a, lo = some a → ∃ b, ulo = some b ∧ Rv w Sb G a b) (hlo0 : lo = none → ulo = none) (hhi : ∀ a, hii = some a → ∃ b, uhi = some b ∧ Rv w Sb G a b) (hhi0 : hii = none → uhi = none) :
    ∃ u, (Instr.sliceAt t ux ulo uhi none).run P w = .ok u w ∧ Rv w Sb G v u := by
  unfold vslice at h
  split at h
  · simp at h
  · cases hx
    rw [if_pos rfl] at h
    split at h
    · rename_i l q hl hq
      have h3 := bnd_spec hl hlo hlo0
      have h4 := bnd_spec hq hhi hhi0
      split at h
      · rename_i hc
        obtain ⟨rfl, rfl⟩ := hc
        cases h
        refine ⟨_, run_cut ht hi none 0 0 h3 (by simpa using h4) (Int.le_refl _) (Int.le_refl _) (by simp), ?_⟩
        simp
        exact .nil
      · cases h
    · cases h
  · rename_i m xs
    rw [if_pos rfl] at h
    split at h
    · rename_i l q hl hq
      have h3 := bnd_spec hl hlo hlo0
      have h4 := bnd_spec hq hhi hhi0
      split at h
      · rename_i hc
        obtain ⟨c0, c1, c2, rfl⟩ := hc
        cases h
        have hlen : ((xs.drop l.toNat).take (q.toNat - l.toNat)).length = q.toNat - l.toNat := by rw [List.length_take, List.length_drop]; omega
        cases hx with
        | @list _ b o _ c f hb hm hcc hcm hl ho hcell hv =>
          refine ⟨_, run_cut ht hi (some ⟨b, o, none⟩) xs.length c h3 h4 c0 c1 (by omega), ?_⟩
          by_cases hlq : q.toNat - l.toNat = 0
          · rw [hlq]
            have : (xs.drop l.toNat).take 0 = [] := by simp
            rw [this]
            have hc9 : c - l.toNat ≤ maxLen := by omega
            exact .list0 hc9
          · rw [if_neg (by omega)]
            simp only [Option.map_some, addr_add]
            have hat : ∀ (k : Nat) (cs : List V), ((xs.drop l.toNat).take (q.toNat - l.toNat))[k]? = some cs → xs[l.toNat + k]? = some cs := fun k cs hk => by
              rw [List.getElem?_take] at hk
              split at hk
              · rwa [List.getElem?_drop] at hk
              · cases hk
            have hR := Rv.list (w := w) (Sb := Sb) (G := G) (c := c - l.toNat) (fun k j => f (l.toNat + k) j) hb hm (by rw [hlen]; omega) (by omega) (fun k cs hk => hl _ cs (hat k cs hk)) (fun k cs v hk hv' => ho _ cs v (hat k cs hk) hv') (fun k cs j v hk hj => by
              have := hcell _ cs j v (hat k cs hk) hj
              rw [Nat.add_mul] at this
              rw [show o + l.toNat * i.size + k * i.size + j = o + (l.toNat * i.size + k * i.size) + j by omega]
              exact this) (fun k cs j v hk hj => hv _ cs j v (hat k cs hk) hj)
            rw [hlen] at hR
            exact hR
        | @list0 _ a c hcm =>
          have hl0 : l = 0 := by simp at c2; omega
          have hq0 : q = 0 := by simp at c2; omega
          subst hl0 hq0
          refine ⟨_, run_cut ht hi a 0 c (by simpa using h3) (by simpa using h4) (Int.le_refl _) (Int.le_refl _) (by omega), ?_⟩
          simp
          exact .list0 hcm
      · cases h
    · cases h
  · rename_i id g i0 n
    rw [if_pos rfl] at h
    split at h
    · rename_i l q hl hq
      have h3 := bnd_spec hl hlo hlo0
      have h4 := bnd_spec hq hhi hhi0
      split at h
      · rename_i hc
        obtain ⟨c0, c1, c2, c3⟩ := hc
        cases h
        cases hx with
        | @row _ _ _ _ c E a hE hn hw hcap hs' ha =>
          obtain ⟨hwid, hnc⟩ : E.wid = i.size ∧ n ≤ c := by
            unfold okw at c3
            simp only at c3
            split at c3
            · rename_i e' k g' L xs hst
              simp at c3
              obtain ⟨_, hL, _, hT, _⟩ := hs.blk id _ hst
              obtain ⟨E2, r1, cur, r2, r3, r4, r5, r6, r7, _⟩ := hT g c3.2.1 c3.2.2
              rw [hE] at r1
              cases r1
              exact ⟨r2.trans c3.1, by omega⟩
            · cases c3
          refine ⟨_, run_cut ht hi a n c h3 h4 c0 c1 (by omega), ?_⟩
          refine .row hE (by omega) hw (by omega) (by split; exact hs'; simpa using hs') (fun hcond => ?_)
          by_cases hcl : c = l.toNat
          · have : l = 0 := by omega
            subst this
            have hn0 : n = 0 ∨ 0 < n := by omega
            rcases hcond with q1 | q1
            · rw [if_pos hcl, ha (.inl (by simpa using q1))]; simp
            · omega
          · rw [if_neg hcl]
            have : a = some ⟨E.blk, i0 * E.wid, none⟩ := ha (by
              rcases hcond with q1 | q1
              · left; omega
              · right; omega)
            subst this
            simp only [Option.map_some, addr_add]
            rw [Nat.add_mul, hwid]
      · cases h
    · cases h
  · cases h
end
end Go.Vm
namespace Go.Vm
open Go.RowKit
section
variable {P : Program} {w : World} {Sb : Nat → Prop} {G : Gh} {st : Store}
theorem part_rv {t : TypeId} {ti : TI} (ht : tinfo P t = some ti) {cs : List V} {us : Array Value} (hx : Rv w Sb G (.agg cs) (.agg us)) {o : Nat} {v : V} (h : vpart ti.agg o ti.size cs = some v) :
    ∃ u, (part t us o).run P w = .ok u w ∧ Rv w Sb G v u := by
  obtain ⟨i, d, hi, hd, _, hs, _, hagg, _⟩ := tinfo_spec ht
  cases hx with
  | agg h1 ho h2 =>
    unfold vpart at h
    cases ha : ti.agg with
    | true =>
      rw [ha, if_pos rfl] at h
      rw [ha] at hagg
      split at h
      · rename_i hle
        cases h
        refine ⟨.agg (us.extract o (o + ti.size)), ?_, .agg ?_ (fun v hv => ho v (List.mem_of_mem_drop (List.mem_of_mem_take hv))) (fun k v u q1 q2 => ?_)⟩
        · unfold part
          simp [run_isAgg hd, ← hagg, run_sizeOf hi, hs]
        · rw [List.length_take, List.length_drop, Array.size_extract, h1]; omega
        · rw [List.getElem?_take] at q1
          split at q1
          · rename_i hk
            rw [List.getElem?_drop] at q1
            rw [Array.getElem?_extract] at q2
            split at q2
            · exact h2 _ _ _ q1 q2
            · cases q2
          · cases q1
      · cases h
    | false =>
      rw [ha] at h hagg
      simp only [Bool.false_eq_true, if_false] at h
      have hl : o < us.size := by rw [h1]; exact (List.getElem?_eq_some_iff.1 h).1
      refine ⟨us[o], ?_, h2 o v _ h (by simp [hl])⟩
      unfold part
      simp [run_isAgg hd, ← hagg, hl]
theorem vshift_rv {d : Nat} {p v : V} {a : Value} (h : vshift st d p = some v) (hs : WSim w Sb G st) (hp : Rv w Sb G p a) : ∃ b o, a = .pointer (some ⟨b, o, none⟩) ∧ Rv w Sb G v (.pointer (some ⟨b, o + d, none⟩)) := by
  unfold vshift at h
  split at h
  · rename_i id g i o
    split at h
    · rename_i e m G' L xs hst
      split at h
      · rename_i hc
        cases h
        cases hp with
        | @ptr _ _ _ _ E hE hi ho =>
          have hwid : E.wid = m := by
            obtain ⟨_, hL, _, hT, _⟩ := hs.blk id _ hst
            obtain ⟨E2, r1, cur, r2, _⟩ := hT g hc.2.1 hc.2.2
            rw [hE] at r1
            cases r1
            exact r2
          refine ⟨_, _, rfl, ?_⟩
          rw [Nat.add_assoc]
          exact .ptr hE hi (by omega)
      · cases h
    · cases h
  · split at h
    · rename_i cs hc
      cases h
      cases hp with
      | @iptr _ b o f hb hn ho hcell hv =>
        refine ⟨_, _, rfl, .iptr (fun j => f (d + j)) hb (by rw [List.length_drop]; omega) (fun v hv' => ho v (List.mem_of_mem_drop hv')) (fun j v q => ?_) (fun j v q => ?_)⟩
        · rw [List.getElem?_drop] at q
          rw [Nat.add_assoc]
          exact hcell _ v q
        · rw [List.getElem?_drop] at q
          exact hv _ v q
    · cases h
  · cases h
theorem beq_bytes {a b : ByteArray} (h : (a == b) = true) : a = b := by
  cases a with
  | mk x =>
    cases b with
    | mk y =>
      have : (x == y) = true := h
      rw [beq_iff_eq] at this
      rw [this]
theorem bytes_beq (a : ByteArray) : (a == a) = true := by
  cases a with
  | mk x =>
    show (x == x) = true
    simp
theorem veq_same {kk : TK} {u : TypeDesc} (hk : kk = kindOf u) {x y : V} {ux uy : Value} (hx : Rv w Sb G x ux) (hy : Rv w Sb G y uy) {b : Bool} (h : veq kk x y = some b) : Instr.sameNow u ux uy = some b ∧ (b = true → Instr.sameBits 10000 uy ux = true) := by
  unfold veq at h
  split at h
  · cases hx; cases hy
    have := kind_int hk
    subst this
    split at h
    · rename_i hkk
      subst hkk
      cases h
      refine ⟨by simp [Instr.sameNow], fun hb => ?_⟩
      simp at hb
      subst hb
      simp [Instr.sameBits]
    · cases h
  · cases hx; cases hy
    have := kind_str hk
    subst this
    cases h
    refine ⟨rfl, fun hb => ?_⟩
    have := beq_bytes hb
    subst this
    simp [Instr.sameBits, bytes_beq]
  · cases hx; cases hy
    have := kind_bool hk
    subst this
    cases h
    refine ⟨rfl, fun hb => ?_⟩
    simp at hb
    subst hb
    simp [Instr.sameBits]
  · cases h
theorem plain_check {kk : TK} {u : TypeDesc} (hk : kk = kindOf u) (hp : plainKey kk = true) {kt : TypeId} (ht : P.underlying kt = some u) (b : Bool) (n : Nat) (x : Value) : (Instr.checkKey b (n + 1) kt x).run P w = .ok () w := by
  cases u <;> simp [kindOf] at hk <;> subst hk <;> simp [plainKey] at hp <;> simp [Instr.checkKey, run_underlying ht]
theorem vfind_now {kk : TK} {u : TypeDesc} (hk : kk = kindOf u) {x : V} {ux : Value} (hx : Rv w Sb G x ux) : ∀ {es : List (V × V)} {ms : List MapEntry} {i : Nat} {r : Option Nat}, ms.length = es.length → (∀ (j : Nat) (e : V × V) (m : MapEntry), es[j]? = some e → ms[j]? = some m → entryV w Sb G e m) → vfind kk x es i = some r →
    match r with
    | none => Instr.findNow u ux ms i = some none
    | some k => i ≤ k ∧ ∃ m, ms[k - i]? = some m ∧ Instr.findNow u ux ms i = some (some (k, m.val)) ∧ Instr.sameBits 10000 m.key ux = true
  | [], ms, i, r, hl, _, h => by
    have : ms = [] := List.eq_nil_of_length_eq_zero (by simpa using hl)
    subst this
    simp only [vfind] at h
    cases h
    rfl
  | e :: es, ms, i, r, hl, hr, h => by
    cases ms with
    | nil => simp at hl
    | cons m ms =>
      have he := hr 0 e m rfl rfl
      simp only [vfind] at h
      split at h
      · rename_i hq
        cases h
        obtain ⟨h1, h2⟩ := veq_same hk hx he.1 hq
        exact ⟨Nat.le_refl _, m, by simp, by simp [Instr.findNow, h1], h2 rfl⟩
      · rename_i hq
        obtain ⟨h1, _⟩ := veq_same hk hx he.1 hq
        have ih := vfind_now hk hx (es := es) (ms := ms) (i := i + 1) (r := r) (by simpa using hl) (fun j a b q1 q2 => hr (j + 1) a b (by simpa using q1) (by simpa using q2)) h
        cases r with
        | none => simp [Instr.findNow, h1]; exact ih
        | some k =>
          obtain ⟨q1, m', q2, q3, q4⟩ := ih
          refine ⟨by omega, m', ?_, by simp [Instr.findNow, h1]; exact q3, q4⟩
          rw [show k - i = (k - (i + 1)) + 1 by omega]
          simpa using q2
      · cases h
theorem map_at (hs : WSim w Sb G st) {id : Nat} {kt : TypeId} {es : List (V × V)} (h : st id = some (.map kt es)) {u : Value} (hu : Rv w Sb G (.map id) u) :
    ∃ E ms clock, G id 0 = some E ∧ u = .map (some E.blk) ∧ w.heap[E.blk]? = some (.map ms clock) ∧ ms.size = es.length ∧ ∀ (i : Nat) (x : V × V) (y : MapEntry), es[i]? = some x → ms[i]? = some y → entryV w Sb G x y := by
  obtain ⟨E, ms, cl, h1, h2, h3, h4⟩ := hs.blk id _ h
  cases hu with
  | @map _ E' hE =>
    rw [h1] at hE
    cases hE
    exact ⟨E, ms, cl, h1, rfl, h2, h3, h4⟩
theorem vlookup_rv (hs : WSim w Sb G st) {t : TypeId} {ok : Bool} {m k v : V} {um uk : Value} (h : vlookup P st t ok m k = some v) (hm : Rv w Sb G m um) (hk : Rv w Sb G k uk) :
    ∃ u, (Instr.lookup t um uk ok).run P w = .ok u w ∧ Rv w Sb G v u := by
  unfold vlookup at h
  split at h
  · rename_i kt et htk
    obtain ⟨d, hd, hkd⟩ := tk_spec htk
    have := kind_map hkd
    subst this
    split at h
    · cases h
    · rename_i kk hkk
      obtain ⟨dk, hdk, hkk'⟩ := tk_spec hkk
      split at h
      · rename_i hpl
        have key : ∀ (es : List (V × V)) (ms : Array MapEntry), (∀ (b : Bool), True) → ms.size = es.length → (∀ (i : Nat) (x : V × V) (y : MapEntry), es[i]? = some x → ms[i]? = some y → entryV w Sb G x y) →
            (match vfind kk k es 0 with
              | some (some i) => (es[i]?).map fun e => if ok = true then V.tuple [e.2, .bool true] else e.2
              | some none => match (tinfo P et).bind TI.zero with
                | some z => some (if ok = true then V.tuple [z, .bool false] else z)
                | none => none
              | none => none) = some v →
            (Instr.checkKey ms.isEmpty 10000 kt uk).run P w = .ok () w ∧
            (((Instr.findKey kt uk ms.toList).run P w = .ok none w ∧ ∃ zz, (zeroValue et).run P w = .ok zz w ∧ Rv w Sb G v (if ok = true then Value.tuple #[zz, .bool false] else zz)) ∨
             ∃ j val, (Instr.findKey kt uk ms.toList).run P w = .ok (some (j, val)) w ∧ Rv w Sb G v (if ok = true then Value.tuple #[val, .bool true] else val)) := by
          intro es ms _ hsz hrel hh
          refine ⟨plain_check (P := P) (w := w) hkk' hpl hdk ms.isEmpty 9999 uk, ?_⟩
          cases hf : vfind kk k es 0 with
          | none => rw [hf] at hh; cases hh
          | some r =>
            rw [hf] at hh
            have hnow := vfind_now hkk' hk (es := es) (ms := ms.toList) (by simpa using hsz) (fun j e y q1 q2 => hrel j e y q1 (by simpa using q2)) hf
            cases r with
            | none =>
              simp only at hnow hh
              cases hz : (tinfo P et).bind TI.zero with
              | none => rw [hz] at hh; cases hh
              | some z =>
                rw [hz] at hh
                cases hti : tinfo P et with
                | none => rw [hti] at hz; cases hz
                | some ti =>
                  rw [hti] at hz
                  simp only [Option.bind_some] at hz
                  obtain ⟨ie, de, hie, _, _, _, _, _, hze⟩ := tinfo_spec hti
                  rw [hze] at hz
                  cases hzz : ie.zero with
                  | none => rw [hzz] at hz; cases hz
                  | some zz =>
                    rw [hzz] at hz
                    simp only [Option.bind_some] at hz
                    have hzr := (ofVal_rv (w := w) (Sb := Sb) (G := G) hz).1
                    left
                    refine ⟨by simp only [Instr.findKey, Sem.run_bind, run_underlying hdk, Result.andThen_ok, hnow, Sem.run_pure], zz, by simp [zeroValue, typeInfo, hie, hzz], ?_⟩
                    cases ok with
                    | true =>
                      simp at hh
                      subst hh
                      refine .tuple rfl (fun i a b q1 q2 => ?_)
                      match i, q1, q2 with
                      | 0, q1, q2 => simp at q1 q2; subst q1 q2; exact hzr
                      | 1, q1, q2 => simp at q1 q2; subst q1 q2; exact .bool _
                    | false =>
                      simp at hh
                      subst hh
                      exact hzr
            | some j =>
              obtain ⟨_, mm, q2, q3, _⟩ := hnow
              simp only [Nat.sub_zero] at q2
              simp only at hh
              cases he : es[j]? with
              | none => rw [he] at hh; cases hh
              | some e =>
                rw [he] at hh
                simp only [Option.map_some, Option.some.injEq] at hh
                have hr := (hrel j e mm he (by simpa using q2)).2
                right
                refine ⟨j, mm.val, by simp only [Instr.findKey, Sem.run_bind, run_underlying hdk, Result.andThen_ok, q3, Sem.run_pure], ?_⟩
                cases ok with
                | true =>
                  simp at hh
                  subst hh
                  refine .tuple rfl (fun i a b q1 q2 => ?_)
                  match i, q1, q2 with
                  | 0, q1, q2 => simp at q1 q2; subst q1 q2; exact hr
                  | 1, q1, q2 => simp at q1 q2; subst q1 q2; exact .bool _
                | false =>
                  simp at hh
                  subst hh
                  exact hr
        simp only at h
        split at h
        · rename_i es hes
          split at hes
          · cases hes
            cases hm
            obtain ⟨hchk, ⟨r1, zz, r2, r3⟩ | ⟨j, val, r1, r3⟩⟩ := key [] #[] (fun _ => trivial) rfl (fun i x y q => by simp at q) h
            · simp at hchk r1
              exact ⟨_, by simp [Instr.lookup, run_underlying hd, hchk, r1, r2], r3⟩
            · simp at hchk r1
              exact ⟨_, by simp [Instr.lookup, run_underlying hd, hchk, r1], r3⟩
          · rename_i id
            split at hes
            · rename_i kt' es' hst
              cases hes
              obtain ⟨E, ms, cl, h1, rfl, h2, h3, h4⟩ := map_at hs hst hm
              have hget : (getObj E.blk).run P w = .ok (.map ms cl) w := by simp [getObj, Sem.run, h2]
              obtain ⟨hchk, ⟨r1, zz, r2, r3⟩ | ⟨j, val, r1, r3⟩⟩ := key _ ms (fun _ => trivial) h3 h4 h
              · exact ⟨_, by simp [Instr.lookup, run_underlying hd, hget, hchk, r1, r2], r3⟩
              · exact ⟨_, by simp [Instr.lookup, run_underlying hd, hget, hchk, r1], r3⟩
            · cases hes
          · cases hes
        · cases h
      · cases h
  · cases h
end
end Go.Vm
namespace Go.Vm
open Go.RowKit
section
variable {P : Program} {w : World} {Sb : Nat → Prop} {G : Gh} {st : Store}
theorem vupdate_rv (hs : WSim w Sb G st) {t : TypeId} {m k v : V} {um uk uv : Value} {us : List (Nat × Blk)} (h : vupdate P st t m k v = some us) (hm : Rv w Sb G m um) (hk : Rv w Sb G k uk) (hv : Rv w Sb G v uv) :
    ∃ w', (Instr.mapUpdate t um uk uv).run P w = .ok () w' ∧ Nxt w Sb G st w' Sb G (upd st us) := by
  unfold vupdate at h
  split at h
  · rename_i kt et htk
    obtain ⟨d, hd, hkd⟩ := tk_spec htk
    have := kind_map hkd
    subst this
    split at h
    · cases h
    · rename_i kk hkk
      obtain ⟨dk, hdk, hkk'⟩ := tk_spec hkk
      split at h
      · rename_i hpl
        split at h
        · rename_i id
          split at h
          · rename_i kt' es hst
            obtain ⟨E, ms, cl, h1, rfl, h2, h3, h4⟩ := map_at hs hst hm
            have hget : (getObj E.blk).run P w = .ok (.map ms cl) w := by simp [getObj, Sem.run, h2]
            have hchk := plain_check (P := P) (w := w) hkk' hpl hdk false 9999 uk
            have hset : ∀ o, (setObj E.blk o).run P w = .ok () { w with heap := w.heap.setIfInBounds E.blk o } := fun o => by simp [setObj, Sem.run, h2]
            have hlt : E.blk < w.heap.size := (Array.getElem?_eq_some_iff.1 h2).1
            have hturn : ∀ (es' : List (V × V)) (ms' : Array MapEntry) (cl' : Nat), ms'.size = es'.length → (∀ (i : Nat) (x : V × V) (y : MapEntry), es'[i]? = some x → ms'[i]? = some y → entryV w Sb G x y) →
                Nxt w Sb G st { w with heap := w.heap.setIfInBounds E.blk (.map ms' cl') } Sb G (put st id (.map kt' es')) := by
              intro es' ms' cl' q1 q2
              refine Nxt.turn hs rfl rfl rfl (by simp) (fun q hq hne => ?_) (fun _ _ _ h => h) (fun _ _ _ => rfl) (fun q F hl hF => .inr ⟨0, E, (live_map hst).2 rfl, h1, ?_⟩) (fun hmono => ⟨E, ms', cl', h1, ?_, q1, fun i x y a b => ⟨hmono _ _ (q2 i x y a b).1, hmono _ _ (q2 i x y a b).2⟩⟩)
              · have := hne 0 E ((live_map hst).2 rfl) h1
                simp only [Array.getElem?_setIfInBounds]
                rw [if_neg this]
              · simp only [live] at hl
                subst hl
                rw [h1] at hF
                cases hF
                rfl
              · simp [hlt]
            cases hf : vfind kk k es 0 with
            | none => rw [hf] at h; cases h
            | some r =>
              rw [hf] at h
              have hnow := vfind_now hkk' hk (es := es) (ms := ms.toList) (by simpa using h3) (fun j e y q1 q2 => h4 j e y q1 (by simpa using q2)) hf
              cases r with
              | none =>
                cases h
                refine ⟨_, ?_, hturn (es ++ [(k, v)]) (ms.push { key := uk, val := uv, born := cl }) (cl + 1) (by simp [h3]) (fun i x y q1 q2 => ?_)⟩
                · have hfk : (Instr.findKey kt uk ms.toList).run P w = .ok none w := by simp only [Instr.findKey, Sem.run_bind, run_underlying hdk, Result.andThen_ok, hnow, Sem.run_pure]
                  simp [Instr.mapUpdate, run_underlying hd, hget, hchk, hfk, hset]
                · rcases Nat.lt_or_ge i es.length with hi | hi
                  · rw [List.getElem?_append_left hi] at q1
                    rw [Array.getElem?_push, if_neg (by omega)] at q2
                    exact h4 i x y q1 q2
                  · rw [List.getElem?_append_right hi] at q1
                    have : i = es.length := by have := (List.getElem?_eq_some_iff.1 q1).1; simp at this; omega
                    subst this
                    rw [Array.getElem?_push, if_pos h3.symm] at q2
                    simp at q1 q2
                    subst q1 q2
                    exact ⟨hk, hv⟩
              | some j =>
                obtain ⟨_, mm, q2, q3, q4⟩ := hnow
                simp only [Nat.sub_zero] at q2
                cases h
                have hjm : j < ms.size := by have := (List.getElem?_eq_some_iff.1 q2).1; simpa using this
                have hmj : ms[j]? = some mm := by simpa using q2
                refine ⟨_, ?_, hturn (es.set j (k, v)) (ms.modify j fun e => { e with key := uk, val := uv }) cl (by simp [h3]) (fun i x y r1 r2 => ?_)⟩
                · have hfk : (Instr.findKey kt uk ms.toList).run P w = .ok (some (j, mm.val)) w := by simp only [Instr.findKey, Sem.run_bind, run_underlying hdk, Result.andThen_ok, q3, Sem.run_pure]
                  simp [Instr.mapUpdate, run_underlying hd, hget, hchk, hfk, hset, hmj, Instr.keyThatStays, q4]
                · rw [List.getElem?_set] at r1
                  by_cases hij : j = i
                  · subst hij
                    rw [if_pos rfl, if_pos (by omega)] at r1
                    cases r1
                    rw [Array.getElem?_modify, if_pos rfl, hmj] at r2
                    simp at r2
                    subst r2
                    exact ⟨hk, hv⟩
                  · rw [if_neg hij] at r1
                    rw [Array.getElem?_modify, if_neg hij] at r2
                    exact h4 i x y r1 r2
          · cases h
        · cases h
      · cases h
  · cases h
theorem byteList_map : ∀ {ys : List (List V)} {l : List UInt8}, byteList ys = some l → ∀ (i : Nat) (cs : List V), ys[i]? = some cs → ∃ b : Int, cs = [.int .u8 b] ∧ l[i]? = some (UInt8.ofNat b.toNat)
  | [], l, h, i, cs, q => by simp at q
  | y :: ys, l, h, i, cs, q => by
    unfold byteList at h
    split at h
    · rename_i hh; cases hh
    · rename_i b r hh
      cases hh
      cases hr : byteList ys with
      | none => rw [hr] at h; cases h
      | some l' =>
        rw [hr] at h
        cases h
        cases i with
        | zero => simp at q; subst q; exact ⟨b, rfl, rfl⟩
        | succ i => simpa using byteList_map hr i cs (by simpa using q)
    · cases h
theorem byteList_len : ∀ {ys : List (List V)} {l : List UInt8}, byteList ys = some l → l.length = ys.length
  | [], l, h => by simp [byteList] at h; subst h; rfl
  | y :: ys, l, h => by
    unfold byteList at h
    split at h
    · rename_i hh; cases hh
    · rename_i b r hh
      cases hh
      cases hr : byteList ys with
      | none => rw [hr] at h; cases h
      | some l' =>
        rw [hr] at h
        cases h
        simp [byteList_len hr]
    · cases h
theorem runeList_map : ∀ {ys : List (List V)} {l : List Int}, runeList ys = some l → ∀ (i : Nat) (cs : List V), ys[i]? = some cs → ∃ b : Int, cs = [.int .i32 b] ∧ l[i]? = some b
  | [], l, h, i, cs, q => by simp at q
  | y :: ys, l, h, i, cs, q => by
    unfold runeList at h
    split at h
    · rename_i hh; cases hh
    · rename_i b r hh
      cases hh
      cases hr : runeList ys with
      | none => rw [hr] at h; cases h
      | some l' =>
        rw [hr] at h
        cases h
        cases i with
        | zero => simp at q; subst q; exact ⟨b, rfl, rfl⟩
        | succ i => simpa using runeList_map hr i cs (by simpa using q)
    · cases h
theorem runeList_len : ∀ {ys : List (List V)} {l : List Int}, runeList ys = some l → l.length = ys.length
  | [], l, h => by simp [runeList] at h; subst h; rfl
  | y :: ys, l, h => by
    unfold runeList at h
    split at h
    · rename_i hh; cases hh
    · rename_i b r hh
      cases hh
      cases hr : runeList ys with
      | none => rw [hr] at h; cases h
      | some l' =>
        rw [hr] at h
        cases h
        simp [runeList_len hr]
    · cases h
theorem foldl_push : ∀ (ns : List Int) (s : ByteArray), ns.foldl (fun r n => r.push (UInt8.ofNat n.toNat)) s = ⟨s.data ++ (ns.map fun n => UInt8.ofNat n.toNat).toArray⟩
  | [], s => by simp
  | n :: ns, s => by
    simp only [List.foldl_cons]
    rw [foldl_push ns]
    simp [ByteArray.push]
theorem Nxt.stable (hs : WSim w Sb G st) (o : Obj) : Nxt w Sb G st (w.drew.alloc o) (fun b => Sb b ∨ b = w.heap.size) G st := by
  have hold : ∀ k, k < w.heap.size → (w.drew.alloc o).heap[k]? = w.heap[k]? := fun k hk => heap_alloc_old w.drew o hk
  refine ⟨⟨fun b hb => ?_, fun id b hb => ?_, fun id k E h1 h2 h3 => ?_, hs.dis⟩, rfl, rfl, rfl, by simp, fun b hb _ => hold b hb, fun b hb => .inl hb, fun _ h => .inl h, fun _ _ _ h => h, fun b hb => hb.elim .inl fun q => .inr (.inr (Nat.le_of_eq q.symm))⟩
  · simp
    rcases hb with hb | hb
    · have := hs.sub b hb; omega
    · omega
  · refine (hs.blk id b hb).mono (fun k E h1 h2 => hold _ ?_) (fun b hb => hold b (hs.sub b hb)) (fun _ h => .inl h) (fun _ _ _ h => h) (fun _ => rfl)
    have : live st id k := by unfold live at h2 ⊢; rw [hb]; exact h2
    obtain ⟨E', q1, q2⟩ := hs.ent this
    rw [q1] at h1
    cases h1
    exact q2
  · rcases h3 with h3 | h3
    · exact hs.off id k E h1 h2 h3
    · obtain ⟨E', q1, q2⟩ := hs.ent h1
      rw [q1] at h2
      cases h2
      omega
theorem vconv_rv (hs : WSim w Sb G st) {src dst : TypeId} {x v : V} {ux : Value} (h : vconv P st src dst x = some v) (hx : Rv w Sb G x ux) :
    ∃ u w' Sb', (convert src dst ux).run P w = .ok u w' ∧ Nxt w Sb G st w' Sb' G st ∧ Rv w' Sb' G v u := by
  unfold vconv at h
  split at h
  · rename_i s d hsrc hdst
    obtain ⟨si, su, hsi, hsu, hsk, _⟩ := tinfo_spec hsrc
    obtain ⟨di, du, hdi, hdu, hdk, _⟩ := tinfo_spec hdst
    split at h
    · rename_i k k' n hk
      cases h
      cases hx
      have := kind_int (hk.symm.trans hdk)
      subst this
      refine ⟨_, w, Sb, ?_, Nxt.refl hs, .int _ _⟩
      simp [convert, run_underlying hsu, run_underlying hdu, Conv.intToInt]
    · rename_i k' n hk
      cases h
      cases hx
      have := kind_str (hk.symm.trans hdk)
      subst this
      refine ⟨_, w, Sb, ?_, Nxt.refl hs, .str _⟩
      simp [convert, run_underlying hsu, run_underlying hdu, Conv.intToString]
    · rename_i s' hk
      cases h
      cases hx
      have := kind_str (hk.symm.trans hdk)
      subst this
      refine ⟨_, w, Sb, ?_, Nxt.refl hs, .str _⟩
      simp [convert, run_underlying hsu, run_underlying hdu]
    · rename_i xv xt x' hk hne1 hne2
      have := kind_str (hk.symm.trans hdk)
      subst this
      split at h
      · rename_i e he
        have := kind_slice (he.symm.trans hsk)
        subst this
        split at h
        · rename_i hek
          obtain ⟨eu, heu, hek'⟩ := tk_spec hek
          have := kind_int hek'
          subst this
          cases hsq : vseq st xv with
          | none => rw [hsq] at h; cases h
          | some ys =>
            rw [hsq] at h
            simp only [Option.bind_some] at h
            cases hbl : byteList ys with
            | none => rw [hbl] at h; cases h
            | some l =>
              rw [hbl] at h
              cases h
              obtain ⟨a, c, rfl, hone, hr⟩ := vseq_at hs hx hsq (fun s hs' => hne2 s (by rw [hs']))
              have hll := byteList_len hbl
              refine ⟨.string ⟨l.toArray⟩, w, Sb, ?_, Nxt.refl hs, .str _⟩
              rw [run_convert_bytes_string w src dst e a _ c hsu heu hdu]
              rcases hr with rfl | ⟨b, o, m, rfl, hm, hc⟩
              · have : l = [] := List.eq_nil_of_length_eq_zero (by simpa using hll)
                subst this
                cases a with
                | none => rfl
                | some a =>
                  rw [run_bytesToString w a _ c [] (by simp [loadCells, loadCellsFrom])]
                  rfl
              · have hex : ∀ i, i < ys.length → ∃ z : Int, w.cell? ⟨b, o + i, none⟩ = some (.int .u8 z) ∧ l[i]? = some (UInt8.ofNat z.toNat) := fun i hi => by
                  obtain ⟨z, q1, q2⟩ := byteList_map hbl i _ (List.getElem?_eq_getElem hi)
                  have hm1 : m = 1 := by rw [← hm _ (List.getElem_mem hi), q1]; rfl
                  obtain ⟨u, r1, r2⟩ := hc i _ 0 (.int .u8 z) (List.getElem?_eq_getElem hi) (by rw [q1]; rfl)
                  cases r2
                  exact ⟨z, by rw [hm1] at r1; simpa using r1, q2⟩
                let f : Nat → Int := fun i => match w.cell? ⟨b, o + i, none⟩ with | some (.int .u8 z) => z | _ => 0
                have hload := run_loadCells (P := P) w ⟨b, o, none⟩ ys.length (fun i => .int .u8 (f i)) (fun i hi => by
                  obtain ⟨z, q1, _⟩ := hex i hi
                  rw [addr_add, q1]
                  simp only [f, q1])
                have hmapeq : (List.range ys.length).map (fun i => Value.int .u8 (f i)) = ((List.range ys.length).map f).map (Value.int .u8) := by simp
                rw [hmapeq] at hload
                rw [run_bytesToString w _ _ c _ hload, foldl_push]
                congr 2
                have hl2 : ((List.range ys.length).map f).map (fun n => UInt8.ofNat n.toNat) = l := by
                  apply List.ext_getElem?
                  intro i
                  by_cases hi : i < ys.length
                  · obtain ⟨z, q1, q2⟩ := hex i hi
                    rw [q2]
                    simp only [List.getElem?_map, List.getElem?_range hi, Option.map_some, f, q1]
                  · rw [List.getElem?_eq_none (by simp; omega), List.getElem?_eq_none (by omega)]
                rw [hl2]
                simp
        · rename_i hek
          obtain ⟨eu, heu, hek'⟩ := tk_spec hek
          have := kind_int hek'
          subst this
          cases hsq : vseq st xv with
          | none => rw [hsq] at h; cases h
          | some ys =>
            rw [hsq] at h
            simp only [Option.bind_some] at h
            cases hbl : runeList ys with
            | none => rw [hbl] at h; cases h
            | some l =>
              rw [hbl] at h
              cases h
              obtain ⟨a, c, rfl, hone, hr⟩ := vseq_at hs hx hsq (fun s hs' => hne2 s (by rw [hs']))
              have hll := runeList_len hbl
              refine ⟨.string (runesString l), w, Sb, ?_, Nxt.refl hs, .str _⟩
              rw [run_convert_runes_string w src dst e a _ c hsu heu hdu]
              rcases hr with rfl | ⟨b, o, m, rfl, hm, hc⟩
              · have : l = [] := List.eq_nil_of_length_eq_zero (by simpa using hll)
                subst this
                cases a with
                | none => rfl
                | some a =>
                  rw [run_runesToString w a _ c [] (by simp [loadCells, loadCellsFrom])]
                  rfl
              · have hex : ∀ i, i < ys.length → ∃ z : Int, w.cell? ⟨b, o + i, none⟩ = some (.int .i32 z) ∧ l[i]? = some z := fun i hi => by
                  obtain ⟨z, q1, q2⟩ := runeList_map hbl i _ (List.getElem?_eq_getElem hi)
                  have hm1 : m = 1 := by rw [← hm _ (List.getElem_mem hi), q1]; rfl
                  obtain ⟨u, r1, r2⟩ := hc i _ 0 (.int .i32 z) (List.getElem?_eq_getElem hi) (by rw [q1]; rfl)
                  cases r2
                  exact ⟨z, by rw [hm1] at r1; simpa using r1, q2⟩
                have hload := run_loadCells (P := P) w ⟨b, o, none⟩ ys.length (fun i => .int .i32 (l.getD i 0)) (fun i hi => by
                  obtain ⟨z, q1, q2⟩ := hex i hi
                  rw [addr_add, q1]
                  simp [q2])
                have hmapeq : (List.range ys.length).map (fun i => Value.int .i32 (l.getD i 0)) = l.map (Value.int .i32) := by
                  apply List.ext_getElem?
                  intro i
                  by_cases hi : i < ys.length
                  · obtain ⟨z, _, q2⟩ := hex i hi
                    simp [hi, q2]
                  · rw [List.getElem?_eq_none (by simp; omega), List.getElem?_eq_none (by simp; omega)]
                rw [hmapeq] at hload
                rw [run_runesToString w _ _ c _ hload]
                rfl
        · cases h
      · cases h
    · rename_i e s' hk
      have := kind_slice (hk.symm.trans hdk)
      subst this
      cases hx
      split at h
      · rename_i hsk2 hek
        have := kind_str (hsk2.symm.trans hsk)
        subst this
        obtain ⟨eu, heu, hek'⟩ := tk_spec hek
        have := kind_int hek'
        subst this
        split at h
        · rename_i hle
          cases h
          · have hrun := run_bytes_of_string w src dst e s' hsu hdu heu
            have hcm : grownCap w s'.size 0 e ≤ maxLen := grownCap_le_maxLen w _ _ e (by unfold maxLen; omega)
            have hge := grownCap_ge w s'.size 0 e
            refine ⟨_, _, _, hrun, Nxt.stable hs _, ?_⟩
            have hb : (w.drew.alloc (.cells (bytesRow s' (grownCap w s'.size 0 e)) e ((bytesRow s' (grownCap w s'.size 0 e)).size, (bytesRow s' (grownCap w s'.size 0 e)).size + 1))).heap[w.heap.size]? = some (.cells (bytesRow s' (grownCap w s'.size 0 e)) e ((bytesRow s' (grownCap w s'.size 0 e)).size, (bytesRow s' (grownCap w s'.size 0 e)).size + 1)) := heap_alloc_new w.drew _
            have hlen : (s'.data.toList.map fun b => [V.int .u8 b.toNat]).length = s'.size := by simp
            have hat : ∀ (i : Nat) (cs : List V), (s'.data.toList.map fun b => [V.int .u8 b.toNat])[i]? = some cs → ∃ b, s'.data[i]? = some b ∧ cs = [.int .u8 b.toNat] := fun i cs hi => by
              rw [List.getElem?_map] at hi
              cases hb : s'.data.toList[i]? with
              | none => rw [hb] at hi; cases hi
              | some b => rw [hb] at hi; simp at hi; exact ⟨b, by simpa using hb, hi.symm⟩
            have := Rv.list (w := w.drew.alloc (.cells (bytesRow s' (grownCap w s'.size 0 e)) e ((bytesRow s' (grownCap w s'.size 0 e)).size, (bytesRow s' (grownCap w s'.size 0 e)).size + 1))) (Sb := fun b => Sb b ∨ b = w.heap.size) (G := G)
              (xs := s'.data.toList.map fun b => [V.int .u8 b.toNat]) (b := w.heap.size) (o := 0) (m := 1) (c := grownCap w s'.size 0 e) (fun i _ => .int .u8 ((s'.data.getD i 0).toNat)) (.inr rfl) (by omega) (by rw [hlen]; exact hge) hcm
              (fun i cs hi => by obtain ⟨b, _, rfl⟩ := hat i cs hi; rfl) (fun i cs v hi hv => by obtain ⟨b, _, rfl⟩ := hat i cs hi; simp at hv; subst hv; rfl)
              (fun i cs j v hi hv => by
                obtain ⟨b, hb', rfl⟩ := hat i cs hi
                cases j with
                | succ j => simp at hv
                | zero =>
                  rw [cell_of_row _ _ _ _ _ _ hb]
                  have hil := (Array.getElem?_eq_some_iff.1 hb').1
                  unfold bytesRow
                  simp only [Nat.mul_one, Nat.zero_add, Nat.add_zero]
                  rw [Array.getElem?_append_left (by simpa using hil)]
                  simp [hb'])
              (fun i cs j v hi hv => by
                obtain ⟨b, hb', rfl⟩ := hat i cs hi
                cases j with
                | succ j => simp at hv
                | zero =>
                  simp at hv
                  subst hv
                  have : s'.data.getD i 0 = b := by simp [Array.getD_eq_getD_getElem?, hb']
                  rw [this]
                  exact .int _ _)
            rw [hlen] at this
            exact this
        · cases h
      · cases h
    · cases h
  · cases h
end
end Go.Vm
namespace Go.Vm
open Go.RowKit
theorem chunk_len : ∀ (n m : Nat) (l : List V), (chunk n m l).length = n
  | 0, _, _ => rfl
  | n + 1, m, l => by simp [chunk, chunk_len n]
theorem chunk_get : ∀ (n m : Nat) (l : List V) (i : Nat) (cs : List V), (chunk n m l)[i]? = some cs → cs = (l.drop (i * m)).take m
  | 0, m, l, i, cs, h => by simp [chunk] at h
  | n + 1, m, l, i, cs, h => by
    cases i with
    | zero => simp [chunk] at h; simp [h]
    | succ i =>
      simp only [chunk, List.getElem?_cons_succ] at h
      rw [chunk_get n m (l.drop m) i cs h, List.drop_drop, Nat.succ_mul, Nat.add_comm]
section
variable {P : Program} {w : World} {Sb : Nat → Prop} {G : Gh} {st : Store}
theorem vfold_max {ts : Array TypeId} {t : TypeId} {k : IntKind} : ∀ {r : List V} {us : List Value} {a : Int} {v : V}, vfold (fun a b => if b > a then b else a) k a r = some v → Rvs w Sb G r us → ∃ u, (us.foldlM Builtin.max2 (.int k a) : Sem Value).run P w = .ok u w ∧ Rv w Sb G v u
  | [], us, a, v, h, hr => by
    have := hr.none
    subst this
    simp only [vfold] at h
    cases h
    exact ⟨_, by simp, .int _ _⟩
  | x :: r, us, a, v, h, hr => by
    obtain ⟨u, us', rfl, h1, h2⟩ := hr.head
    unfold vfold at h
    split at h
    · rename_i hh; cases hh
    · rename_i k' b r' hh
      cases hh
      split at h
      · rename_i hk
        subst hk
        cases h1
        obtain ⟨u, q1, q2⟩ := vfold_max (ts := ts) (t := t) h h2
        exact ⟨u, by simpa [Builtin.max2] using q1, q2⟩
      · cases h
    · cases h
theorem vfold_min {ts : Array TypeId} {t : TypeId} {k : IntKind} : ∀ {r : List V} {us : List Value} {a : Int} {v : V}, vfold (fun a b => if b < a then b else a) k a r = some v → Rvs w Sb G r us → ∃ u, (us.foldlM Builtin.min2 (.int k a) : Sem Value).run P w = .ok u w ∧ Rv w Sb G v u
  | [], us, a, v, h, hr => by
    have := hr.none
    subst this
    simp only [vfold] at h
    cases h
    exact ⟨_, by simp, .int _ _⟩
  | x :: r, us, a, v, h, hr => by
    obtain ⟨u, us', rfl, h1, h2⟩ := hr.head
    unfold vfold at h
    split at h
    · rename_i hh; cases hh
    · rename_i k' b r' hh
      cases hh
      split at h
      · rename_i hk
        subst hk
        cases h1
        obtain ⟨u, q1, q2⟩ := vfold_min (ts := ts) (t := t) h h2
        exact ⟨u, by simpa [Builtin.min2] using q1, q2⟩
      · cases h
    · cases h
theorem vlen_rv (hs : WSim w Sb G st) {t ty : TypeId} {d : TypeDesc} {x : V} {ux : Value} {k : Nat} (ht : P.underlying t = some d) (h : vlen st (kindOf d) x = some k) (hx : Rv w Sb G x ux) : (Builtin.len_ #[t] ty #[ux]).run P w = .ok (goInt k) w := by
  unfold vlen at h
  split at h
  · rename_i hk
    cases h
    have := kind_array hk.symm
    subst this
    cases ux <;> simp [Builtin.len_, run_underlying ht]
  · rename_i hk
    cases h
    have := kind_slice hk.symm
    subst this
    cases hx
    simp [Builtin.len_, run_underlying ht]
  · rename_i hk
    cases h
    have := kind_slice hk.symm
    subst this
    cases hx <;> simp [Builtin.len_, run_underlying ht]
  · rename_i hk
    cases h
    have := kind_slice hk.symm
    subst this
    cases hx
    simp [Builtin.len_, run_underlying ht]
  · rename_i hk
    cases h
    have := kind_str hk.symm
    subst this
    cases hx
    simp [Builtin.len_, run_underlying ht]
  · rename_i hk
    cases h
    have := kind_map hk.symm
    subst this
    cases hx
    simp [Builtin.len_, run_underlying ht]
  · rename_i id hk
    have := kind_map hk.symm
    subst this
    split at h
    · rename_i kt es hst
      cases h
      obtain ⟨E, ms, cl, h1, rfl, h2, h3, h4⟩ := map_at hs hst hx
      have hget : (getObj E.blk).run P w = .ok (.map ms cl) w := by simp [getObj, Sem.run, h2]
      simp [Builtin.len_, run_underlying ht, hget, h3]
    · cases h
  · cases h
def OpOk (_P : Program) (w : World) (Sb : Nat → Prop) (G : Gh) (st : Store) (n : Nat) (out : Out) (r : Result Next) : Prop :=
  ∃ nx u w' Sb' G', r = .ok nx w' ∧ (nx = .value u ∨ nx = .skip ∧ u = undef) ∧ Nxt w Sb G st w' Sb' G' (upd st out.2.1) ∧ Rv w' Sb' G' out.1 u ∧ n ≤ out.2.2 ∧ (∀ id k, (id < n ∨ out.2.2 ≤ id) → st id = none → G' id k = G id k)
theorem OpOk.pure (hs : WSim w Sb G st) {n : Nat} {v : V} {u : Value} {s : Sem Value} (h : s.run P w = .ok u w) (hv : Rv w Sb G v u) : OpOk P w Sb G st n (v, [], n) ((do Pure.pure (Next.value (← s)) : Sem Next).run P w) :=
  ⟨.value u, u, w, Sb, G, by simp [h], .inl rfl, Nxt.refl hs, hv, Nat.le_refl _, fun _ _ _ _ => rfl⟩
theorem rvs_map {ρ : Operand → V} {ρ' : Operand → Value} (hρ : ∀ x, Rv w Sb G (ρ x) (ρ' x)) (l : List Operand) : Rvs w Sb G (l.map ρ) (l.map ρ') := by
  induction l with
  | nil => exact .nil
  | cons a l ih => exact .cons (hρ a) ih
theorem rv_func {ρ : Operand → V} {ρ' : Operand → Value} (hρ : ∀ x, Rv w Sb G (ρ x) (ρ' x)) (fn : Fn) (f c : Array Operand) : Rv w Sb G (.func fn (f.toList.map ρ) (c.toList.map ρ)) (.func fn (f.map ρ') (c.map ρ')) :=
  by
    refine .func ?_ ?_ (fun i v u a b => ?_) (fun i v u a b => ?_)
    · simp
    · simp
    · exact (rvs_map hρ f.toList).2 i v u a (by rw [← b]; simp)
    · exact (rvs_map hρ c.toList).2 i v u a (by rw [← b]; simp)
theorem opt_rv {ρ : Operand → V} {ρ' : Operand → Value} (hρ : ∀ x, Rv w Sb G (ρ x) (ρ' x)) (l : Option Operand) : (∀ a, l.map ρ = some a → ∃ b, l.map ρ' = some b ∧ Rv w Sb G a b) ∧ (l.map ρ = none → l.map ρ' = none) := by
  cases l with
  | none => exact ⟨fun a h => (by cases h), fun _ => rfl⟩
  | some x => exact ⟨fun a h => ⟨_, rfl, by cases h; exact hρ x⟩, fun h => by cases h⟩
theorem vop_append (hs : WSim w Sb G st) {n : Nat} {ρ : Operand → V} {ρ' : Operand → Value} (hρ : ∀ x, Rv w Sb G (ρ x) (ρ' x)) {b : Builtin} {args : Array Operand} {ts : Array TypeId} {ty : TypeId} {cs : Array Bool} {out : Out} (hfr : out.2.2 = n + 1 → st n = none ∧ ∀ k, G n k = none)
    (h : vbuiltin P st n ts.toList b (args.toList.map ρ) = some out) : OpOk P w Sb G st n out ((builtin b ts ty cs (args.map ρ')).run P w) := by
  have hargs := rvs_map hρ args.toList
  have ha : args.map ρ' = (args.toList.map ρ').toArray := Array.ext' (by simp)
  rw [ha]
  generalize args.toList.map ρ = vs at *
  generalize args.toList.map ρ' = us at *
  have hts : ts = ts.toList.toArray := by simp
  rw [hts]
  generalize ts.toList = tl at *
  unfold vbuiltin at h
  split at h
  · rename_i x t
    obtain ⟨u, us', rfl, h1, h2⟩ := hargs.head
    have := h2.none
    subst this
    split at h
    · rename_i kk hk
      obtain ⟨d, hd, rfl⟩ := tk_spec hk
      cases hl : vlen st (kindOf d) x with
      | none => rw [hl] at h; cases h
      | some k =>
        rw [hl] at h
        cases h
        exact OpOk.pure hs (vlen_rv hs (ty := ty) hd hl h1) (.int _ _)
    · cases h
  · rename_i s x t u
    obtain ⟨us1, us', rfl, h1, h2⟩ := hargs.head
    obtain ⟨ux, us'', rfl, h3, h4⟩ := h2.head
    have := h4.none
    subst this
    split at h
    · rename_i e _ _ _ _ ht
      obtain ⟨ti, td, _, htd, hk, _⟩ := tinfo_spec ht
      have := kind_slice hk
      subst this
      split at h
      · rename_i i ku hi hu
        obtain ⟨ii, id, hii, _, _, hsz, hby, _, hz⟩ := tinfo_spec hi
        obtain ⟨ud, hud, hku⟩ := tk_spec hu
        split at h
        · rename_i hc
          obtain ⟨c1, c2, c3, c4, c5⟩ := hc
          have hu2 : ∃ e2, P.underlying u = some (.slice e2) ∨ P.underlying u = some .string := by
            unfold apk at c1
            split at c1
            · have := kind_slice hku; subst this; exact ⟨_, .inl hud⟩
            · have := kind_str hku; subst this; exact ⟨0, .inr hud⟩
            · cases c1
          obtain ⟨e2, hu2⟩ := hu2
          have hzz : ∃ z, ii.zero = some z ∧ z.cells.size = ii.size := by
            unfold zlen at c4
            split at c4
            · rename_i z hzi
              rw [hz] at hzi
              cases hiz : ii.zero with
              | none => rw [hiz] at hzi; cases hzi
              | some z' =>
                rw [hiz] at hzi
                simp only [Option.bind_some] at hzi
                refine ⟨z', rfl, ?_⟩
                have := (ofVal_rv (w := w) (Sb := Sb) (G := G) hzi).2.1
                rw [← hsz, ← c4, ← this]
                simp
            · omega
          obtain ⟨z, hz1, hz2⟩ := hzz
          cases hsq : vseq st x with
          | none => rw [hsq] at h; cases h
          | some ys =>
            rw [hsq] at h
            simp only [Option.bind_some] at h
            rw [hsz, hby] at h
            have hlen := okw_len hs h3 hsq c5
            rw [hsz] at hlen
            obtain ⟨r, w', G', q1, q2, q3, q4, q5⟩ := vappend_rv (P := P) (ty := ty) hs htd hu2 hii hz1 hz2 (by omega) (by omega) h1 h3 hsq hlen hfr h
            exact ⟨.value r, r, w', Sb, G', by simp [builtin, q1], .inl rfl, q2, q3, q4, q5⟩
        · cases h
      · cases h
    · cases h
  · rename_i k a r
    obtain ⟨u, us', rfl, h1, h2⟩ := hargs.head
    cases h1
    cases hf : vfold (fun a b => if b > a then b else a) k a r with
    | none => rw [hf] at h; cases h
    | some v =>
      rw [hf] at h
      cases h
      obtain ⟨u, q1, q2⟩ := vfold_max (P := P) (ts := #[]) (t := 0) hf h2
      exact OpOk.pure hs (s := Builtin.max_ _ ty _) (by simpa [Builtin.max_] using q1) q2
  · rename_i k a r
    obtain ⟨u, us', rfl, h1, h2⟩ := hargs.head
    cases h1
    cases hf : vfold (fun a b => if b < a then b else a) k a r with
    | none => rw [hf] at h; cases h
    | some v =>
      rw [hf] at h
      cases h
      obtain ⟨u, q1, q2⟩ := vfold_min (P := P) (ts := #[]) (t := 0) hf h2
      exact OpOk.pure hs (s := Builtin.min_ _ ty _) (by simpa [Builtin.min_] using q1) q2
  · cases h
end
end Go.Vm
