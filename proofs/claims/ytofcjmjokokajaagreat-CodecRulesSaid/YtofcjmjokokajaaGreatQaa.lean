/-
  What Outputs comes to, as a law: a state of what it keeps per place gone through. Plain Lean, no program is named here. run.Outputs, where slices.Concat and word.Sort do as told. Condition: no rule without guards. What a right question brings with it. Plain Lean, no program is named here. slices.
-/
import Derived.Test.YtofcjmjokokajaaGreatQz
import Derived.Lib.BufferMore
import Derived.Lib.AppendZerosOnto
import Derived.Lib.SliceRun
import Derived.Lib.Walk
import Derived.Laws.AppendOwnNone
import Derived.Laws.OwnMore
import Derived.BigQuiet
import Derived.Deep.DeepBigQuietO
import Derived.OrdersHeld
import Derived.WalkLawsBesides
import Derived.Deep.RegionHeld3
import Derived.Deep.QuietTactic
import Derived.Deep.OwnRows
import Derived.Lib.LazyBuf
namespace Go.Um
open Go.Vm
theorem cmpW_refl : ∀ a : List Int, cmpW a a = 0
  | [] => rfl
  | x :: a => by unfold cmpW; rw [if_neg (by omega), if_neg (by omega)]; exact cmpW_refl a
theorem cmpW_eq : ∀ {a b : List Int}, cmpW a b = 0 → a = b
  | [], [], _ => rfl
  | [], _ :: _, h => by simp [cmpW] at h
  | _ :: _, [], h => by simp [cmpW] at h
  | x :: a, y :: b, h => by
    unfold cmpW at h
    split at h
    · cases h
    · split at h
      · cases h
      · rw [cmpW_eq h, show x = y by omega]
theorem cmpW_trans : ∀ {a b c : List Int}, cmpW a b < 0 → cmpW b c < 0 → cmpW a c < 0
  | [], [], _, h, _ => by simp [cmpW] at h
  | [], _ :: _, [], _, h => by simp [cmpW] at h
  | [], _ :: _, _ :: _, _, _ => by simp [cmpW]
  | _ :: _, [], _, h, _ => by simp [cmpW] at h
  | _ :: _, _ :: _, [], _, h => by simp [cmpW] at h
  | x :: a, y :: b, z :: c, h1, h2 => by
    unfold cmpW at h1 h2 ⊢
    by_cases e1 : x < y
    · by_cases e2 : y < z
      · rw [if_pos (by omega)]; decide
      · rw [if_neg e2] at h2
        by_cases e3 : z < y
        · rw [if_pos e3] at h2; simp at h2
        · rw [if_pos (by omega)]; decide
    · rw [if_neg e1] at h1
      by_cases e2 : y < x
      · rw [if_pos e2] at h1; simp at h1
      · rw [if_neg e2] at h1
        by_cases e3 : y < z
        · rw [if_pos (by omega)]; decide
        · rw [if_neg e3] at h2
          by_cases e4 : z < y
          · rw [if_pos e4] at h2; simp at h2
          · rw [if_neg e4] at h2
            rw [if_neg (by omega), if_neg (by omega)]
            exact cmpW_trans h1 h2
theorem cmpW_flip : ∀ a b : List Int, cmpW b a = -cmpW a b
  | [], [] => rfl
  | [], _ :: _ => rfl
  | _ :: _, [] => rfl
  | x :: a, y :: b => by
    unfold cmpW
    by_cases e1 : x < y
    · rw [if_pos e1, if_neg (by omega), if_pos e1]; rfl
    · by_cases e2 : y < x
      · rw [if_pos e2, if_neg e1, if_pos e2]
      · rw [if_neg e2, if_neg e1, if_neg e1, if_neg e2]; exact cmpW_flip a b
end Go.Um
namespace Go.Proofs.YtofcjmjokokajaaGreat
open Go.RowKit Go.Um Go.Proofs Go.Vm
theorem mem_insW {x y : List Int} : ∀ {ls : List (List Int)}, y ∈ insW x ls ↔ y = x ∨ y ∈ ls
  | [] => by simp [insW]
  | z :: r => by
    unfold insW
    split
    · simp
    · split
      · rename_i h
        have := cmpW_eq h
        subst this
        simp
      · rw [List.mem_cons, mem_insW (ls := r), List.mem_cons]
        constructor
        · rintro (h | h | h) <;> simp [h]
        · rintro (h | h | h) <;> simp [h]
theorem pw_insW {x : List Int} : ∀ {ls : List (List Int)}, ls.Pairwise (fun a b => cmpW a b < 0) → (insW x ls).Pairwise (fun a b => cmpW a b < 0)
  | [], _ => by simp [insW]
  | z :: r, h => by
    rw [List.pairwise_cons] at h
    unfold insW
    split
    · rename_i h1
      rw [List.pairwise_cons, List.pairwise_cons]
      refine ⟨fun a ha => ?_, h⟩
      rcases List.mem_cons.1 ha with rfl | ha
      · exact h1
      · exact cmpW_trans h1 (h.1 a ha)
    · split
      · exact List.pairwise_cons.2 h
      · rename_i h1 h2
        rw [List.pairwise_cons]
        refine ⟨fun a ha => ?_, pw_insW h.2⟩
        rcases mem_insW.1 ha with rfl | ha
        · have := cmpW_flip a z
          omega
        · exact h.1 a ha
theorem mem_sortW {y : List Int} : ∀ {ls : List (List Int)}, y ∈ sortW ls ↔ y ∈ ls
  | [] => by simp [sortW]
  | z :: r => by
    show y ∈ insW z (sortW r) ↔ _
    rw [mem_insW, mem_sortW (ls := r), List.mem_cons]
theorem pw_sortW : ∀ {ls : List (List Int)}, (sortW ls).Pairwise (fun a b => cmpW a b < 0)
  | [] => by simp [sortW]
  | z :: r => pw_insW (pw_sortW (ls := r))
theorem run_ch {d : Desc} {n : Nat} (h : RuleOk d n) {x : List Int} {a : Nat} {s : Int} {w : List Int} (hr : Run d x a s w) : Ch w := by
  induction hr with
  | fin f hf hs hl hx hw =>
    subst hw
    obtain ⟨_, _, hg, hwr⟩ := h.final f hf
    exact writes_bd hwr hg hx
  | step r hr hs hx h' hw ih =>
    subst hw
    obtain ⟨_, _, _, _, _, _, hg, hwr⟩ := h.rule r hr
    exact fun z hz => (List.mem_append.1 hz).elim (writes_bd hwr hg hx z) (ih z)
section
variable {d : Desc} {x : List Int} {k M most : Nat}
theorem ord_ok (hE : ∀ r ∈ d.rules, ¬ r.guards.length = 0) : Ord d (ordL k) := by
  refine ⟨?_, fun i s t _ ⟨r, hr, hg, _⟩ => absurd (by rw [hg]; rfl) (hE r hr)⟩
  unfold ordL List.Nodup
  rw [List.pairwise_map]
  exact List.pairwise_lt_range.imp fun h => by omega
theorem ord_mem {s : Int} : s ∈ ordL k ↔ ∃ n : Nat, s = n ∧ n < k := by
  unfold ordL
  rw [List.mem_map]
  constructor
  · rintro ⟨n, hn, rfl⟩; exact ⟨n, rfl, List.mem_range.1 hn⟩
  · rintro ⟨n, rfl, hn⟩; exact ⟨n, List.mem_range.2 hn, rfl⟩
def lvP (d : Desc) (x : List Int) (k a s : Nat) : Bool := liveF d x k (ordL k) (x.length + 1) (a * k + s)
theorem lvP_iff (hR : RuleOk d k) (hE : ∀ r ∈ d.rules, ¬ r.guards.length = 0) {a s : Nat} (hs : s < k) : lvP d x k a s = true ↔ Reach d x a s :=
  live_iff hR (ord_ok hE) (fun _ h => ord_mem.1 h) (fun s hs => ord_mem.2 ⟨s, rfl, hs⟩) hs
def plP (d : Desc) (x : List Int) (k : Nat) : List (Nat × Nat) := plF (lvP d x k) (ordL k) x.length (x.length + 1)
theorem plP_mem {a s : Nat} : (a, s) ∈ plP d x k ↔ a ≤ x.length ∧ s < k ∧ lvP d x k a s = true := by
  unfold plP plF plA
  rw [List.mem_flatMap]
  constructor
  · rintro ⟨u, hu, h⟩
    obtain ⟨z, hz, he⟩ := List.mem_map.1 h
    obtain ⟨h1, h2⟩ := List.mem_filter.1 hz
    obtain ⟨n, rfl, hn⟩ := ord_mem.1 h1
    rw [Int.toNat_natCast] at he h2
    cases he
    exact ⟨by omega, hn, h2⟩
  · rintro ⟨h1, h2, h3⟩
    refine ⟨x.length - a, List.mem_range.2 (by omega), List.mem_map.2 ⟨(s : Int), List.mem_filter.2 ⟨ord_mem.2 ⟨s, rfl, h2⟩, ?_⟩, ?_⟩⟩
    · rw [Int.toNat_natCast, show x.length - (x.length - a) = a by omega]; exact h3
    · rw [Int.toNat_natCast, show x.length - (x.length - a) = a by omega]
theorem plP_down : (plP d x k).Pairwise fun p q => q.1 ≤ p.1 := by
  unfold plP plF plA
  rw [List.pairwise_flatMap]
  constructor
  · intro u _
    rw [List.pairwise_map]
    rw [List.pairwise_iff_getElem]
    intros
    exact Nat.le_refl _
  · rw [List.pairwise_iff_getElem]
    intro i j hi hj hij p hp q hq
    simp only [List.getElem_range] at hp hq
    obtain ⟨_, _, rfl⟩ := List.mem_map.1 hp
    obtain ⟨_, _, rfl⟩ := List.mem_map.1 hq
    simp only
    omega
structure Inv (d : Desc) (x : List Int) (k M most : Nat) (pre : List (Nat × Nat)) (y : Kept) : Prop where
  len : y.2.length = M
  sets : y.1 = false → ∀ (a s : Nat) (l : List (List Int)), s < k → a ≤ x.length → y.2[a * k + s]? = some (some l) → WordsOf d x a s most l
  done : y.1 = false → ∀ p ∈ pre, ∃ l, y.2[p.1 * k + p.2]? = some (some l)
  many : y.1 = true → TooMany d x most
theorem inv_start : Inv d x k M most [] (false, List.replicate M none) :=
  ⟨by simp, fun _ a s l _ _ h => (by rw [List.getElem?_replicate] at h; split at h <;> cases h), fun _ p hp => (by simp at hp), fun h => (by cases h)⟩
theorem setAt_some {ss : List (Option (List (List Int)))} {p : Nat} {l : List (List Int)} (h : ss[p]? = some (some l)) : setAt ss p = l := by unfold setAt; rw [h]
theorem inv_sets (hR : RuleOk d k) (hk : k ≤ 1024) (hE : ∀ r ∈ d.rules, ¬ r.guards.length = 0) (hxl : x.length ≤ 1024) (hM : M = (x.length + 1) * k) (hmost : most ≤ 100000) {pre : List (Nat × Nat)} {y : Kept} (h : Inv d x k M most pre y) (hf : y.1 = false) : SetsOk y.2 := fun p l hp => by
  have hpl : p < M := by rw [← h.len]; exact (List.getElem?_eq_some_iff.1 hp).1
  have hk0 : 0 < k := by
    rcases Nat.eq_zero_or_pos k with h0 | h0
    · subst h0; simp at hM; omega
    · exact h0
  have he : p = p / k * k + p % k := by rw [Nat.mul_comm]; exact (Nat.div_add_mod p k).symm
  have ha : p / k ≤ x.length := by
    have : p / k < x.length + 1 := by rw [Nat.div_lt_iff_lt_mul hk0, ← hM]; exact hpl
    omega
  rw [he] at hp
  obtain ⟨h1, _, h3⟩ := h.sets hf (p / k) (p % k) l (Nat.mod_lt _ hk0) ha hp
  refine ⟨by omega, fun w hw => ?_⟩
  have hr := (h1 w).1 hw
  have hl : w.length ≤ 64 * ((x.length - p / k) * 1026 + 0 + 1) := run_len hR hk (ρ := fun _ => 0) (fun _ => by omega) (fun r hr hg => absurd (by rw [hg]; rfl) (hE r hr)) hr ha
  have h4 : (x.length - p / k) * 1026 ≤ 1024 * 1026 := Nat.mul_le_mul_right _ (Nat.le_trans (Nat.sub_le _ _) hxl)
  exact ⟨by omega, run_ch hR hr⟩
theorem inv_step (hR : RuleOk d k) (hE : ∀ r ∈ d.rules, ¬ r.guards.length = 0) (hM : M = (x.length + 1) * k) {pre : List (Nat × Nat)} {a s : Nat} {y : Kept} (h : Inv d x k M most pre y) (hpre : pre ++ [(a, s)] <+: plP d x k) : Inv d x k M most (pre ++ [(a, s)]) (tellF d x k (most : Int) y (a, s)) := by
  obtain ⟨rest, hrest⟩ := hpre
  have hin : (a, s) ∈ plP d x k := by rw [← hrest]; simp
  obtain ⟨ha, hs, hlv⟩ := plP_mem.1 hin
  have hreach := (lvP_iff hR hE hs).1 hlv
  obtain ⟨m, ss⟩ := y
  cases m with
  | true =>
    have : tellF d x k (most : Int) (true, ss) (a, s) = (true, ss) := rfl
    rw [this]
    exact ⟨h.len, fun q => (by cases q), fun q => (by cases q), fun _ => h.many rfl⟩
  | false =>
    have hlater : ∀ a' s' : Nat, a < a' → a' ≤ x.length → s' < k → lvP d x k a' s' = true → (a', s') ∈ pre := fun a' s' h1 h2 h3 h4 => by
      have hm := plP_mem.2 ⟨h2, h3, h4⟩
      rw [← hrest] at hm
      rcases List.mem_append.1 hm with hm | hm
      · rcases List.mem_append.1 hm with hm | hm
        · exact hm
        · have := List.mem_singleton.1 hm
          injection this with e1 _
          omega
      · have hd := plP_down (d := d) (x := x) (k := k)
        rw [← hrest, List.append_assoc, List.pairwise_append] at hd
        have := hd.2.1
        rw [List.singleton_append, List.pairwise_cons] at this
        have := this.1 _ hm
        simp only at this
        omega
    have hW : ∀ r ∈ d.rules, r.src = (s : Int) → fitsX x r.guards a → ∀ z, z ∈ setAt ss ((a + r.eat.toNat) * k + r.dst.toNat) ↔ Run d x (a + r.eat.toNat) r.dst z := fun r hr hsr hx z => by
      obtain ⟨_, ⟨d0, d1⟩, e0, e1, e2, _⟩ := hR.rule r hr
      have hgl := hx.1
      have hne : r.eat ≠ 0 := fun q => hE r hr (by rw [e2 q]; rfl)
      have hst := Reach.step r hreach hr hsr hx
      have hdt : ((r.dst.toNat : Nat) : Int) = r.dst := by omega
      have hmem := hlater (a + r.eat.toNat) r.dst.toNat (by omega) (by omega) (by omega) ((lvP_iff hR hE (by omega)).2 (by rw [hdt]; exact hst))
      obtain ⟨l, hl⟩ := h.done rfl _ hmem
      have hw := h.sets rfl (a + r.eat.toNat) r.dst.toNat l (by omega) (by omega) hl
      simp only at hl
      rw [setAt_some hl, hw.1 z, hdt]
    have hout : ∀ z, z ∈ sortW (allOut d x k ss a s) ↔ Run d x a s z := fun z => by
      rw [mem_sortW]
      exact outs_iff (n := k) (W := setAt ss) ha hW z
    have hpw := pw_sortW (ls := allOut d x k ss a s)
    have htell : tellF d x k (most : Int) (false, ss) (a, s) = (decide ((most : Int) < ((sortW (allOut d x k ss a s)).length : Int)), ss.set (a * k + s) (some (sortW (allOut d x k ss a s)))) := rfl
    rw [htell]
    generalize sortW (allOut d x k ss a s) = sw at hout hpw
    have hIM : a * k + s < ss.length := by
      have h1 : (a + 1) * k ≤ (x.length + 1) * k := Nat.mul_le_mul_right _ (by omega)
      have h2 : ss.length = M := h.len
      rw [h2, hM]
      rw [Nat.add_mul] at h1
      omega
    refine ⟨by simp only [List.length_set]; exact h.len, fun hm a' s' l h1 h2 hl => ?_, fun hm p hp => ?_, fun hm => ?_⟩
    · have hm' : sw.length ≤ most := by have := of_decide_eq_false hm; omega
      simp only at hl
      rw [List.getElem?_set] at hl
      split at hl
      · rename_i he
        obtain ⟨rfl, rfl⟩ := code_inj hs h1 he
        cases hl
        exact ⟨hout, hpw, hm'⟩
      · exact h.sets rfl a' s' l h1 h2 hl
    · simp only
      rw [List.getElem?_set]
      split
      · exact ⟨_, rfl⟩
      · rcases List.mem_append.1 hp with hp | hp
        · exact h.done rfl p hp
        · have := List.mem_singleton.1 hp
          subst this
          rename_i hne
          exact absurd rfl hne
    · refine ⟨a, s, sw, hreach, fun z hz => (hout z).1 hz, hpw, ?_⟩
      have := of_decide_eq_true hm
      omega
theorem inv_all (hR : RuleOk d k) (hE : ∀ r ∈ d.rules, ¬ r.guards.length = 0) (hM : M = (x.length + 1) * k) : ∀ pre : List (Nat × Nat), pre <+: plP d x k → Inv d x k M most pre (pre.foldl (tellF d x k (most : Int)) (false, List.replicate M none)) := by
  have key : ∀ n, Inv d x k M most ((plP d x k).take n) (((plP d x k).take n).foldl (tellF d x k (most : Int)) (false, List.replicate M none)) := fun n => by
    induction n with
    | zero => exact inv_start
    | succ n ih =>
      by_cases hn : n < (plP d x k).length
      · have ht : (plP d x k).take (n + 1) = (plP d x k).take n ++ [(plP d x k)[n]] := by rw [List.take_add_one, List.getElem?_eq_getElem hn]; rfl
        rw [ht, List.foldl_append]
        exact inv_step hR hE hM ih (by have := List.take_prefix (n + 1) (plP d x k); rw [ht] at this; exact this)
      · rw [List.take_of_length_le (by omega)]
        rw [List.take_of_length_le (by omega)] at ih
        exact ih
  intro pre h
  have := key pre.length
  rwa [← List.prefix_iff_eq_take.1 h] at this
end
end Go.Proofs.YtofcjmjokokajaaGreat
namespace Go.Proofs.YtofcjmjokokajaaGreat
open Go.RowKit Go.Um Go.Proofs Go.Vm
def keptF (d : Desc) (x : List Int) (most : Int) : Kept := (plP d x d.states.toNat).foldl (tellF d x d.states.toNat most) (false, List.replicate ((x.length + 1) * d.states.toNat) none)
def outsF (d : Desc) (x : List Int) (most : Int) : List (List Int) × Int := if askF d x ≠ 0 then ([], askF d x) else if most < 1 then ([], 1) else if (keptF d x most).1 then ([], 5) else (setAt (keptF d x most).2 d.start.toNat, 0)
structure AskOk (d : Desc) (x : List Int) (k : Nat) : Prop where
  rule : RuleOk d k
  k1 : 1 ≤ k
  k2 : k ≤ 1024
  rules : d.rules.length ≤ 4096
  finals : d.finals.length ≤ 4096
  len : x.length ≤ 1024
  ch : Ch x
theorem os_zero (M : Nat) : List.replicate M (vcells V.nil) = (List.replicate M (none : Option (List (List Int)))).map osR.cells := by
  rw [List.map_replicate]
  rfl
attribute [local irreducible] Ev arun frun grun awp RetQ NextQ RetM
set_option maxHeartbeats 4000000
set_option maxRecDepth 20000
theorem outputs_v (hCat : CatOk Tryz.prog 53) (hSrt : SrtOk Tryz.prog 54) (d : Desc) (x : List Int) (most : Int) (hE : ∀ r ∈ d.rules, ¬ r.guards.length = 0) (hask : askF d x = 0 → ∃ k, AskOk d x k) (hmost : most ≤ 100000) :
    VPure Tryz.prog 18 [.agg (descR.cells d), runeR.L x, .int .i64 most] (.tuple [runeR.listR.L (outsF d x most).1, .int .i64 (outsF d x most).2]) := by
  have h1 := rcheck_v d x hE
  obtain ⟨R, hRR⟩ : ∃ R, R = outsF d x most := ⟨_, rfl⟩
  rw [← hRR]
  unfold outsF at hRR
  refine a_pure (n0 := 0) (hN := Tryz.ntmps18) (hf := Tryz.func18) ?_
  refine wk ⟨?_⟩
  refine ar_pure h1 ?_
  by_cases ha : askF d x = 0
  · rw [ha] at hRR ⊢
    rw [if_neg (by simp)] at hRR
    obtain ⟨k, hR, hk1, hk2, hr, hf, hxl, hxs⟩ := hask ha
    clear hask h1
    refine wk2 (fun h => ⟨?_⟩) (fun h => ⟨?_⟩)
    · rw [if_pos (by assumption)] at hRR
      subst hRR
      refine ret_two (.inr rfl) rfl rfl rfl .nil (pk_int rfl)
    · rw [if_neg (by assumption)] at hRR
      have hkt : d.states.toNat = k := by have := hR.st; omega
      unfold keptF at hRR
      rw [hkt] at hRR
      have hxr : ∀ z ∈ x, -2147483648 ≤ z ∧ z ≤ 2147483647 := fun z hz => by have := hxs z hz; omega
      have hbg := begin_v d x k hR hk1 hk2 hr hf hxl hxr hE
      obtain ⟨M, hM⟩ : ∃ M, M = (x.length + 1) * k := ⟨_, rfl⟩
      have hMb : M ≤ 1025 * 1024 := by rw [hM]; exact Nat.mul_le_mul (by omega) hk2
      have hlen : (lvL M (liveF d x k (ordL k) (x.length + 1))).length = M := lvL_len
      rw [← hM] at hbg hRR
      refine ar_pure hbg ?_
      clear hbg
      obtain ⟨LV, hLV⟩ : ∃ LV, LV = lvL M (liveF d x k (ordL k) (x.length + 1)) := ⟨_, rfl⟩
      rw [← hLV] at hlen ⊢
      refine wk ⟨?_⟩
      have hl2 : (⟨d, x, rulesL d k, finalsL d k, ordL k, LV⟩ : Rnr).live.length = M := hlen
      rw [hl2]
      refine ar_s ?_
      rw [Int.toNat_natCast, os_zero]
      refine ar_s ?_
      refine ar_n ?_
      refine ar_nil ?_
      refine a_seq ?_
      refine a_region ?_
      refine ar_s ?_
      refine ar_n ?_
      refine ar_nil ?_
      refine a_freeze0 [0, 1, 2] (by exact .pack (k := 3) (v := .iptr (descR.cells d)) (pk_boxw (r := descR) (x := d) rfl rfl rfl) (.pack (k := 5) (v := .iptr [.int .i64 most]) (pk_boxw (r := intR) (x := most) rfl rfl rfl) (.pack (k := 9) (v := .iptr [.iptr (rnrR.cells ⟨d, x, rulesL d k, finalsL d k, ordL k, LV⟩)]) (pk_box (v := .iptr (rnrR.cells ⟨d, x, rulesL d k, finalsL d k, ordL k, LV⟩)) rfl rfl rfl rfl rfl (.keep (Rp.vip _ _ _))) (.keep (k := 10) FV.ptr (.keep (k := 11) FV.ptr .nil))))) ?_
      obtain ⟨mN, rfl⟩ : ∃ n : Nat, most = n := ⟨most.toNat, by omega⟩
      have hinv := fun pre hp => inv_all (most := mN) hR hE hM pre hp
      have hidx : ∀ a s : Nat, a ≤ x.length → s < k → a * k + s < M := fun a s h1 h2 => by
        have : (a + 1) * k ≤ (x.length + 1) * k := Nat.mul_le_mul_right _ (by omega)
        rw [hM]
        rw [Nat.add_mul] at this
        omega
      have hcap : ∀ v ∈ [V.ptr 5 0 0 0, .iptr [.iptr (rnrR.cells ⟨d, x, rulesL d k, finalsL d k, ordL k, LV⟩)], .iptr (descR.cells d), .ptr 4 0 0 0, .iptr [.int .i64 (mN : Int)]], Vlt 6 v := fun v hv => by
        simp only [List.mem_cons, List.not_mem_nil, or_false] at hv
        rcases hv with rfl | rfl | rfl | rfl | rfl
        · exact .ptr (by decide)
        · exact .iptr fun v hv => by obtain rfl := List.mem_singleton.1 hv; exact Rp.vip _ _ _
        · exact Rp.vip _ _ _
        · exact .ptr (by decide)
        · exact .iptr fun v hv => by obtain rfl := List.mem_singleton.1 hv; exact .int _ _
      have hbk : VM Tryz.prog 48 [.iptr (rnrR.cells ⟨d, x, rulesL d k, finalsL d k, ordL k, LV⟩), .func (.func 49) [] [.ptr 5 0 0 0, .iptr [.iptr (rnrR.cells ⟨d, x, rulesL d k, finalsL d k, ordL k, LV⟩)], .iptr (descR.cells d), .ptr 4 0 0 0, .iptr [.int .i64 (mN : Int)]]] (slk (TS M (false, List.replicate M none))) 6 (slk (TS M ((plP d x k).foldl (tellF d x k (mN : Int)) (false, List.replicate M none)) ++ TS M (false, List.replicate M none))) (.tuple []) :=
        back_vm ⟨d, x, rulesL d k, finalsL d k, ordL k, LV⟩ k M 49 _ (lvP d x k) (tellF d x k (mN : Int)) (false, List.replicate M none) (by kernel_rfl) hR.st hk2 hxl (by rw [← hM]; exact hlen) (fun a s h1 h2 => by
          show LV[a * k + s]? = _
          rw [hLV, lvL_at (hidx a s h1 h2)]
          rfl) (fun s hs => ord_mem.1 hs) (by rw [ordL_len]; omega) hcap fun pre a s hpre => by
          obtain ⟨ha2, hs2, _⟩ := plP_mem.1 ((List.IsPrefix.mem (List.mem_append_right pre (List.mem_singleton.2 rfl)) hpre) : (a, s) ∈ plP d x k)
          have hi := hinv pre ((List.prefix_append _ _).trans hpre)
          exact List.foldl_append .. ▸ tell_vm hCat hSrt d x k M (ordL k) LV (mN : Int) _ a s hR hk2 hr hf hxl hxs ha2 hs2 hM hi.len fun q => inv_sets hR hk2 hE hxl hM (by omega) hi q
      have hi := hinv _ (List.prefix_refl _)
      obtain ⟨Y, hY⟩ : ∃ Y, Y = (plP d x k).foldl (tellF d x k (mN : Int)) (false, List.replicate M none) := ⟨_, rfl⟩
      rw [← hY] at hbk hRR hi
      clear hinv hl2
      have hsl : d.start.toNat < k := by have := hR.start; omega
      have hs0 := hR.start
      have hin : (0, d.start.toNat) ∈ plP d x k := plP_mem.2 ⟨Nat.zero_le _, hsl, (lvP_iff hR hE hsl).2 (by rw [show ((d.start.toNat : Nat) : Int) = d.start by omega]; exact Reach.start)⟩
      have hsM := hidx 0 d.start.toNat (Nat.zero_le _) hsl
      refine wk ⟨?_⟩
      refine ar_s ?_ (ev_funcL (vs := [.ptr 5 0 0 0, .iptr [.iptr (rnrR.cells ⟨d, x, rulesL d k, finalsL d k, ordL k, LV⟩)], .iptr (descR.cells d), .ptr 4 0 0 0, .iptr [.int .i64 (mN : Int)]]) rfl)
      refine ar_mu hbk TS_lt TS_lt rfl rfl (.tuple (by simp)) ?_ (ha := ?_)
      · obtain ⟨m, ss⟩ := Y
        cases m with
        | true =>
          rw [if_pos rfl] at hRR
          subst hRR
          refine wk ⟨?_⟩
          exact ret_two (.inr rfl) rfl rfl rfl .nil (pk_int rfl)
        | false =>
          rw [if_neg (by simp)] at hRR
          obtain ⟨l, hl⟩ := hi.done rfl _ hin
          simp only [Nat.zero_mul, Nat.zero_add] at hl hsM
          rw [setAt_some hl] at hRR
          subst hRR
          refine wk ⟨?_⟩
          exact ret_two (.inr rfl) rfl rfl rfl (pk_list rfl) (pk_int rfl)
      · exact ⟨Rp.vip _ _ _, .func (fun _ h => nomatch h) hcap, trivial⟩
  · rw [if_pos ha] at hRR
    subst hRR
    clear hask h1
    refine wk ⟨?_⟩
    exact ret_two (.inr rfl) rfl rfl rfl .nil (pk_int rfl)
end Go.Proofs.YtofcjmjokokajaaGreat
namespace Go.Proofs.YtofcjmjokokajaaGreat
open Go.RowKit Go.Um Go.Proofs Go.Vm
theorem where_all {d : Desc} (h : (whereF d).1 = 0) : headF d = true ∧ (∀ r ∈ d.rules, ruleF d r = true) ∧ ∀ f ∈ d.finals, finF d f = true := by
  unfold whereF at h
  split at h
  · simp at h
  · rename_i h1
    split at h
    · simp at h
    · rename_i h2
      split at h
      · simp at h
      · rename_i h3
        rw [List.findIdx?_eq_none_iff] at h2 h3
        exact ⟨by simpa using h1, fun r hr => by simpa using h2 r hr, fun f hf => by simpa using h3 f hf⟩
theorem rule_ok {d : Desc} (h : (whereF d).1 = 0) : ∃ n : Nat, RuleOk d n ∧ 1 ≤ n ∧ n ≤ 1024 ∧ d.rules.length ≤ 4096 ∧ d.finals.length ≤ 4096 ∧ (d.inn = 1 ∨ d.inn = 2) ∧ (d.out = 1 ∨ d.out = 2) := by
  obtain ⟨h1, h2, h3⟩ := where_all h
  unfold headF stateF sortF at h1
  simp only [Bool.and_eq_true, decide_eq_true_eq] at h1
  obtain ⟨⟨⟨⟨⟨⟨a1, a2⟩, a3⟩, a4⟩, a5⟩, a6⟩, a7⟩ := h1
  refine ⟨d.states.toNat, ⟨by omega, by omega, fun r hr => ?_, fun f hf => ?_⟩, by omega, by omega, a6, a7, a1, a2⟩
  · have h4 := h2 r hr
    unfold ruleF stateF eatF at h4
    simp only [Bool.and_eq_true, decide_eq_true_eq] at h4
    obtain ⟨⟨⟨⟨b1, b2⟩, b3⟩, b4⟩, b5⟩ := h4
    have h5 : r.out.length ≤ 64 := by
      unfold writesF at b5
      simp only [Bool.and_eq_true, decide_eq_true_eq] at b5
      exact b5.1
    refine ⟨by omega, by omega, ?_, by omega, fun h0 => ?_, h5, b3, b5⟩
    · have := b4.1; split at this <;> omega
    · have := b4.1
      split at this
      · rename_i h6; exact List.eq_nil_of_length_eq_zero h6
      · omega
  · have h4 := h3 f hf
    unfold finF stateF at h4
    simp only [Bool.and_eq_true, decide_eq_true_eq] at h4
    obtain ⟨⟨b1, b3⟩, b5⟩ := h4
    have h5 : f.out.length ≤ 64 := by
      unfold writesF at b5
      simp only [Bool.and_eq_true, decide_eq_true_eq] at b5
      exact b5.1
    exact ⟨by omega, h5, b3, b5⟩
theorem ask_ok {d : Desc} {x : List Int} (h : askF d x = 0) : ∃ k, AskOk d x k := by
  unfold askF at h
  split at h
  · simp at h
  · rename_i h1
    split at h
    · simp at h
    · rename_i h2
      split at h
      · rename_i h3
        have hw : (whereF d).1 = 0 := by
          unfold checkF at h1
          split at h1
          · assumption
          · simp at h1
        obtain ⟨n, hR, hn1, hn2, hr, hf, _, _⟩ := rule_ok hw
        exact ⟨n, hR, hn1, hn2, hr, hf, by omega, fun z hz => dom_bd ((hasB_iff _ _).1 (List.all_eq_true.1 h3 z hz))⟩
      · simp at h
theorem outs_law {d : Desc} {x : List Int} {most : Nat} (hE : ∀ r ∈ d.rules, ¬ r.guards.length = 0) (ha : askF d x = 0) (hm : 1 ≤ most) : ((outsF d x (most : Int)).2 = 0 ∧ WordsOf d x 0 d.start most (outsF d x (most : Int)).1) ∨ ((outsF d x (most : Int)).2 = 5 ∧ (outsF d x (most : Int)).1 = [] ∧ TooMany d x most) := by
  obtain ⟨k, hR, hk1, hk2, hr, hf, hxl, hxs⟩ := ask_ok ha
  have hkt : d.states.toNat = k := by have := hR.st; omega
  have hinv := inv_all (most := most) hR hE (rfl : (x.length + 1) * k = (x.length + 1) * k) _ (List.prefix_refl (plP d x k))
  unfold outsF
  rw [if_neg (by simp [ha]), if_neg (by omega)]
  have hkf : keptF d x (most : Int) = (plP d x k).foldl (tellF d x k (most : Int)) (false, List.replicate ((x.length + 1) * k) none) := by unfold keptF; rw [hkt]
  rw [← hkf] at hinv
  generalize keptF d x (most : Int) = Y at hinv
  cases hy : Y.1 with
  | true => exact .inr ⟨rfl, rfl, hinv.many hy⟩
  | false =>
    refine .inl ⟨rfl, ?_⟩
    have hs0 := hR.start
    have hsl : d.start.toNat < k := by omega
    have hss : ((d.start.toNat : Nat) : Int) = d.start := by omega
    have hin : (0, d.start.toNat) ∈ plP d x k := plP_mem.2 ⟨Nat.zero_le _, hsl, (lvP_iff hR hE hsl).2 (by rw [hss]; exact Reach.start)⟩
    obtain ⟨l, hl⟩ := hinv.done hy _ hin
    have hw := hinv.sets hy 0 d.start.toNat l hsl (Nat.zero_le _) hl
    simp only [Nat.zero_mul, Nat.zero_add] at hl
    rw [hss] at hw
    simp only [Bool.false_eq_true, if_false]
    rw [setAt_some hl]
    exact hw
end Go.Proofs.YtofcjmjokokajaaGreat
namespace Go.Proofs.YtofcjmjokokajaaGreat
open Go.RowKit Go.Um Go.Proofs Go.Vm
theorem infoRn : (Tryz.prog.info? 21).map (fun i => (i.zero, i.size, i.bytes)) = some (some (.int .i32 0), 1, 4) := by kernel_rfl
theorem info_partsR {P : Program} {e : TypeId} {z : Value} {s b : Nat} (h : (P.info? e).map (fun i => (i.zero, i.size, i.bytes)) = some (some z, s, b)) : ∃ inf, P.info? e = some inf ∧ inf.zero = some z ∧ inf.size = s ∧ inf.bytes = b := by
  obtain ⟨i, h1, h2⟩ := Option.map_eq_some_iff.1 h
  injection h2 with h3 h4
  injection h4 with h4 h5
  exact ⟨i, h1, h3, h4, h5⟩
set_option maxHeartbeats 1000000 in
set_option maxRecDepth 100000 in
theorem grow_calls (n : Nat) (w : World) (h0 : 0 < n) (hn : n ≤ 1000000000000) : Calls Tryz.prog 106 #[.slice none 0 0, .int .i64 n] w fun e w' => ∃ (G : Nat) (cs : Array Value), e = .returned (.slice (some ⟨w.heap.size, 0, none⟩) 0 G) ∧ w' = w.drew.alloc (.cells cs 21) ∧ cs.size = G * 1 ∧ G ≤ maxLen := by
  obtain ⟨inf, hi0, hz0, hz1, hz2⟩ := info_partsR infoRn
  have h1 : ¬ ((n : Int) < 0) := by omega
  have h2 : (0 : Int) < n := by omega
  have hrz : ∀ ty, (Builtin.append_ #[37, 3] ty #[.slice none 0 0, .int .i64 (n : Int)]).run Tryz.prog w = .ok (.slice (some ⟨w.heap.size, 0, none⟩) n (grownCap w n 0 21)) (w.drew.alloc (.cells (Builtin.zeroCells (Value.int .i32 0).cells n ++ Builtin.zeroCells (Value.int .i32 0).cells (grownCap w n 0 21 - n)) 21)) := fun ty =>
    Lib.run_append_nil_zeros w 37 3 ty 21 inf _ .i64 .i64 Tryz.underlying37 Tryz.underlying3 hi0 hz0 n (by omega) (by rw [hz1]; decide) (by omega) (by rw [hz2]; omega)
  have hge := grownCap_ge w n 0 21
  have hle := grownCap_le_maxLen w n 0 21 (by unfold maxLen; omega)
  obtain ⟨G, hG⟩ : ∃ G, G = grownCap w n 0 21 := ⟨_, rfl⟩
  rw [← hG] at hge hle hrz
  obtain ⟨cs, hcs⟩ : ∃ cs, cs = Builtin.zeroCells (Value.int .i32 0).cells n ++ Builtin.zeroCells (Value.int .i32 0).cells (G - n) := ⟨_, rfl⟩
  have hsz : cs.size = G * 1 := by rw [hcs]; simp [Builtin.zeroCells, Value.cells]; omega
  rw [← hcs] at hrz
  have HS := hid hsz
  have HL := hid hle
  clear hG hcs hsz hi0 hz0 hz1 hz2 h0
  unfold maxLen at hle
  go_enter Tryz.func106, Tryz.ntmps106
  go_wp2_with (at_builtin; refine Hid.out ?_)
  refine hid ?_
  show wpList _ _ _ _ _ _
  refine Lib.wpList_append_run _ (by rfl) _ _ _ _ (by rfl) _ _ (by rfl) (by rfl) _ _ (hrz _) ?_
  go_wp2_with fail
  go_ret
  exact ⟨G, cs, rfl, rfl, HS.out, HL.out⟩
theorem grow_vm (n : Nat) (h0 : 0 < n) (hn : n ≤ 1000000000000) : VM Tryz.prog 106 [.nil, .int .i64 (n : Int)] (slk []) 0 (slk ((0, some (.cells 21 1 0 0 [])) :: [])) (.row 0 0 0 0) := by
  intro w Sb G us hs hfr hargs
  obtain ⟨u, us, rfl, hu, hus⟩ := hargs.head
  obtain ⟨u2, us, rfl, hu2, hus⟩ := hus.head
  have := hus.none
  subst this
  cases hu
  cases hu2
  refine (show Calls Tryz.prog 106 #[.slice none 0 0, .int .i64 n] w _ from grow_calls n w h0 hn).mono ?_
  rintro e w' ⟨C, cs, rfl, rfl, hsz, hle⟩
  have hz := Nxt.same hs (w' := w.drew) rfl rfl rfl rfl
  have hr := Nxt.row hz.sim (n := 0) (hfr 0 (Nat.le_refl _)).1 (hfr 0 (Nat.le_refl _)).2 21 (m := 1) (cap := C) (xs := []) (cur := cs) (by decide) (by simp) hsz (Nat.zero_le _) hle (fun i cs j v h => by simp at h)
  have hst : put (slk []) 0 (.cells 21 1 0 0 []) = slk ((0, some (.cells 21 1 0 0 [])) :: []) := slk_cons ..
  rw [hst] at hr
  refine ⟨_, Sb, _, rfl, hz.trans hr, rv_new_row 0 C 0 1 (by decide), fun id j hid _ => ?_⟩
  exact gput_ne _ _ (fun q => by omega)
set_option maxHeartbeats 1000000 in
set_option maxRecDepth 100000 in
theorem grow0_calls (w : World) : Calls Tryz.prog 106 #[.slice none 0 0, .int .i64 0] w fun e w' => e = .returned (.slice none 0 0) ∧ w' = w := by
  go_enter Tryz.func106, Tryz.ntmps106
  go_wp2_with fail
  go_ret
  exact ⟨rfl, rfl⟩
theorem grow0_v : VPure Tryz.prog 106 [.nil, .int .i64 0] .nil := by
  intro w Sb us hsub hargs
  obtain ⟨u, us, rfl, hu, hus⟩ := hargs.head
  obtain ⟨u2, us, rfl, hu2, hus⟩ := hus.head
  have := hus.none
  subst this
  cases hu
  cases hu2
  refine (show Calls Tryz.prog 106 #[.slice none 0 0, .int .i64 0] w _ from grow0_calls w).mono ?_
  rintro e w' ⟨rfl, rfl⟩
  exact ⟨_, Sb, rfl, Nxt.refl (WSim.none hsub), .nil⟩
end Go.Proofs.YtofcjmjokokajaaGreat
namespace Go.Um
structure CcSt where
  k : Nat
  g : Nat
  L : Nat
  acc : List Int
end Go.Um
namespace Go.Proofs.YtofcjmjokokajaaGreat
open Go.RowKit Go.Um Go.Proofs Go.Vm
attribute [local irreducible] Ev arun frun grun awp RetQ NextQ RetM
set_option maxHeartbeats 4000000
def sumL (ps : List (List Int)) : Nat := (ps.map List.length).sum
theorem sumL_snoc (ps : List (List Int)) (p : List Int) : sumL (ps ++ [p]) = sumL ps + p.length := by simp [sumL]
theorem sumL_flat (ps : List (List Int)) : ps.flatten.length = sumL ps := by rw [List.length_flatten]; rfl
theorem concat_v (ps : List (List Int)) (hl : sumL ps ≤ 1000000000000) (hn : ps.length ≤ 1000000) : VPure Tryz.prog 53 [runeR.listR.L ps] (runeR.L ps.flatten) := by
  have hsl : ∀ k, sumL (ps.take k) ≤ sumL ps := fun k => by
    have e : sumL ps = sumL (ps.take k) + sumL (ps.drop k) := by
      unfold sumL
      rw [← List.sum_append, ← List.map_append, List.take_append_drop]
    omega
  refine a_pure (n0 := 0) (hN := Tryz.ntmps53) (hf := Tryz.func53) ?_
  refine wk ⟨?_⟩
  refine a_loop (σ := Nat) 0 [0, 9, 10] (fun k => [(3, V.int .i64 ((sumL (ps.take k) : Nat) : Int)), (11, V.int .i64 (k : Int))]) (fun _ => []) (fun k => k ≤ ps.length) (fun k => ps.length - k) 0 (Nat.zero_le _) ?_
  intro k hk
  obtain hx | ⟨p, hp, hlt⟩ := range_cases hk
  · subst k
    rw [List.take_length]
    rcases Nat.eq_zero_or_pos (sumL ps) with h0 | h0
    · have hpe : ∀ p ∈ ps, p = [] := fun p hp => by
        obtain ⟨k, hk⟩ := List.mem_iff_getElem?.1 hp
        have h1 := hsl (k + 1)
        rw [take_at hk, sumL_snoc] at h1
        exact List.eq_nil_of_length_eq_zero (by omega)
      have hfe : ps.flatten = [] := List.eq_nil_of_length_eq_zero (by rw [sumL_flat]; exact h0)
      rw [h0, hfe]
      refine wk ⟨?_⟩
      refine ar_pure grow0_v ?_
      refine wk ⟨?_⟩
      refine a_loop (σ := Nat) 0 [6, 25, 26] (fun k => [(27, V.int .i64 (k : Int))]) (fun _ => []) (fun k => k ≤ ps.length) (fun k => ps.length - k) 0 (Nat.zero_le _) ?_
      intro k hk
      obtain hx | ⟨p, hp, hlt⟩ := range_cases hk
      · subst k
        refine wk ⟨?_⟩
        exact ret_tmp (.inr rfl) rfl rfl .nil
      · obtain rfl := hpe p (List.mem_of_getElem? hp)
        refine wk ⟨?_⟩
        refine ar_s ?_ (ev_app_nil0 (f := runeR.cells) (ys := []) (h0 := rfl))
        refine wk ⟨?_⟩
        refine a_next (k + 1) hlt (by omega) ?_
        refine end0 ?_ ?_; all_goals repeat' first | exact trivial | refine And.intro ?_ ?_ | exact rn_int rfl | exact rn_list rfl | exact rn_row rfl ⟨rfl, rfl, rfl⟩ | exact rn_ptr rfl | exact rn_bool rfl | exact rn_agg rfl | exact rn_iptr rfl | exact rn_map rfl | exact rn_nrows rfl | exact rn_new rfl rfl rfl (by omega) | refine rn_int ?_ | refine rn_bool ?_ | refine rn_list ?_ | refine rn_row rfl ⟨?_, ?_, ?_⟩ | refine rn_nrow rfl ⟨rfl, ?_⟩ ?_ | refine rn_agg ?_ | exact Exists.intro _ ⟨rfl, RnB.cells (RnX.of_eq rfl), rfl⟩ | exact Exists.intro _ ⟨rfl, RnB.cells (RnX.of_eq (map_snoc rfl)), rfl⟩ | exact Exists.intro _ ⟨rfl, RnB.cells (RnX.of_eq (map_setc rfl)), rfl⟩ | exact Exists.intro _ ⟨rfl, RnB.cells (RnX.of_eq (map_inc rfl)), rfl⟩ | exact Exists.intro _ ⟨rfl, RnB.cells (RnX.of_eq (map_snocs rfl)), rfl⟩ | refine Exists.intro _ ⟨rfl, RnB.cells (RnX.cons (RnC.cons ?_ ?_ RnC.nil) RnX.nil), rfl⟩ | exact Exists.intro _ ⟨rfl, RnB.hole, rfl⟩ | refine Exists.intro _ ⟨rfl, rnm_of ?_, rfl⟩ | exact nrow_one | refine old_nbs ?_ rfl | refine old_nb ?_ ⟨?_, _, rfl, RnB.cells (RnX.of_eq (map_snoc rfl)), rfl⟩ | refine old_nb ?_ ⟨?_, _, rfl, RnB.cells (RnX.of_eq (map_snocs rfl)), rfl⟩ | refine old_nb ?_ ⟨?_, _, rfl, RnB.cells (RnX.of_eq (map_inc rfl)), rfl⟩ | refine old_nb ?_ ⟨?_, _, rfl, RnB.cells (RnX.of_eq rfl), rfl⟩ | rfl | (simp only []; omega) | (simp; done) | (simp; omega) | assumption
        exact .keep .nil
    · refine wk ⟨?_⟩
      refine ar_m1 (grow_vm (sumL ps) h0 hl) trivial (by simp) ?_
      refine wk ⟨?_⟩
      refine a_loop (σ := CcSt) 0 [25, 26] (fun y => [(6, V.row 0 y.g 0 y.acc.length), (27, V.int .i64 (y.k : Int))]) (fun y => [(0, some (.cells 21 1 y.g y.L (y.acc.map runeR.cells)))]) (fun y => y.L ≤ y.g ∧ y.k ≤ ps.length ∧ y.acc = (ps.take y.k).flatten) (fun y => ps.length - y.k) ⟨0, 0, 0, []⟩ ⟨Nat.le_refl _, Nat.zero_le _, rfl⟩ ?_
      rintro ⟨k, g, L, acc⟩ ⟨hLg, hk, hacc⟩
      simp only at hLg hk hacc
      have hal : acc.length ≤ sumL ps := by rw [hacc, sumL_flat]; exact hsl k
      obtain hx | ⟨p, hp, hlt⟩ := range_cases hk
      · subst k
        rw [List.take_length] at hacc
        dsimp only
        refine wk ⟨?_⟩
        exact ret_tmp (.inr rfl) rfl rfl (by rw [← hacc]; exact pk_row rfl (ble2 hLg) rfl rfl rfl)
      · have hnx : (ps.take (k + 1)).flatten = acc ++ p := by rw [take_at hp, List.flatten_append, ← hacc]; simp
        have hal2 : acc.length + p.length ≤ sumL ps := by rw [← List.length_append, ← hnx, sumL_flat]; exact hsl (k + 1)
        dsimp only
        refine wk ⟨?_⟩
        refine a_next (⟨k + 1, g + 1, L, acc ++ p⟩ : CcSt) ⟨by simp only; omega, hlt, hnx.symm⟩ (by simp only; omega) ?_
        exact wz
  · have h1 := hsl (k + 1)
    have h2 : sumL (ps.take (k + 1)) = sumL (ps.take k) + p.length := by rw [take_at hp, sumL_snoc]
    refine wk ⟨?_⟩
    refine a_next (k + 1) hlt (by omega) ?_
    rw [h2]
    refine end0 ?_ ?_; all_goals repeat' first | exact rn_int (by omega) | exact trivial | refine And.intro ?_ ?_ | exact rn_int rfl | exact rn_list rfl | exact rn_row rfl ⟨rfl, rfl, rfl⟩ | exact rn_ptr rfl | exact rn_bool rfl | exact rn_agg rfl | exact rn_iptr rfl | exact rn_map rfl | exact rn_nrows rfl | exact rn_new rfl rfl rfl (by omega) | refine rn_int ?_ | refine rn_bool ?_ | refine rn_list ?_ | refine rn_row rfl ⟨?_, ?_, ?_⟩ | refine rn_nrow rfl ⟨rfl, ?_⟩ ?_ | refine rn_agg ?_ | exact Exists.intro _ ⟨rfl, RnB.cells (RnX.of_eq rfl), rfl⟩ | exact Exists.intro _ ⟨rfl, RnB.cells (RnX.of_eq (map_snoc rfl)), rfl⟩ | exact Exists.intro _ ⟨rfl, RnB.cells (RnX.of_eq (map_setc rfl)), rfl⟩ | exact Exists.intro _ ⟨rfl, RnB.cells (RnX.of_eq (map_inc rfl)), rfl⟩ | exact Exists.intro _ ⟨rfl, RnB.cells (RnX.of_eq (map_snocs rfl)), rfl⟩ | refine Exists.intro _ ⟨rfl, RnB.cells (RnX.cons (RnC.cons ?_ ?_ RnC.nil) RnX.nil), rfl⟩ | exact Exists.intro _ ⟨rfl, RnB.hole, rfl⟩ | refine Exists.intro _ ⟨rfl, rnm_of ?_, rfl⟩ | exact nrow_one | refine old_nbs ?_ rfl | refine old_nb ?_ ⟨?_, _, rfl, RnB.cells (RnX.of_eq (map_snoc rfl)), rfl⟩ | refine old_nb ?_ ⟨?_, _, rfl, RnB.cells (RnX.of_eq (map_snocs rfl)), rfl⟩ | refine old_nb ?_ ⟨?_, _, rfl, RnB.cells (RnX.of_eq (map_inc rfl)), rfl⟩ | refine old_nb ?_ ⟨?_, _, rfl, RnB.cells (RnX.of_eq rfl), rfl⟩ | rfl | (simp only []; omega) | (simp; done) | (simp; omega) | assumption
theorem cat_ok : CatOk Tryz.prog 53 := fun a b ha hb _ _ => by
  have := concat_v [a, b] (by simp [sumL]; omega) (by simp)
  simpa using this
end Go.Proofs.YtofcjmjokokajaaGreat
namespace Go.Um
open Go.Vm Go.RowKit
def encW (l : List Int) : List Value := l.map (Value.int .i32)
theorem encW_len (l : List Int) : (encW l).length = l.length := List.length_map _
theorem encW_one {l : List Int} : ∀ u ∈ encW l, u.oneCell' = true := fun u hu => by
  obtain ⟨x, _, rfl⟩ := List.mem_map.1 hu
  rfl
theorem own_below {B : Nat} {w w' : World} {v : Value} {base : Nat} {e : TypeId} {size n : Nat} {xs : List Value} (ho : w.ownsRow base e size v n xs) (hg : w.grownBy w' v.ownBlock) (hB : B ≤ base) (hw : B ≤ w.heap.size) : Below B w w' :=
  (Below.refl B w).grown hg hw fun k hk => Nat.le_trans hB (ho.lt k hk).1
end Go.Um
namespace Go.Proofs.YtofcjmjokokajaaGreat
open Go.RowKit Go.Um Go.Proofs Go.Vm
end Go.Proofs.YtofcjmjokokajaaGreat
namespace Go.Um
open Go.RowKit
section
variable {P : Program} {md : Region.Mode} {ops : Array Oper} {Q : Exit → Act → World → Prop} {S : World → Prop} {last : Nat}
def anyL (P : Program) (md : Region.Mode) (ops : Array Oper) (Q : Exit → Act → World → Prop) (S : World → Prop) (last : Nat) : Nat → Array Bool → Act → World → Prop
  | 0, listed, a, w => Region.ready md ops listed = [] ∧ Q .normal a w
  | f + 1, listed, a, w => (Region.ready md ops listed = [] → Q .normal a w) ∧
      ∀ i ∈ Region.ready md ops listed, wpOp P ops Q i (fun a' w' => (i ≠ last → S w') ∧ anyL P md ops Q S last f (listed.setIfInBounds i true) a' w') a w
theorem any_of_anyL : ∀ (f : Nat) (listed : Array Bool) (a : Act) (w : World), anyL P md ops Q S last f listed a w → wpAny P md ops Q f listed a w
  | 0, _, _, _, h => h
  | f + 1, _, _, _, h => ⟨h.1, fun i hi => wpOp_mono (fun a' w' h' => any_of_anyL f _ a' w' h'.2) (h.2 i hi)⟩
def LastWaits (md : Region.Mode) (ops : Array Oper) (last i : Nat) (listed : Array Bool) : Prop :=
  ∀ ol, ops[last]? = some ol → ∃ e ∈ ol.after, Region.binds md e = true ∧ (e.on = i ∨ (listed.getD e.on false = false ∧ ∃ ok, ops[e.on]? = some ok ∧ ∃ e' ∈ ok.after, Region.binds md e' = true ∧ e'.on = i))
theorem anyL_first {i : Nat} {oi : Oper} {v : Value} (hi : ops[i]? = some oi) (hsel : ∀ (j : Nat) (o : Oper) (cs : Array SelectCase) (b : Bool), ops[j]? = some o → o.op ≠ .select cs b)
    (hQ : ∀ c a w, Q (.panic c) (a.put oi.dst v) w → Q (.panic c) a w) (hil : i ≠ last) :
    ∀ (f : Nat) (listed : Array Bool) (a : Act) (w : World),
      (∀ j oj, ops[j]? = some oj → j ≠ i → listed.getD j true = false → (∀ e ∈ oj.after, Region.binds md e = true → e.on ≠ i) → oi.apart ops oj = true) →
      LastWaits md ops last i listed → i ∈ Region.ready md ops listed → YieldsIf P ops S oi v a → S w →
      anyL P md ops Q S last f (listed.setIfInBounds i true) (a.put oi.dst v) w → anyL P md ops Q S last (f + 1) listed a w := by
  intro f
  induction f with
  | zero =>
    intro listed a w _ _ hr hy hS H
    refine ⟨fun h => (by rw [h] at hr; cases hr), fun j hj => ?_⟩
    by_cases hji : j = i
    · subst hji; exact hy.wpOp hi hS ⟨fun _ => hS, H⟩
    · have := ready_mono hj hji
      rw [H.1] at this
      cases this
  | succ f ih =>
    intro listed a w hfree hlw hr hy hS H
    refine ⟨fun h => (by rw [h] at hr; cases hr), fun j hj => ?_⟩
    by_cases hji : j = i
    · subst hji; exact hy.wpOp hi hS ⟨fun _ => hS, H⟩
    · have h1 := H.2 j (ready_mono hj hji)
      obtain ⟨hjun, oj, hoj, hall⟩ := mem_ready.1 hj
      have hnot : ∀ e ∈ oj.after, Region.binds md e = true → e.on ≠ i := fun e he hb heq => by
        have g1 := hall e he hb
        have g0 := (mem_ready.1 hr).1
        rw [heq] at g1
        rcases Nat.lt_or_ge i listed.size with h' | h'
        · simp [h'] at g0 g1; rw [g0] at g1; cases g1
        · simp [Array.getElem?_eq_none h'] at g1
      have hjl : j ≠ last := fun hjl => by
        subst hjl
        obtain ⟨e, he, hb, hon | ⟨hun, _⟩⟩ := hlw oj hoj
        · exact hnot e he hb hon
        · rw [hall e he hb] at hun; cases hun
      have hlw' : LastWaits md ops last i (listed.setIfInBounds j true) := fun ol hol => by
        obtain ⟨e, he, hb, hon | ⟨hun, ok, hok, e', he', hb', hon'⟩⟩ := hlw ol hol
        · exact ⟨e, he, hb, .inl hon⟩
        · refine ⟨e, he, hb, .inr ⟨?_, ok, hok, e', he', hb', hon'⟩⟩
          have hne : j ≠ e.on := fun hje => by
            subst hje
            rw [hoj] at hok
            cases hok
            exact hnot e' he' hb' hon'
          rw [getD_set_ne false hne]; exact hun
      have h2 := wpOp_putIf hoj (hfree j oj hoj hji hjun hnot) (fun cs b => hsel i oi cs b hi) (fun cs b => hsel j oj cs b hoj) hQ hy h1
      have hfree' : ∀ k ok, ops[k]? = some ok → k ≠ i → (listed.setIfInBounds j true).getD k true = false →
          (∀ e ∈ ok.after, Region.binds md e = true → e.on ≠ i) → oi.apart ops ok = true := fun k ok hk hki hun hno => by
        refine hfree k ok hk hki ?_ hno
        by_cases hjk : j = k
        · subst hjk; exact hjun
        · rw [getD_set_ne true hjk] at hun; exact hun
      refine wpOp_mono (fun a' w' h3 => ⟨h3.2.1, ih (listed.setIfInBounds j true) a' w' hfree' hlw' (ready_mono hr (Ne.symm hji)) h3.1 (h3.2.1 hjl) ?_⟩) h2
      rw [Array.setIfInBounds_comm _ _ hji]
      exact h3.2.2
def plainOp : Op → Bool
  | .move _ | .assign _ | .nilCheck .. | .pick .. | .build .. | .load .. | .binOp .. | .unOp .. | .convert .. | .slice .. | .fieldAddr .. | .field .. | .indexAddr .. | .index .. | .extract .. | .lookup .. => true
  | .call { callee := .builtin .len, .. } | .call { callee := .builtin .cap, .. } | .call { callee := .builtin .max, .. } | .call { callee := .builtin .min, .. } => true
  | _ => false
theorem value_of_bind {s : Sem Value} {w w' : World} {n : Next} (h : (do pure (Next.value (← s)) : Sem Next).run P w = .ok n w') : ∃ u, n = .value u := by
  rw [Sem.run_bind] at h
  cases hs : s.run P w with
  | ok u w'' =>
    rw [hs] at h
    simp only [Result.andThen_ok, Sem.run_pure] at h
    injection h with h1 h2
    exact ⟨u, h1.symm⟩
  | halt x w'' =>
    rw [hs] at h
    cases h
theorem plainOp_value {o : Oper} {ρ : Operand → Value} {w w' : World} {n : Next} (hp : plainOp o.op = true) (h : (execOp ρ o).run P w = .ok n w') : ∃ u, n = .value u := by
  obtain ⟨dst, op, ty, pos, after, guard⟩ := o
  cases op <;> simp only [plainOp, Bool.false_eq_true] at hp
  case call c =>
    obtain ⟨callee, args, argTypes⟩ := c
    cases callee with
    | builtin b =>
      cases b <;> simp only [Bool.false_eq_true] at hp <;>
        (simp only [execOp, resolve, Sem.run_bind, Sem.run_pure, Result.andThen_ok, invoke, builtin] at h
         exact value_of_bind (P := P) (w := w) (w' := w') (by rw [Sem.run_bind]; exact h))
    | value f => simp at hp
    | invoke r m => simp at hp
  case move x => simp only [execOp, Sem.run_pure] at h; injection h with h1 h2; exact ⟨_, h1.symm⟩
  case assign x => simp only [execOp, Sem.run_pure] at h; injection h with h1 h2; exact ⟨_, h1.symm⟩
  case pick c x y => exact value_of_bind (s := do pure (if ← asBool (ρ c) then ρ x else ρ y)) (by simpa [execOp, Sem.run_bind] using h)
  case nilCheck x =>
    have hpan : ∀ (w w' : World) (n : Next), (runtimePanic .nilDeref : Sem Next).run P w ≠ .ok n w' := by
      intro w w' n h
      simp [runtimePanic, goPanic, go_sem] at h
    simp only [execOp] at h
    split at h
    · exact absurd h (hpan _ _ _)
    · exact absurd h (hpan _ _ _)
    · exact absurd h (hpan _ _ _)
    · split at h
      · exact absurd h (hpan _ _ _)
      · rename_i t v hfi
        have h' := h
        rw [Sem.run_bind] at h'
        cases hp : Sem.run P program w with
        | halt q w2 => rw [hp] at h'; cases h'
        | ok a w2 =>
          rw [hp] at h'
          simp only [Result.andThen_ok] at h'
          rw [Sem.run_bind] at h'
          cases hq : Sem.run P (nilAhead (a.types.size + Made.depth) t v ‹String›) w2 with
          | halt q w3 => rw [hq] at h'; cases h'
          | ok c w3 =>
            rw [hq] at h'
            simp only [Result.andThen_ok] at h'
            split at h'
            · simp [unsupported, go_sem] at h'
            · simp only [Sem.run_pure] at h'; injection h' with h1 h2; exact ⟨_, h1.symm⟩
      · simp only [Sem.run_pure] at h; injection h with h1 h2; exact ⟨_, h1.symm⟩
    · simp only [Sem.run_pure] at h; injection h with h1 h2; exact ⟨_, h1.symm⟩
  all_goals exact value_of_bind h
def batchB (md : Region.Mode) (ops : Array Oper) (last : Nat) (listed : Array Bool) : List Nat → Bool
  | [] => true
  | i :: r => (Region.ready md ops listed).contains i && Region.free md ops listed i && i != last &&
      (match ops[last]? with | some ol => ol.after.any (fun e => Region.binds md e && (e.on == i || (!listed.getD e.on false && (match ops[e.on]? with | some ok => ok.after.any (fun e' => Region.binds md e' && e'.on == i) | none => false)))) | none => true) &&
      (match ops[i]? with | some o => plainOp o.op | none => false) && batchB md ops last (listed.setIfInBounds i true) r
def marked (listed : Array Bool) (l : List Nat) : Array Bool := l.foldl (fun s i => s.setIfInBounds i true) listed
theorem put_panic (hQ : ∀ c (t u : Array Value) ds w, Q (.panic c) ⟨t, ds⟩ w → Q (.panic c) ⟨u, ds⟩ w) {c : List PanicEntry} {a : Act} {d : Option Tmp} {v : Value} {w : World} (h : Q (.panic c) (a.put d v) w) : Q (.panic c) a w := by
  cases d with
  | none => exact h
  | some d => exact hQ c _ _ _ w h
theorem anyL_batch (hs : Region.noSelect ops = true) (hQ : ∀ c (t u : Array Value) ds w, Q (.panic c) ⟨t, ds⟩ w → Q (.panic c) ⟨u, ds⟩ w) {w : World} (hS : S w) {f : Nat} :
    ∀ (l : List Nat) (lo : List Oper) (listed : Array Bool) (a : Act), l.map (ops[·]?) = lo.map some → batchB md ops last listed l = true →
      wpQuiet P ops S (fun a' => anyL P md ops Q S last f (marked listed l) a' w) lo a → anyL P md ops Q S last (f + l.length) listed a w := by
  intro l
  induction l with
  | nil =>
    intro lo listed a hlo _ h
    have : lo = [] := by cases lo <;> simp_all
    subst this
    exact h
  | cons i r ih =>
    intro lo listed a hlo hB h
    cases lo with
    | nil => simp at hlo
    | cons o lo =>
      simp only [List.map_cons, List.cons.injEq] at hlo
      obtain ⟨ho, hlo⟩ := hlo
      simp only [batchB, Bool.and_eq_true, bne_iff_ne] at hB
      obtain ⟨⟨⟨⟨⟨hr, hf⟩, hne⟩, hl⟩, hp⟩, hB⟩ := hB
      rw [ho] at hp
      simp only at hp
      have hl' : LastWaits md ops last i listed := by
        intro ol hol
        rw [hol] at hl
        obtain ⟨e, he, hb⟩ := Array.any_eq_true'.1 hl
        simp only [Bool.and_eq_true, Bool.or_eq_true, beq_iff_eq, Bool.not_eq_true'] at hb
        obtain ⟨hb1, hb2⟩ := hb
        refine ⟨e, he, hb1, ?_⟩
        rcases hb2 with hb2 | ⟨hb2, hb3⟩
        · exact .inl hb2
        · right
          refine ⟨hb2, ?_⟩
          cases hk : ops[e.on]? with
          | none => rw [hk] at hb3; cases hb3
          | some ok =>
            rw [hk] at hb3
            obtain ⟨e', he', hb'⟩ := Array.any_eq_true'.1 hb3
            simp only [Bool.and_eq_true, beq_iff_eq] at hb'
            exact ⟨ok, rfl, e', he', hb'⟩
      have key : ∃ v, YieldsIf P ops S o v a ∧ wpQuiet P ops S (fun a' => anyL P md ops Q S last f (marked listed (i :: r)) a' w) lo (a.put o.dst v) := by
        simp only [wpQuiet] at h
        split at h
        · rename_i hw
          obtain ⟨v, h1, h2⟩ := h
          refine ⟨v, .inl ⟨hw, fun w' hw' => ?_⟩, h2⟩
          have h3 := h1 w' hw'
          unfold Oper.quietAt at h3
          cases hrun : (execOp a.eval o).run P w' with
          | ok n w'' =>
            obtain ⟨u, rfl⟩ := plainOp_value hp hrun
            rw [hrun] at h3
            obtain ⟨rfl, rfl⟩ := h3
            rfl
          | halt x w'' =>
            rw [hrun] at h3
            exact h3.elim
        · rename_i hw
          exact ⟨undef, .inr ⟨by simpa using hw, rfl⟩, h⟩
      obtain ⟨v, hy, hrest⟩ := key
      have h4 := ih lo (listed.setIfInBounds i true) (a.put o.dst v) hlo hB hrest
      exact anyL_first ho (Region.noSelect_spec hs) (fun c a w h => put_panic hQ h) hne _ listed a w (Region.free_spec ho hf) hl' (by simpa using hr) hy hS h4
theorem range_picks (lo : List Oper) : ∀ (n k : Nat), k + n ≤ lo.length → (List.range' k n).map (lo.toArray[·]?) = ((lo.drop k).take n).map some := by
  intro n
  induction n with
  | zero => intro k _; simp
  | succ n ih =>
    intro k hk
    rw [List.range'_succ, List.map_cons, ih (k + 1) (by omega)]
    have hlt : k < lo.length := by omega
    rw [List.drop_eq_getElem_cons hlt, List.take_succ_cons, List.map_cons]
    congr 1
    simp [hlt]
theorem anyL_seg {lo : List Oper} (k n : Nat) (hs : Region.noSelect lo.toArray = true) (hQ : ∀ c (t u : Array Value) ds w, Q (.panic c) ⟨t, ds⟩ w → Q (.panic c) ⟨u, ds⟩ w) {w : World} (hS : S w) {f F : Nat} {listed : Array Bool} {a : Act}
    (hF : F = f + n) (hk : Nat.ble (k + n) lo.length = true) (hB : batchB md lo.toArray last listed (List.range' k n) = true)
    (h : wpQuiet P lo.toArray S (fun a' => anyL P md lo.toArray Q S last f (marked listed (List.range' k n)) a' w) ((lo.drop k).take n) a) : anyL P md lo.toArray Q S last F listed a w := by
  subst hF
  have := anyL_batch (P := P) (md := md) (ops := lo.toArray) (Q := Q) (S := S) (last := last) hs hQ hS (f := f) (List.range' k n) ((lo.drop k).take n) listed a (range_picks lo n k (Nat.le_of_ble_eq_true hk)) hB h
  simpa using this
theorem region_anyL {id : Nat} {a : Act} {w : World} (hm : P.follows .mixedOrders = true) (h : anyL P .any ops Q S last ops.size (Array.replicate ops.size false) a w.drew) : (Code.region id ops true).wp P Q a w :=
  wp_region_any hm (any_of_anyL _ _ _ _ h)
theorem anyL_act {i f : Nat} {o : Oper} {listed : Array Bool} {a : Act} {w : World} (hr : Region.ready md ops listed = [i]) (ho : ops[i]? = some o) (hg : o.guard = none)
    (h : ∀ K : Act → World → Prop, Hid (∀ a' w', (i ≠ last → S w') → anyL P md ops Q S last f (listed.setIfInBounds i true) a' w' → K a' w') → o.wp P a w K Q) : anyL P md ops Q S last (f + 1) listed a w := by
  refine ⟨fun h0 => (by rw [hr] at h0; cases h0), fun j hj => ?_⟩
  rw [hr] at hj
  obtain rfl : j = i := by simpa using hj
  unfold wpOp
  simp only [ho]
  rw [if_pos (by simp [Region.wanted, hg])]
  exact .inl (h _ (fun a' w' h1 h2 => ⟨h1, h2⟩))
theorem anyL_done {listed : Array Bool} {a : Act} {w : World} (hr : Region.ready md ops listed = []) (h : Q .normal a w) : ∀ f, anyL P md ops Q S last f listed a w
  | 0 => ⟨hr, h⟩
  | _ + 1 => ⟨fun _ => h, by rw [hr]; simp⟩
end
section
variable {P : Program} {ops : Array Oper} {Q : Exit → Act → World → Prop} {a : Act} {w : World}
end
theorem held_class (w : World) (p : Nat → Prop) : ∃ (ι : Type) (W : ι → World), (∃ i, W i = w) ∧ (∀ i g, p g → (W i).heap[g]? = w.heap[g]?) ∧ ∀ w', (∀ g, p g → w'.heap[g]? = w.heap[g]?) → ∃ j, w' = W j :=
  ⟨{ w' : World // ∀ g, p g → w'.heap[g]? = w.heap[g]? }, fun i => i.1, ⟨⟨w, fun _ _ => rfl⟩, rfl⟩, fun i => i.2, fun w' h => ⟨⟨w', h⟩, rfl⟩⟩
end Go.Um
