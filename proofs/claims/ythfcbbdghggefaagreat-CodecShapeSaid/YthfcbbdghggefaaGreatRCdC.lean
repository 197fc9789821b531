/-
  What decodes valid bytes, and what repairs, relate any bytes to what the reading of scalars gives, and to nothing else, plain Lean. No program is named here.
-/
import Derived.Test.YthfcbbdghggefaaGreatRCdB
namespace Go.Proofs.YthfcbbdghggefaaGreat
open Go.Proofs Go.Um Go.RowKit
/-- bytes, what they are repaired to, and whether nothing was wrong. -/
inductive Rep : List Int → List Int → Bool → Prop
  | nil : Rep [] [] true
  | cons {y w : List Int} {h : Bool} (hy : y ≠ []) (hr : Rep (y.drop (scanF y).2.1) w h) : Rep y ((scanF y).1 :: w) ((scanF y).2.2 && h)
theorem scan_row {g : List (List Span)} (hg : g ∈ rowsP) {y : List Int} (hf : fitL g y = true) : scanF y = (tvalF (scalarT g.length) (y.take g.length), g.length, true) := by
  unfold scanF
  rw [first_row g hg y hf]
theorem scan_true {y : List Int} (hy : byteL y) (h : (scanF y).2.2 = true) : ∃ g ∈ rowsP, fitL g y = true := by
  unfold scanF at h
  split at h
  · rename_i p hp
    exact first_some hy hp
  · cases h
theorem strict_rule {r : Rule} : r ∈ strictD.rules ↔ ∃ g ∈ rowsP, r = ⟨0, 0, g, g.length, [scalarT g.length]⟩ := by
  unfold strictD
  simp only [List.mem_map]
  constructor
  · rintro ⟨g, h1, rfl⟩; exact ⟨g, h1, rfl⟩
  · rintro ⟨g, h1, rfl⟩; exact ⟨g, h1, rfl⟩
theorem writes_one (t : Term) (w : List Int) : writesV [t] w = [tvalF t w] := rfl
/-- one row's step, in any description that has it. -/
theorem run_row {d : Desc} {x : List Int} (hx : symX x) {a : Nat} {g : List (List Span)} (hg : g ∈ rowsP) (hr : (⟨0, 0, g, g.length, [scalarT g.length]⟩ : Rule) ∈ d.rules) (hf : fitL g (x.drop a) = true) {w : List Int} (h : Run d x (a + (scanF (x.drop a)).2.1) 0 w) :
    Run d x a 0 ((scanF (x.drop a)).1 :: w) := by
  rw [scan_row hg hf] at h ⊢
  refine .step _ hr rfl ((fitsX_iff hx g a).2 hf) (u := w) ?_ ?_
  · show Run d x (a + (g.length : Int).toNat) 0 w
    rw [Int.toNat_natCast]
    exact h
  · rw [writes_one]
    rfl
/-- how many of a row's guards fit. -/
def preF : List (List Span) → List Int → Nat
  | g :: gs, z :: zs => if hasB g z = true then preF gs zs + 1 else 0
  | _, _ => 0
theorem pre_take : ∀ (gs : List (List Span)) (y : List Int), fitL (gs.take (preF gs y)) y = true ∧ preF gs y ≤ gs.length ∧ preF gs y ≤ y.length
  | [], y => by simp [preF, fitL]
  | g :: gs, [] => by simp [preF, fitL]
  | g :: gs, z :: zs => by
    unfold preF
    split
    · rename_i hb
      obtain ⟨h1, h2, h3⟩ := pre_take gs zs
      rw [List.take_succ_cons]
      unfold fitL
      rw [hb, h1]
      simp
      omega
    · simp [fitL]
theorem pre_more : ∀ {gs : List (List Span)} {y : List Int} {g : List Span} {z : Int}, gs[preF gs y]? = some g → y[preF gs y]? = some z → hasB g z = false
  | [], y, g, z, h, _ => by simp at h
  | g :: gs, [], _, z, _, h => by simp at h
  | g :: gs, z :: zs, g', z', h1, h2 => by
    unfold preF at h1 h2
    split at h1
    · rename_i hb
      rw [if_pos hb] at h2
      exact pre_more (gs := gs) (y := zs) (by simpa using h1) (by simpa using h2)
    · rename_i hb
      rw [if_neg hb] at h2
      simp at h1 h2
      subst h1 h2
      simpa using hb
theorem fitL_snoc : ∀ {gs : List (List Span)} {y : List Int} {g : List Span} {z : Int}, fitL gs y = true → y[gs.length]? = some z → hasB g z = true → fitL (gs ++ [g]) y = true
  | [], y, g, z, _, hz, hb => by
    match y, hz with
    | a :: t, hz =>
      simp at hz
      subst hz
      simp [fitL, hb]
  | h :: gs, [], g, z, hf, _, _ => by simp [fitL] at hf
  | h :: gs, a :: t, g, z, hf, hz, hb => by
    unfold fitL at hf
    rw [Bool.and_eq_true] at hf
    rw [List.cons_append]
    unfold fitL
    rw [hf.1, fitL_snoc hf.2 (by simpa using hz) hb]
    rfl
theorem rule_broke {g : List (List Span)} (hg : g ∈ rowsP) {k : Nat} (hk : k + 1 < g.length) : (⟨0, 0, g.take (k + 1) ++ [minusF allB (g.getD (k + 1) [])], (k : Int) + 1, badT⟩ : Rule) ∈ repairD.rules := by
  unfold repairD
  refine List.mem_append.2 (.inl (List.mem_append.2 (.inr (List.mem_flatMap.2 ⟨g, hg, ?_⟩))))
  unfold brokeR
  exact List.mem_map.2 ⟨k, List.mem_range.2 (by omega), rfl⟩
theorem final_broke {g : List (List Span)} (hg : g ∈ rowsP) {k : Nat} (hk : k + 1 < g.length) : (⟨0, g.take (k + 1), badT⟩ : Final) ∈ repairD.finals := by
  unfold repairD
  refine List.mem_append.2 (.inr (List.mem_flatMap.2 ⟨g, hg, ?_⟩))
  unfold brokeE
  exact List.mem_map.2 ⟨k, List.mem_range.2 (by omega), rfl⟩
theorem bad_writes (w : List Int) : writesV badT w = [65533] := by
  simp [writesV, badT, constT, tvalF, valF, outerT, sumV, pw]
theorem firstP_eq : firstP = [⟨128, 193⟩, ⟨245, 255⟩] := by decide +kernel
theorem most_1 {a : Int} {t : List Int} (ha : 0 ≤ a ∧ a ≤ 223) (ht : byteL t) : mostF (a :: t) = 1 := by
  unfold mostF
  rw [if_neg, if_neg]
  · rintro ⟨h1, h2⟩
    match t, h1, ht with
    | b :: t, _, ht =>
      have hb := ht b (by simp)
      rcases h2 with h2 | h2
      · have := (beg23 (a := a) (by omega) hb).1 h2
        omega
      · have := (beg24 (a := a) (by omega) hb).1 h2
        omega
  · rintro ⟨h1, h2⟩
    match t, h1, ht with
    | b :: c :: t, _, ht =>
      have hb := ht b (by simp)
      have hc := ht c (by simp)
      have := (beg34 (a := a) (by omega) hb hc).1 h2
      omega
theorem most_9 {a : Int} {t : List Int} (ha : 245 ≤ a ∧ a ≤ 255) (ht : byteL t) : mostF (a :: t) = 1 := by
  unfold mostF
  rw [if_neg, if_neg]
  · rintro ⟨h1, h2⟩
    match t, h1, ht with
    | b :: t, _, ht =>
      have hb := ht b (by simp)
      rcases h2 with h2 | h2
      · have := (beg23 (a := a) (by omega) hb).1 h2
        omega
      · have := (beg24 (a := a) (by omega) hb).1 h2
        omega
  · rintro ⟨h1, h2⟩
    match t, h1, ht with
    | b :: c :: t, _, ht =>
      have hb := ht b (by simp)
      have hc := ht c (by simp)
      have := (beg34 (a := a) (by omega) hb hc).1 h2
      omega
theorem most_3 {lo hi l2 h2 : Int} (hlo : 224 ≤ lo) (hhi : hi ≤ 239) (h1 : ∀ a b : Int, lo ≤ a → a ≤ hi → (l2 ≤ b ∧ b ≤ h2 ↔ 128 ≤ b ∧ b ≤ 191 ∧ (a = 224 → 160 ≤ b) ∧ (a = 237 → b ≤ 159))) {a : Int} {t : List Int} (ha : lo ≤ a ∧ a ≤ hi) (ht : byteL t)
    (hk : preF (rowP lo hi l2 h2 1) (a :: t) < 3) : mostF (a :: t) = preF (rowP lo hi l2 h2 1) (a :: t) := by
  have e0 : hasB [⟨lo, hi⟩] a = true := (hasB_one _ _ _).2 ha
  have n3 : ¬ (3 ≤ (a :: t).length ∧ begF ((a :: t).take 3) 4 = true) := by
    rintro ⟨g1, g2⟩
    match t, g1, ht with
    | b :: c :: t, _, ht =>
      have := (beg34 (a := a) (by omega) (ht b (by simp)) (ht c (by simp))).1 g2
      omega
  unfold mostF
  rw [if_neg n3]
  match t, ht with
  | [], _ => simp [rowP, preF, e0]
  | b :: t, ht =>
    have hb := ht b (by simp)
    have hbe := h1 a b ha.1 ha.2
    have q := (beg23 (a := a) (b := b) (by omega) hb)
    have q4 : ¬ begF [a, b] 4 = true := fun h => by have := (beg24 (a := a) (by omega) hb).1 h; omega
    by_cases hin : l2 ≤ b ∧ b ≤ h2
    · have e1 : hasB [⟨l2, h2⟩] b = true := (hasB_one _ _ _).2 hin
      rw [if_pos ⟨by simp, .inl (q.2 ⟨by omega, by omega, hbe.1 hin⟩)⟩]
      unfold rowP preF at hk ⊢
      rw [if_pos e0] at hk ⊢
      unfold preF at hk ⊢
      rw [if_pos e1] at hk ⊢
      omega
    · have e1 : ¬ hasB [⟨l2, h2⟩] b = true := fun h => hin ((hasB_one _ _ _).1 h)
      rw [if_neg (by
        rintro ⟨_, h | h⟩
        · exact hin (hbe.2 (q.1 h).2.2)
        · exact q4 h)]
      unfold rowP preF
      rw [if_pos e0]
      unfold preF
      rw [if_neg e1]
theorem most_4 {lo hi l2 h2 : Int} (hlo : 240 ≤ lo) (hhi : hi ≤ 244) (h1 : ∀ a b : Int, lo ≤ a → a ≤ hi → (l2 ≤ b ∧ b ≤ h2 ↔ 128 ≤ b ∧ b ≤ 191 ∧ (a = 240 → 144 ≤ b) ∧ (a = 244 → b ≤ 143))) {a : Int} {t : List Int} (ha : lo ≤ a ∧ a ≤ hi) (ht : byteL t)
    (hk : preF (rowP lo hi l2 h2 2) (a :: t) < 4) : mostF (a :: t) = preF (rowP lo hi l2 h2 2) (a :: t) := by
  have e0 : hasB [⟨lo, hi⟩] a = true := (hasB_one _ _ _).2 ha
  unfold mostF
  match t, ht with
  | [], _ => simp [rowP, preF, e0]
  | b :: t, ht =>
    have hb := ht b (by simp)
    have hbe := h1 a b ha.1 ha.2
    have q := (beg24 (a := a) (b := b) (by omega) hb)
    have q3 : ¬ begF [a, b] 3 = true := fun h => by have := (beg23 (a := a) (by omega) hb).1 h; omega
    by_cases hin : l2 ≤ b ∧ b ≤ h2
    · have e1 : hasB [⟨l2, h2⟩] b = true := (hasB_one _ _ _).2 hin
      match t, ht with
      | [], _ =>
        rw [if_neg (by rintro ⟨h, _⟩; simp at h), if_pos ⟨by simp, .inr (q.2 ⟨by omega, by omega, hbe.1 hin⟩)⟩]
        simp [rowP, preF, e0, e1, tailP]
      | c :: t, ht =>
        have hc := ht c (by simp)
        have p := (beg34 (a := a) (b := b) (c := c) (by omega) hb hc)
        have hbb := hbe.1 hin
        by_cases hcc : 128 ≤ c ∧ c ≤ 191
        · have e2 : hasB tailP c = true := (hasB_one _ _ _).2 hcc
          rw [if_pos ⟨by simp, p.2 ⟨by omega, by omega, hbb.1, hbb.2.1, hbb.2.2.1, hbb.2.2.2, hcc.1, hcc.2⟩⟩]
          rw [show rowP lo hi l2 h2 2 = [[⟨lo, hi⟩], [⟨l2, h2⟩], tailP, tailP] from rfl] at hk ⊢
          simp only [preF, if_pos e0, if_pos e1, if_pos e2] at hk ⊢
          omega
        · have e2 : ¬ hasB tailP c = true := fun h => hcc ((hasB_one _ _ _).1 h)
          rw [if_neg (by
            rintro ⟨_, h⟩
            exact hcc (p.1 h).2.2.2.2.2.2), if_pos ⟨by simp, .inr (q.2 ⟨by omega, by omega, hbb⟩)⟩]
          rw [show rowP lo hi l2 h2 2 = [[⟨lo, hi⟩], [⟨l2, h2⟩], tailP, tailP] from rfl]
          simp only [preF, if_pos e0, if_pos e1, if_neg e2]
    · have e1 : ¬ hasB [⟨l2, h2⟩] b = true := fun h => hin ((hasB_one _ _ _).1 h)
      rw [if_neg (by
        rintro ⟨g1, g2⟩
        match t, g1, ht with
        | c :: t, _, ht =>
          have := (beg34 (a := a) (b := b) (c := c) (by omega) hb (ht c (by simp))).1 g2
          exact hin (hbe.2 ⟨this.2.2.1, this.2.2.2.1, this.2.2.2.2.1, this.2.2.2.2.2.1⟩)), if_neg (by
        rintro ⟨_, h | h⟩
        · exact q3 h
        · exact hin (hbe.2 (q.1 h).2.2))]
      unfold rowP preF
      rw [if_pos e0]
      unfold preF
      rw [if_neg e1]
end Go.Proofs.YthfcbbdghggefaaGreat
