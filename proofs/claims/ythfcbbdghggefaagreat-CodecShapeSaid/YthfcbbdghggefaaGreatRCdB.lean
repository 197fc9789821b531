/-
  Bytes read scalar by scalar, and repaired: what stands at a place, and the rows of what decodes and repairs, plain Lean. No program is named here.
-/
import Derived.Test.YthfcbbdghggefaaGreatRCdA
namespace Go.Proofs.YthfcbbdghggefaaGreat
open Go.Proofs Go.Um Go.RowKit
def fitL : List (List Span) → List Int → Bool
  | [], _ => true
  | _ :: _, [] => false
  | g :: gs, z :: zs => hasB g z && fitL gs zs
def byteL (x : List Int) : Prop := ∀ z ∈ x, 0 ≤ z ∧ z ≤ 255
def symX (x : List Int) : Prop := ∀ z ∈ x, -1073741824 ≤ z ∧ z ≤ 1073741824
theorem byteL.sym {x : List Int} (h : byteL x) : symX x := fun z hz => by have := h z hz; omega
theorem byteL.drop {x : List Int} (h : byteL x) (n : Nat) : byteL (x.drop n) := fun z hz => h z (List.mem_of_mem_drop hz)
theorem fitL_iff : ∀ {gs : List (List Span)} {y : List Int}, symX y → (fitL gs y = true ↔ gs.length ≤ y.length ∧ ∀ (i : Nat) (g : List Span) (z : Int), gs[i]? = some g → y[i]? = some z → inSet g z)
  | [], y, _ => by simp [fitL]
  | g :: gs, [], _ => by simp [fitL]
  | g :: gs, z :: zs, h => by
    have hz := h z (by simp)
    have ih := fitL_iff (gs := gs) (y := zs) fun q hq => h q (by simp [hq])
    unfold fitL
    rw [Bool.and_eq_true, hasB_iff, ih]
    constructor
    · rintro ⟨h1, h2, h3⟩
      refine ⟨by simpa using h2, fun i g' z' hg' hz' => ?_⟩
      cases i with
      | zero =>
        simp at hg' hz'
        subst hg' hz'
        exact ⟨hz, h1⟩
      | succ i => exact h3 i g' z' (by simpa using hg') (by simpa using hz')
    · rintro ⟨h1, h2⟩
      exact ⟨(h2 0 g z (by simp) (by simp)).2, by simpa using h1, fun i g' z' hg' hz' => h2 (i + 1) g' z' (by simpa using hg') (by simpa using hz')⟩
theorem fitsX_iff {x : List Int} (hx : symX x) (gs : List (List Span)) (a : Nat) : fitsX x gs a ↔ fitL gs (x.drop a) = true := by
  rw [fitL_iff (fun z hz => hx z (List.mem_of_mem_drop hz))]
  unfold fitsX
  simp only [List.length_drop, List.getElem?_drop]
def tryF (y : List Int) (n : Nat) : Option (Int × Nat) := if n ≤ y.length then (scalF (y.take n)).map fun x => (x, n) else none
def firstF (y : List Int) : Option (Int × Nat) := (tryF y 1).or ((tryF y 2).or ((tryF y 3).or (tryF y 4)))
def mostF (y : List Int) : Nat := if 3 ≤ y.length ∧ begF (y.take 3) 4 = true then 3 else if 2 ≤ y.length ∧ (begF (y.take 2) 3 = true ∨ begF (y.take 2) 4 = true) then 2 else 1
def scanF (y : List Int) : Int × Nat × Bool := match firstF y with
  | some p => (p.1, p.2, true)
  | none => (65533, mostF y, false)
theorem try_none {y : List Int} {n : Nat} (h : ∀ x, scalF (y.take n) ≠ some x) : tryF y n = none := by
  unfold tryF
  split
  · cases hs : scalF (y.take n) with
    | none => rfl
    | some x => exact absurd hs (h x)
  · rfl
theorem try_some {y : List Int} {n : Nat} {p : Int × Nat} (h : tryF y n = some p) : n ≤ y.length ∧ p.2 = n ∧ scalF (y.take n) = some p.1 := by
  unfold tryF at h
  split at h
  · rename_i hl
    cases hs : scalF (y.take n) with
    | none => rw [hs] at h; cases h
    | some x =>
      rw [hs] at h
      injection h with h
      subst h
      exact ⟨hl, rfl, rfl⟩
  · cases h
theorem try_of {y : List Int} {n : Nat} {x : Int} (hl : n ≤ y.length) (h : scalF (y.take n) = some x) : tryF y n = some (x, n) := by
  unfold tryF
  rw [if_pos hl, h]
  rfl
theorem rows_cases {p : List (List Span) → Prop} (h1 : p [[⟨0, 127⟩]]) (h2 : p (rowP 194 223 128 191 0)) (h3 : p (rowP 224 224 160 191 1)) (h4 : p (rowP 225 236 128 191 1)) (h5 : p (rowP 237 237 128 159 1)) (h6 : p (rowP 238 239 128 191 1))
    (h7 : p (rowP 240 240 144 191 2)) (h8 : p (rowP 241 243 128 191 2)) (h9 : p (rowP 244 244 128 143 2)) : ∀ g ∈ rowsP, p g := by
  intro g hg
  simp only [rowsP, List.mem_cons, List.not_mem_nil, or_false] at hg
  rcases hg with rfl | rfl | rfl | rfl | rfl | rfl | rfl | rfl | rfl <;> assumption
theorem first_1 {a : Int} {t : List Int} (ha : 0 ≤ a ∧ a ≤ 127) : firstF (a :: t) = some (a, 1) := by
  have h : tryF (a :: t) 1 = some (a, 1) := try_of (by simp) ((scal1 (by omega)).2 ⟨by omega, rfl⟩)
  unfold firstF
  rw [h]
  rfl
theorem no_1 {a : Int} {t : List Int} (ha : 128 ≤ a ∧ a ≤ 255) : tryF (a :: t) 1 = none := try_none fun x h => by
  have := (scal1 (a := a) (by omega)).1 h
  omega
theorem no_2 {a b : Int} {t : List Int} (ha : 224 ≤ a ∧ a ≤ 255) (hb : 0 ≤ b ∧ b ≤ 255) : tryF (a :: b :: t) 2 = none := try_none fun x h => by
  have := (scal2 (a := a) (by omega) hb).1 h
  omega
theorem no_3 {a b c : Int} {t : List Int} (ha : 240 ≤ a ∧ a ≤ 255) (hb : 0 ≤ b ∧ b ≤ 255) (hc : 0 ≤ c ∧ c ≤ 255) : tryF (a :: b :: c :: t) 3 = none := try_none fun x h => by
  have := (scal3 (a := a) (by omega) hb hc).1 h
  omega
theorem first_2 {a b : Int} {t : List Int} (ha : 194 ≤ a ∧ a ≤ 223) (hb : 128 ≤ b ∧ b ≤ 191) : firstF (a :: b :: t) = some ((a - 192) * 64 + (b - 128), 2) := by
  have h : tryF (a :: b :: t) 2 = some ((a - 192) * 64 + (b - 128), 2) := try_of (by simp) ((scal2 (by omega) (by omega)).2 ⟨by omega, by omega, by omega, by omega, rfl⟩)
  unfold firstF
  rw [no_1 (by omega), h]
  rfl
theorem first_3 {a b c : Int} {t : List Int} (ha : 224 ≤ a ∧ a ≤ 239) (hb : 128 ≤ b ∧ b ≤ 191) (hc : 128 ≤ c ∧ c ≤ 191) (h1 : a = 224 → 160 ≤ b) (h2 : a = 237 → b ≤ 159) : firstF (a :: b :: c :: t) = some ((a - 224) * 4096 + (b - 128) * 64 + (c - 128), 3) := by
  have h : tryF (a :: b :: c :: t) 3 = some ((a - 224) * 4096 + (b - 128) * 64 + (c - 128), 3) := try_of (by simp) ((scal3 (by omega) (by omega) (by omega)).2 ⟨by omega, by omega, by omega, by omega, by omega, by omega, h1, h2, rfl⟩)
  unfold firstF
  rw [no_1 (by omega), no_2 (by omega) (by omega), h]
  rfl
theorem first_4 {a b c d : Int} {t : List Int} (ha : 240 ≤ a ∧ a ≤ 244) (hb : 128 ≤ b ∧ b ≤ 191) (hc : 128 ≤ c ∧ c ≤ 191) (hd : 128 ≤ d ∧ d ≤ 191) (h1 : a = 240 → 144 ≤ b) (h2 : a = 244 → b ≤ 143) : firstF (a :: b :: c :: d :: t) = some ((a - 240) * 262144 + (b - 128) * 4096 + (c - 128) * 64 + (d - 128), 4) := by
  have h : tryF (a :: b :: c :: d :: t) 4 = some ((a - 240) * 262144 + (b - 128) * 4096 + (c - 128) * 64 + (d - 128), 4) := try_of (by simp) ((scal4 (by omega) (by omega) (by omega) (by omega)).2 ⟨by omega, by omega, by omega, by omega, by omega, by omega, by omega, by omega, h1, h2, rfl⟩)
  unfold firstF
  rw [no_1 (by omega), no_2 (by omega) (by omega), no_3 (by omega) (by omega) (by omega), h]
  rfl
theorem hasB_one (lo hi z : Int) : hasB [⟨lo, hi⟩] z = true ↔ lo ≤ z ∧ z ≤ hi := by simp [hasB]
theorem fit_1 {g : List Span} {y : List Int} (h : fitL [g] y = true) : ∃ a t, y = a :: t ∧ hasB g a = true := by
  match y, h with
  | [], h => simp [fitL] at h
  | a :: t, h => exact ⟨a, t, rfl, by simpa [fitL] using h⟩
theorem fit_cons {g : List Span} {gs : List (List Span)} {y : List Int} (h : fitL (g :: gs) y = true) : ∃ a t, y = a :: t ∧ hasB g a = true ∧ fitL gs t = true := by
  match y, h with
  | [], h => simp [fitL] at h
  | a :: t, h =>
    unfold fitL at h
    rw [Bool.and_eq_true] at h
    exact ⟨a, t, rfl, h.1, h.2⟩
theorem tval1 {a : Int} (ha : 0 ≤ a ∧ a ≤ 127) : tvalF (scalarT 1) [a] = a := by
  simp [tvalF, scalarT, copyT, valF, outerT, sumV, pw]
  omega
theorem tval2 {a b : Int} (ha : 194 ≤ a ∧ a ≤ 223) (hb : 128 ≤ b ∧ b ≤ 191) : tvalF (scalarT 2) [a, b] = (a - 192) * 64 + (b - 128) := by
  simp [tvalF, scalarT, valF, outerT, sumV, pw, List.range_succ]
  omega
theorem tval3 {a b c : Int} (ha : 224 ≤ a ∧ a ≤ 239) (hb : 128 ≤ b ∧ b ≤ 191) (hc : 128 ≤ c ∧ c ≤ 191) : tvalF (scalarT 3) [a, b, c] = (a - 224) * 4096 + (b - 128) * 64 + (c - 128) := by
  simp [tvalF, scalarT, valF, outerT, sumV, pw, List.range_succ]
  omega
theorem tval4 {a b c d : Int} (ha : 240 ≤ a ∧ a ≤ 244) (hb : 128 ≤ b ∧ b ≤ 191) (hc : 128 ≤ c ∧ c ≤ 191) (hd : 128 ≤ d ∧ d ≤ 191) : tvalF (scalarT 4) [a, b, c, d] = (a - 240) * 262144 + (b - 128) * 4096 + (c - 128) * 64 + (d - 128) := by
  simp [tvalF, scalarT, valF, outerT, sumV, pw, List.range_succ]
  omega
theorem row3 {lo hi l2 h2 : Int} (hlo : 224 ≤ lo) (hhi : hi ≤ 239) (hl2 : 128 ≤ l2) (hh2 : h2 ≤ 191) (h1 : ∀ a b : Int, lo ≤ a → a ≤ hi → l2 ≤ b → b ≤ h2 → (a = 224 → 160 ≤ b) ∧ (a = 237 → b ≤ 159)) {y : List Int} (hf : fitL (rowP lo hi l2 h2 1) y = true) :
    firstF y = some (tvalF (scalarT (rowP lo hi l2 h2 1).length) (y.take (rowP lo hi l2 h2 1).length), (rowP lo hi l2 h2 1).length) := by
  unfold rowP tailP at hf
  obtain ⟨a, t, rfl, ha, hf⟩ := fit_cons hf
  obtain ⟨b, t, rfl, hb, hf⟩ := fit_cons hf
  obtain ⟨c, t, rfl, hc⟩ := fit_1 hf
  rw [hasB_one] at ha hb hc
  have h3 := h1 a b ha.1 ha.2 hb.1 hb.2
  show _ = some (tvalF (scalarT 3) [a, b, c], 3)
  rw [tval3 (by omega) (by omega) (by omega), first_3 (by omega) (by omega) (by omega) h3.1 h3.2]
theorem row4 {lo hi l2 h2 : Int} (hlo : 240 ≤ lo) (hhi : hi ≤ 244) (hl2 : 128 ≤ l2) (hh2 : h2 ≤ 191) (h1 : ∀ a b : Int, lo ≤ a → a ≤ hi → l2 ≤ b → b ≤ h2 → (a = 240 → 144 ≤ b) ∧ (a = 244 → b ≤ 143)) {y : List Int} (hf : fitL (rowP lo hi l2 h2 2) y = true) :
    firstF y = some (tvalF (scalarT (rowP lo hi l2 h2 2).length) (y.take (rowP lo hi l2 h2 2).length), (rowP lo hi l2 h2 2).length) := by
  unfold rowP tailP at hf
  obtain ⟨a, t, rfl, ha, hf⟩ := fit_cons hf
  obtain ⟨b, t, rfl, hb, hf⟩ := fit_cons hf
  obtain ⟨c, t, rfl, hc, hf⟩ := fit_cons hf
  obtain ⟨d, t, rfl, hd⟩ := fit_1 hf
  rw [hasB_one] at ha hb hc hd
  have h3 := h1 a b ha.1 ha.2 hb.1 hb.2
  show _ = some (tvalF (scalarT 4) [a, b, c, d], 4)
  rw [tval4 (by omega) (by omega) (by omega) (by omega), first_4 (by omega) (by omega) (by omega) (by omega) h3.1 h3.2]
/-- what a row fits is what stands there. -/
theorem first_row : ∀ g ∈ rowsP, ∀ y : List Int, fitL g y = true → firstF y = some (tvalF (scalarT g.length) (y.take g.length), g.length) := by
  refine rows_cases ?_ ?_ (fun y => row3 (by omega) (by omega) (by omega) (by omega) (by omega)) (fun y => row3 (by omega) (by omega) (by omega) (by omega) (by omega)) (fun y => row3 (by omega) (by omega) (by omega) (by omega) (by omega)) (fun y => row3 (by omega) (by omega) (by omega) (by omega) (by omega))
    (fun y => row4 (by omega) (by omega) (by omega) (by omega) (by omega)) (fun y => row4 (by omega) (by omega) (by omega) (by omega) (by omega)) (fun y => row4 (by omega) (by omega) (by omega) (by omega) (by omega))
  · intro y hf
    obtain ⟨a, t, rfl, ha⟩ := fit_1 hf
    rw [hasB_one] at ha
    show _ = some (tvalF (scalarT 1) [a], 1)
    rw [tval1 ha, first_1 ha]
  · intro y hf
    unfold rowP tailP at hf
    obtain ⟨a, t, rfl, ha, hf⟩ := fit_cons hf
    obtain ⟨b, t, rfl, hb⟩ := fit_1 hf
    rw [hasB_one] at ha hb
    show _ = some (tvalF (scalarT 2) [a, b], 2)
    rw [tval2 ha hb, first_2 ha hb]
theorem row_mem (i : Nat) (g : List (List Span)) (h : rowsP[i]? = some g) : g ∈ rowsP := List.mem_of_getElem? h
/-- what stands there is what a row fits. -/
theorem first_some {y : List Int} (hy : byteL y) {p : Int × Nat} (h : firstF y = some p) : ∃ g ∈ rowsP, fitL g y = true := by
  unfold firstF at h
  rw [Option.or_eq_some_iff] at h
  rcases h with h | ⟨_, h⟩
  · obtain ⟨h1, _, h3⟩ := try_some h
    match y, h1, h3, hy with
    | a :: t, _, h3, hy =>
      have ha := hy a (by simp)
      have := (scal1 ha).1 h3
      exact ⟨_, row_mem 0 _ rfl, by simp [fitL, hasB]; omega⟩
  rw [Option.or_eq_some_iff] at h
  rcases h with h | ⟨_, h⟩
  · obtain ⟨h1, _, h3⟩ := try_some h
    match y, h1, h3, hy with
    | a :: b :: t, _, h3, hy =>
      have ha := hy a (by simp)
      have hb := hy b (by simp)
      have := (scal2 ha hb).1 h3
      exact ⟨_, row_mem 1 _ rfl, by simp [fitL, hasB, rowP]; omega⟩
  rw [Option.or_eq_some_iff] at h
  rcases h with h | ⟨_, h⟩
  · obtain ⟨h1, _, h3⟩ := try_some h
    match y, h1, h3, hy with
    | a :: b :: c :: t, _, h3, hy =>
      have ha := hy a (by simp)
      have hb := hy b (by simp)
      have hc := hy c (by simp)
      have h4 := (scal3 ha hb hc).1 h3
      by_cases e1 : a = 224
      · exact ⟨_, row_mem 2 _ rfl, by simp [fitL, hasB, rowP, tailP]; omega⟩
      by_cases e2 : a ≤ 236
      · exact ⟨_, row_mem 3 _ rfl, by simp [fitL, hasB, rowP, tailP]; omega⟩
      by_cases e3 : a = 237
      · exact ⟨_, row_mem 4 _ rfl, by simp [fitL, hasB, rowP, tailP]; omega⟩
      · exact ⟨_, row_mem 5 _ rfl, by simp [fitL, hasB, rowP, tailP]; omega⟩
  · obtain ⟨h1, _, h3⟩ := try_some h
    match y, h1, h3, hy with
    | a :: b :: c :: d :: t, _, h3, hy =>
      have ha := hy a (by simp)
      have hb := hy b (by simp)
      have hc := hy c (by simp)
      have hd := hy d (by simp)
      have h4 := (scal4 ha hb hc hd).1 h3
      by_cases e1 : a = 240
      · exact ⟨_, row_mem 6 _ rfl, by simp [fitL, hasB, rowP, tailP]; omega⟩
      by_cases e2 : a ≤ 243
      · exact ⟨_, row_mem 7 _ rfl, by simp [fitL, hasB, rowP, tailP]; omega⟩
      · exact ⟨_, row_mem 8 _ rfl, by simp [fitL, hasB, rowP, tailP]; omega⟩
end Go.Proofs.YthfcbbdghggefaaGreat
