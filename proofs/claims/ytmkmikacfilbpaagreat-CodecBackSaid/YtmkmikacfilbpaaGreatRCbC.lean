/-
  What stands at a place, as the program finds it: a scalar, and some bytes: utf.Scan.
-/
import Derived.Test.YtmkmikacfilbpaaGreatRCbB
import Derived.Test.YtmkmikacfilbpaaGreatPi
import Derived.Test.YtmkmikacfilbpaaGreatRMkC
import Derived.Test.YtmkmikacfilbpaaGreatPc
namespace Go.Proofs.YtmkmikacfilbpaaGreat
open Go.RowKit Go.Um Go.Proofs
/-- bytes that fit a row, and the row: a scalar. -/
theorem value_any (g : List (List Span)) (hg : g ∈ rowsP) (b : List Int) (hf : fitL g b = true) (hl : b.length = g.length) (v : Value) (w : World) (h : bytesR.rel w (upto w.heap.size) [v] b) :
    Calls Tryz.prog 112 #[v] w fun e w' => ∃ z, e = .returned (.int .i32 z) ∧ scalP z ∧ Below w.heap.size w w' := by
  have key : ∀ {lo hi l2 h2 : Int}, g = rowP lo hi l2 h2 0 → ∃ a b', b = [a, b'] ∧ (lo ≤ a ∧ a ≤ hi) ∧ (l2 ≤ b' ∧ b' ≤ h2) := by
    intro lo hi l2 h2 e
    subst e
    unfold rowP at hf hl
    obtain ⟨a, t, rfl, h1, h2⟩ := fit_cons hf
    obtain ⟨b', t', rfl, h3, h4⟩ := fit_cons h2
    simp at hl
    subst hl
    exact ⟨a, b', rfl, (hasB_one _ _ _).1 h1, (hasB_one _ _ _).1 h3⟩
  have key3 : ∀ {lo hi l2 h2 : Int}, g = rowP lo hi l2 h2 1 → ∃ a b' c, b = [a, b', c] ∧ (lo ≤ a ∧ a ≤ hi) ∧ (l2 ≤ b' ∧ b' ≤ h2) ∧ (128 ≤ c ∧ c ≤ 191) := by
    intro lo hi l2 h2 e
    subst e
    unfold rowP tailP at hf hl
    obtain ⟨a, t, rfl, h1, h2⟩ := fit_cons hf
    obtain ⟨b', t', rfl, h3, h4⟩ := fit_cons h2
    obtain ⟨c, t'', rfl, h5, h6⟩ := fit_cons h4
    simp at hl
    subst hl
    exact ⟨a, b', c, rfl, (hasB_one _ _ _).1 h1, (hasB_one _ _ _).1 h3, (hasB_one _ _ _).1 h5⟩
  have key4 : ∀ {lo hi l2 h2 : Int}, g = rowP lo hi l2 h2 2 → ∃ a b' c d, b = [a, b', c, d] ∧ (lo ≤ a ∧ a ≤ hi) ∧ (l2 ≤ b' ∧ b' ≤ h2) ∧ (128 ≤ c ∧ c ≤ 191) ∧ (128 ≤ d ∧ d ≤ 191) := by
    intro lo hi l2 h2 e
    subst e
    unfold rowP tailP at hf hl
    obtain ⟨a, t, rfl, h1, h2⟩ := fit_cons hf
    obtain ⟨b', t', rfl, h3, h4⟩ := fit_cons h2
    obtain ⟨c, t'', rfl, h5, h6⟩ := fit_cons h4
    obtain ⟨d, t3, rfl, h7, h8⟩ := fit_cons h6
    simp at hl
    subst hl
    exact ⟨a, b', c, d, rfl, (hasB_one _ _ _).1 h1, (hasB_one _ _ _).1 h3, (hasB_one _ _ _).1 h5, (hasB_one _ _ _).1 h7⟩
  have c3 : ∀ {lo hi l2 h2 : Int}, g = rowP lo hi l2 h2 1 → 224 ≤ lo → hi ≤ 239 → 128 ≤ l2 → h2 ≤ 191 → (lo = 224 → 160 ≤ l2) → (lo ≤ 237 → 237 ≤ hi → h2 ≤ 159) → Calls Tryz.prog 112 #[v] w fun e w' => ∃ z, e = .returned (.int .i32 z) ∧ scalP z ∧ Below w.heap.size w w' := by
    intro lo hi l2 h2 e q1 q2 q3 q4 q5 q6
    obtain ⟨a, b', c, rfl, ha, hb, hc⟩ := key3 e
    refine (value3_calls a b' c ⟨by omega, by omega⟩ ⟨by omega, by omega⟩ hc v w h).mono fun e w' hh => ⟨_, hh.1, ?_, hh.2⟩
    unfold scalP
    omega
  have c4 : ∀ {lo hi l2 h2 : Int}, g = rowP lo hi l2 h2 2 → 240 ≤ lo → hi ≤ 244 → 128 ≤ l2 → h2 ≤ 191 → (lo = 240 → 144 ≤ l2) → (hi = 244 → h2 ≤ 143) → Calls Tryz.prog 112 #[v] w fun e w' => ∃ z, e = .returned (.int .i32 z) ∧ scalP z ∧ Below w.heap.size w w' := by
    intro lo hi l2 h2 e q1 q2 q3 q4 q5 q6
    obtain ⟨a, b', c, d, rfl, ha, hb, hc, hd⟩ := key4 e
    refine (value4_calls a b' c d ⟨by omega, by omega⟩ ⟨by omega, by omega⟩ hc hd v w h).mono fun e w' hh => ⟨_, hh.1, ?_, hh.2⟩
    unfold scalP
    omega
  have hg' := hg
  unfold rowsP at hg'
  simp only [List.mem_cons, List.not_mem_nil, or_false] at hg'
  rcases hg' with e | e | e | e | e | e | e | e | e
  · subst e
    obtain ⟨a, t, rfl, h1⟩ := fit_1 hf
    simp at hl
    subst hl
    have h2 := (hasB_one _ _ _).1 h1
    refine (value1_calls a h2 v w h).mono fun e w' hh => ⟨_, hh.1, ?_, hh.2⟩
    unfold scalP
    omega
  · obtain ⟨a, b', rfl, ha, hb⟩ := key e
    refine (value2_calls a b' ha hb v w h).mono fun e w' hh => ⟨_, hh.1, ?_, hh.2⟩
    unfold scalP
    omega
  · exact c3 e (by omega) (by omega) (by omega) (by omega) (by omega) (by omega)
  · exact c3 e (by omega) (by omega) (by omega) (by omega) (by omega) (by omega)
  · exact c3 e (by omega) (by omega) (by omega) (by omega) (by omega) (by omega)
  · exact c3 e (by omega) (by omega) (by omega) (by omega) (by omega) (by omega)
  · exact c4 e (by omega) (by omega) (by omega) (by omega) (by omega) (by omega)
  · exact c4 e (by omega) (by omega) (by omega) (by omega) (by omega) (by omega)
  · exact c4 e (by omega) (by omega) (by omega) (by omega) (by omega) (by omega)
end Go.Proofs.YtmkmikacfilbpaaGreat
